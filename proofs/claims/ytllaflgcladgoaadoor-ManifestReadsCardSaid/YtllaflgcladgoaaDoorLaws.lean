/- what the listed variables give; the door's own heap meets the list -/
import Derived.Test.YtllaflgcladgoaaDoorNames
import Derived.Test.YtllaflgcladgoaaDoorCards
import Derived.Test.YtllaflgcladgoaaDoorTie
import Derived.WalkKit
import Derived.ProofKit
import Derived.LaidMore
import Derived.OpenShut
import Derived.Stop.Joined
import Derived.Lib.LaidTab
namespace Go.Proofs.YtllaflgcladgoaaDoor
open Go Go.ChangeShapes Go.WideShapes Go.ChangeAt Go.RowKit Go.Thw

theorem own : ownKnob Tryd.prog.godebug = none := by kernel_rfl
theorem gEs : Tryd.prog.globalNamed "strconv.ErrSyntax" = some 0 := by kernel_rfl
theorem gEr : Tryd.prog.globalNamed "strconv.ErrRange" = some 1 := by kernel_rfl
theorem tEs : (Tryd.prog.globals[0]?).map (·.type) = some 69 := by kernel_rfl
theorem tEr : (Tryd.prog.globals[1]?).map (·.type) = some 69 := by kernel_rfl
theorem tTab : (Tryd.prog.globals[2]?).map (·.type) = some 125 := by kernel_rfl
theorem cTab : Tryd.prog.cellsOf 125 = 20 := by kernel_rfl
theorem cU64 : Tryd.prog.cellsOf 54 = 1 := by kernel_rfl

theorem iface_of_trod {H : Type} {enc : TypeId × Value → H} {P : Program} {w : World} {base : Nat} {sp : Nat → Bool} {held : Bool} {fuel : Nat} {t : TypeId} {cs : List Value} {n : String} {d : DataW H} {p : List MemPlace}
    (ht : ∃ ms, P.underlying t = some (.interface ms)) (h : DataW.trod enc P w base sp held fuel t cs = some (.iface n d, p)) : ∃ u v, cs = [.iface u v] := by
  obtain ⟨ms, ht⟩ := ht
  cases fuel with
  | zero => simp [DataW.trod] at h
  | succ k =>
    unfold DataW.trod at h
    rw [ht] at h
    split at h <;> simp_all
theorem one_of_toList {cs : Array Value} {v : Value} (h : cs.toList = [v]) : cs = #[v] := by
  apply Array.ext'; simpa using h

theorem vars_of_laid {W : World} (h : laidMetH Tryd.prog Rows.manifestOrderRow.laid W) : Vars W := by
  rw [MakeChecks.laidMetH_plain _ _ _ (by kernel_rfl)] at h
  obtain ⟨ps, ⟨_, _, _, _, _, _, _, _, _, _, ⟨_, _, _, _, _, _, _, _, _, _, ⟨g2, t2, cs2, f2, p2, q2, hg2, ht2, hv2, hd2, ⟨g3, t3, cs3, f3, p3, q3, hg3, ht3, hv3, hd3, ⟨g4, t4, cs4, f4, p4, q4, hg4, ht4, hv4, hd4, _⟩, _⟩, _⟩, _⟩, _⟩, _⟩ := h
  obtain rfl := Option.some.inj (glob_tab.symm.trans hg2)
  obtain rfl := Option.some.inj (gEr.symm.trans hg3)
  obtain rfl := Option.some.inj (gEs.symm.trans hg4)
  obtain rfl := Option.some.inj (tTab.symm.trans ht2)
  obtain rfl := Option.some.inj (tEr.symm.trans ht3)
  obtain rfl := Option.some.inj (tEs.symm.trans ht4)
  have e2 := Lib.cells_of_tab (zs := Lib.pow10Tab) Tryd.underlying125 Tryd.underlying54 cU64 cTab hd2
  obtain ⟨u3, v3, e3⟩ := iface_of_trod ⟨_, Tryd.underlying69⟩ hd3
  obtain ⟨u4, v4, e4⟩ := iface_of_trod ⟨_, Tryd.underlying69⟩ hd4
  have r3 := World.var?_cell gEr hv3 0
  have r4 := World.var?_cell gEs hv4 0
  have r2 := World.var?_cell glob_tab hv2 0
  rw [one_of_toList e3] at r3
  rw [one_of_toList e4] at r4
  rw [show cs2 = (Lib.pow10Tab.map fun z => Value.int .u64 z).toArray from by apply Array.ext'; simpa using e2] at hv2 r2
  exact ⟨World.block_lt_of_cell? W _ (u := .int .u64 1) (r2.trans rfl), hv2, ⟨u4, v4, r4⟩, ⟨u3, v3, r3⟩⟩

/-- the law's post, where nothing old has turned; new blocks may be frozen -/
theorem post_law {H : Type} {enc : TypeId × Value → H} {P : Program} {f : Func} {s : ChangeSpec} {apart fresh handsOn : Bool} {W W' : World} {args : Array Value} {v : Value} {ds gs : List (DataW H)} {before pa pv : List MemPlace}
    (hW : DataW.Whole enc P f.params.toList s.vars apart W args.toList ds gs before)
    (hres : ∀ (b : Nat) (sp : Nat → Bool) (hd : Bool), DataW.TrodAll enc P W' b sp hd f.resultTypes.toList (v.resultList f.resultTypes.size) (s.fn H (ds ++ gs)).results [])
    (hargs : ∀ sp : Nat → Bool, (∀ p ∈ before, sp p.block = true) → DataW.TrodAll enc P W' 0 sp true f.params.toList args.toList (s.fn H (ds ++ gs)).args pa)
    (hvars : ∀ sp : Nat → Bool, (∀ p ∈ before, sp p.block = true) → DataW.TrodVars enc P W' sp s.vars (s.fn H (ds ++ gs)).vars pv)
    (hps : before = pa ++ pv) (hk : W.keptBut W' (· ∈ before)) :
    s.post enc P f apart fresh handsOn false W args v W' := by
  have hold : ∀ p ∈ before, (fun b => decide (b < W.heap.size)) p.block = true := fun p hp => by simpa using hW.lt p hp
  refine ⟨ds, gs, before, [], pa, pv, hW, hres _ _ _, hargs _ hold, hvars _ hold, World.keptBut_mono (fun p hp => ⟨hp, ?_⟩) hk, fun h => by cases h⟩
  rw [hps, List.mem_append] at hp
  exact Or.inr hp

theorem door_met (os : Os) (args : Array Value) : laidMetH Tryd.prog Rows.manifestOrderRow.laid ((World.doorLaid Tryd.prog 4000 os).forCall (fun _ _ => 0) ⟨#[], args, []⟩).memory :=
  laidMetH_of_parts3 (fuel := 8) (laidMet_of_run' 8 (by kernel_rfl) (by kernel_rfl)) (by kernel_rfl) (by kernel_rfl)
end Go.Proofs.YtllaflgcladgoaaDoor
