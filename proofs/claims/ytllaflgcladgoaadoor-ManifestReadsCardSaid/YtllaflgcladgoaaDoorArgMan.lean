/- a manifest among a law's arguments: opened; and the post of a law whose arguments have places -/
import Derived.Test.YtllaflgcladgoaaDoorLaws
import Derived.Deep.Slices
import Derived.Deep.Strs
import Derived.Carry
namespace Go.Proofs.YtllaflgcladgoaaDoor
open Go Go.ChangeShapes Go.WideShapes Go.ChangeAt Go.RowKit Go.Thw

theorem cMan : Tryd.prog.cellsOf 24 = 2 := by kernel_rfl
theorem cSeg : Tryd.prog.cellsOf 46 = 3 := by kernel_rfl
theorem cInt : Tryd.prog.cellsOf 3 = 1 := by kernel_rfl
theorem cU32 : Tryd.prog.cellsOf 44 = 1 := by kernel_rfl
theorem cSegs : Tryd.prog.cellsOf 22 = 1 := by kernel_rfl

instance : Inhabited SegD := ⟨⟨0, 0, 0⟩⟩
section
variable {H : Type} {enc : TypeId × Value → H} {W : World} {base : Nat} {sp : Nat → Bool} {held : Bool}
set_option maxRecDepth 100000 in
theorem open_seg {fuel : Nat} {cs : List Value} {x : DataW H × List MemPlace} (h : DataW.trod enc Tryd.prog W base sp held fuel 46 cs = some x) :
    ∃ s : SegD, cs = [.int .i64 s.N, .int .i64 s.Size, .int .u32 (s.Sum : Int)] ∧ s.fits := by
  obtain ⟨y0, y1, y2, n, rfl, hl, t0, t1, t2⟩ := Go.Deep.trod_struct3 Tryd.underlying46 h
  rw [cSeg] at hl
  match cs, hl with
  | [u0, u1, u2], _ =>
    simp [cInt, cU32] at t0 t1 t2
    obtain ⟨n0, e0, _, w0⟩ := DataW.trod_int Tryd.underlying3 t0
    obtain ⟨n1, e1, _, w1⟩ := DataW.trod_int Tryd.underlying3 t1
    obtain ⟨n2, e2, _, w2⟩ := DataW.trod_int Tryd.underlying44 t2
    simp at e0 e1 e2
    subst e0 e1 e2
    simp only [Lit.wf, Bool.and_eq_true, decide_eq_true_eq] at w0 w1 w2
    have m0 : IntKind.i64.min = -9223372036854775808 := rfl
    have m1 : IntKind.i64.max = 9223372036854775807 := rfl
    have m2 : IntKind.u32.min = 0 := rfl
    have m3 : IntKind.u32.max = 4294967295 := rfl
    rw [m0, m1] at w0 w1
    rw [m2, m3] at w2
    refine ⟨⟨n0, n1, n2.toNat⟩, ?_, ⟨⟨by simp only; omega, by simp only; omega⟩, ⟨by simp only; omega, by simp only; omega⟩, by simp only; omega⟩⟩
    simp only [Int.toNat_of_nonneg w2.1]
set_option maxRecDepth 100000 in
theorem open_man {v : Value} {d : DataW H} {ps : List MemPlace} {r : Reach} {b0 : Nat} (hval : Value.okWide Tryd.prog W r b0 24 v) (hd : DataW.Trod enc Tryd.prog W base sp held 24 v d ps) :
    ∃ (n : Int) (a : Option Addr) (c : Nat) (xs : List SegD), v = .agg #[.int .i64 n, .slice a xs.length c] ∧ SegsIn W a xs := by
  obtain ⟨cs, rfl, _⟩ := okWide_struct Tryd.underlying24 hval
  obtain ⟨fuel, hf⟩ := hd
  obtain ⟨y0, y1, n, hx, hl, t0, t1⟩ := trod_struct2 Tryd.underlying24 hf
  rw [cMan] at hl
  obtain ⟨l⟩ := cs
  match l, hl with
  | [u0, u1], _ =>
    simp [Value.cells, cInt, cSegs] at t0 t1
    obtain ⟨n0, e0, _, _⟩ := DataW.trod_int Tryd.underlying3 t0
    simp at e0
    subst e0
    rcases Go.Deep.open_slice Tryd.underlying22 t1 with ⟨e1, _⟩ | ⟨a, len, cap, m, k, D, Pl, e1, _, hlc, _, hm, _, hel⟩
    · simp at e1
      subst e1
      exact ⟨n0, none, 0, [], rfl, SegsIn.nil _ _⟩
    · simp at e1
      subst e1
      have hlm : len ≤ m := by rw [hm]; split <;> omega
      have each : ∀ i, i < len → ∃ s : SegD, (W.cell? (a.add (i * 3)) = some (.int .i64 s.N) ∧ W.cell? (a.add (i * 3 + 1)) = some (.int .i64 s.Size) ∧ W.cell? (a.add (i * 3 + 2)) = some (.int .u32 (s.Sum : Int))) ∧ s.fits := by
        intro i hi
        obtain ⟨cs', h1, h2⟩ := hel i (by omega)
        rw [cSeg] at h1
        obtain ⟨_, hlen, hcell⟩ := World.cells?_some h1
        obtain ⟨s, rfl, hs⟩ := open_seg h2
        have g0 := hcell 0 (by omega)
        have g1 := hcell 1 (by omega)
        have g2 := hcell 2 (by omega)
        rw [Go.Deep.add_add] at g0 g1 g2
        exact ⟨s, ⟨by simpa using g0, by simpa using g1, by simpa using g2⟩, hs⟩
      obtain ⟨q, hq⟩ := Go.Deep.choose_lt each
      refine ⟨n0, some a, cap, (List.range len).map q, by simp, fun i hi => ?_, fun s hs => ?_⟩
      · have hi' : i < len := by simpa using hi
        obtain ⟨⟨z0, _, _⟩, _⟩ := hq 0 (by omega)
        obtain ⟨⟨g0, g1, g2⟩, _⟩ := hq i hi'
        obtain ⟨b, off, spot⟩ := a
        have hspot : spot = none := by simpa [Addr.add] using World.cell?_spot z0
        subst hspot
        rw [add_plain] at g0 g1 g2
        have hb := World.block_lt_of_cell? _ _ g0
        simp only [List.getElem_map, List.getElem_range]
        exact ⟨b, off, rfl, hb, g0, g1, g2⟩
      · obtain ⟨i, hi, rfl⟩ := List.mem_map.1 hs
        exact (hq i (by simpa using hi)).2
end

/-- the law's post, where nothing old has turned: the arguments read as they did -/
theorem post_args {H : Type} {enc : TypeId × Value → H} {P : Program} {f : Func} {s : ChangeSpec} {apart fresh handsOn : Bool} {W W' : World} {args : Array Value} {v : Value} {ds gs : List (DataW H)} {before pa pv : List MemPlace}
    (hW : DataW.Whole enc P f.params.toList s.vars apart W args.toList ds gs before)
    (hres : ∀ (b : Nat) (sp : Nat → Bool) (hd : Bool), DataW.TrodAll enc P W' b sp hd f.resultTypes.toList (v.resultList f.resultTypes.size) (s.fn H (ds ++ gs)).results [])
    (hargs : DataW.TrodAll enc P W' 0 (fun b => decide (b < W.heap.size)) true f.params.toList args.toList (s.fn H (ds ++ gs)).args pa)
    (hvars : DataW.TrodVars enc P W' (fun b => decide (b < W.heap.size)) s.vars (s.fn H (ds ++ gs)).vars pv)
    (hps : before = pa ++ pv) (hk : W.keptBut W' (· ∈ before)) :
    s.post enc P f apart fresh handsOn false W args v W' := by
  refine ⟨ds, gs, before, [], pa, pv, hW, hres _ _ _, hargs, hvars, World.keptBut_mono (fun p hp => ⟨hp, ?_⟩) hk, fun h => by cases h⟩
  rw [hps, List.mem_append] at hp
  exact Or.inr hp
end Go.Proofs.YtllaflgcladgoaaDoor
