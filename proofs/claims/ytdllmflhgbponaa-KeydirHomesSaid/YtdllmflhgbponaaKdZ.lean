/- thwartlaw10.KeydirHomes returns true for every list of operations: the row -/
import Derived.Test.YtdllmflhgbponaaRows
import Derived.Test.YtdllmflhgbponaaKdH
import Derived.WalkKit
import Derived.ProofKit
import Derived.OpenShut
import Derived.Deep.Slices
import Derived.Deep.Strs
import Derived.Lib.SmallJoins
import Derived.Carry
namespace Go.Proofs.Ytdllmflhgbponaa
open Go Go.ChangeShapes Go.WideShapes Go.ChangeAt Go.RowKit Go.Thw

theorem own : ownKnob Try.prog.godebug = none := by kernel_rfl
theorem cOp : Try.prog.cellsOf 31 = 6 := by kernel_rfl
theorem cLoc : Try.prog.cellsOf 29 = 4 := by kernel_rfl
theorem cInt : Try.prog.cellsOf 3 = 1 := by kernel_rfl
theorem cStr : Try.prog.cellsOf 9 = 1 := by kernel_rfl
theorem cU64 : Try.prog.cellsOf 27 = 1 := by kernel_rfl

instance : Inhabited OpD := ⟨⟨0, [], ⟨0, 0, 0, 0⟩⟩⟩
section
variable {H : Type} {enc : TypeId × Value → H} {W : World} {base : Nat} {sp : Nat → Bool} {held : Bool}
set_option maxRecDepth 100000 in
theorem open_op {fuel : Nat} {cs : List Value} {x : DataW H × List MemPlace} (h : DataW.trod enc Try.prog W base sp held fuel 31 cs = some x) :
    ∃ s : OpD, cs = [.int .i64 s.Do, .string (bs s.Key), .int .i64 s.L.seg, .int .i64 s.L.off, .int .i64 s.L.len, .int .u64 s.L.seq] := by
  obtain ⟨y0, y1, y2, n, rfl, hl, t0, t1, t2⟩ := Go.Deep.trod_struct3 Try.underlying31 h
  rw [cOp] at hl
  match cs, hl with
  | [u0, u1, u2, u3, u4, u5], _ =>
    simp [cInt, cStr, cLoc] at t0 t1 t2
    obtain ⟨n0, e0, _, _⟩ := DataW.trod_int Try.underlying3 t0
    obtain ⟨s1, e1, _, _⟩ := DataW.trod_string Try.underlying9 t1
    obtain ⟨z0, z1, z2, z3, m, _, _, r0, r1, r2, r3⟩ := Go.Joins.trod_struct4 Try.underlying29 t2
    simp [cInt, cU64] at r0 r1 r2 r3
    obtain ⟨m0, f0, _, _⟩ := DataW.trod_int Try.underlying3 r0
    obtain ⟨m1, f1, _, _⟩ := DataW.trod_int Try.underlying3 r1
    obtain ⟨m2, f2, _, _⟩ := DataW.trod_int Try.underlying3 r2
    obtain ⟨m3, f3, _, _⟩ := DataW.trod_int Try.underlying27 r3
    simp at e0 e1 f0 f1 f2 f3
    subst e0 e1 f0 f1 f2 f3
    exact ⟨⟨n0, s1.data.toList, ⟨m0, m1, m2, m3⟩⟩, by simp only [← bs_of s1]⟩
set_option maxRecDepth 100000 in
theorem open_ops {v : Value} {d : DataW H} {ps : List MemPlace} {r : Reach} {b0 : Nat} (hval : Value.okWide Try.prog W r b0 22 v) (hd : DataW.Trod enc Try.prog W base sp held 22 v d ps) :
    ∃ (a : Option Addr) (c : Nat) (xs : List OpD), v = .slice a xs.length c ∧ OpsIn W a xs := by
  obtain ⟨a0, len0, cap0, rfl⟩ := okWide_slice Try.underlying22 hval
  obtain ⟨fuel, hf⟩ := hd
  rcases Go.Deep.open_slice Try.underlying22 hf with ⟨e1, _⟩ | ⟨a, len, cap, m, k, D, Pl, e1, _, hlc, _, hm, _, hel⟩
  · simp [Value.cells] at e1
    obtain ⟨rfl, rfl, rfl⟩ := e1
    exact ⟨none, 0, [], rfl, ⟨fun i h => absurd h (by simp)⟩⟩
  · simp [Value.cells] at e1
    obtain ⟨rfl, rfl, rfl⟩ := e1
    have hlm : len0 ≤ m := by rw [hm]; split <;> omega
    have each : ∀ i, i < len0 → ∃ s : OpD, W.cell? (a.add (i * 6)) = some (.int .i64 s.Do) ∧ W.cell? (a.add (i * 6 + 1)) = some (.string (bs s.Key)) ∧ W.cell? (a.add (i * 6 + 2)) = some (.int .i64 s.L.seg) ∧ W.cell? (a.add (i * 6 + 3)) = some (.int .i64 s.L.off) ∧ W.cell? (a.add (i * 6 + 4)) = some (.int .i64 s.L.len) ∧ W.cell? (a.add (i * 6 + 5)) = some (.int .u64 s.L.seq) := by
      intro i hi
      obtain ⟨cs', h1, h2⟩ := hel i (by omega)
      rw [cOp] at h1
      obtain ⟨_, hlen, hcell⟩ := World.cells?_some h1
      obtain ⟨s, rfl⟩ := open_op h2
      have g0 := hcell 0 (by omega)
      have g1 := hcell 1 (by omega)
      have g2 := hcell 2 (by omega)
      have g3 := hcell 3 (by omega)
      have g4 := hcell 4 (by omega)
      have g5 := hcell 5 (by omega)
      rw [Go.Deep.add_add] at g0 g1 g2 g3 g4 g5
      exact ⟨s, by simpa using g0, by simpa using g1, by simpa using g2, by simpa using g3, by simpa using g4, by simpa using g5⟩
    obtain ⟨q, hq⟩ := Go.Deep.choose_lt each
    refine ⟨some a, cap0, (List.range len0).map q, by simp, ⟨fun i hi => ?_⟩⟩
    have hi' : i < len0 := by simpa using hi
    obtain ⟨z0, _⟩ := hq 0 (by omega)
    obtain ⟨g0, g1, g2, g3, g4, g5⟩ := hq i hi'
    obtain ⟨b, off, spot⟩ := a
    have hspot : spot = none := by simpa [Addr.add] using World.cell?_spot z0
    subst hspot
    rw [add_plain] at g0 g1 g2 g3 g4 g5
    have hb := World.block_lt_of_cell? _ _ g0
    simp only [List.getElem_map, List.getElem_range]
    exact ⟨b, off, rfl, hb, g0, g1, g2, g3, g4, g5⟩
end

set_option maxRecDepth 100000 in
theorem homes_lifted (os : Os) (started : os.Started) (H : Type) (enc : TypeId × Value → H) :
    ReturnsInHanded {} Try.checked os 3 .any (Rows.keydirHomesSpec.pre6 enc Try.prog Try.f3 Rows.keydirHomesRow.domain false) (Rows.keydirHomesSpec.post enc Try.prog Try.f3 false true false false) := by
  refine returnsInHanded_of_change (C := Try.checked) own started (by kernel_rfl) Try.func3
    (ChangeSpec.witness6 (enc := enc) (C := Try.checked) false ⟨#[], #[.slice none 0 0], []⟩ 8 (by kernel_rfl) (by kernel_rfl) (by kernel_rfl) (by kernel_rfl)) ?_
  intro W base args ds gs before hval0 hW _ _
  have hval : ∀ (j : Nat) t v, Try.f3.params[j]? = some t → args[j]? = some v → Value.okWide Try.prog W .any base t v := hval0
  have hW' := hW
  obtain ⟨p, q, hA0, hV, rfl, _, _⟩ := hW
  have hA : DataW.TrodAll enc Try.prog W 0 (fun _ => true) true Try.f3.params.toList args.toList ds p := hA0
  rw [Try.params3] at hA hval
  obtain ⟨v0, vs0, d0, ds0, p0, q0, hargs, rfl, rfl, h0, r0⟩ := trodAll_cons hA
  obtain ⟨rfl, rfl, rfl⟩ := trodAll_nil r0
  obtain rfl : args = #[v0] := by cases args; simp_all
  obtain ⟨rfl, rfl⟩ := trodVars_none hV
  have hlt0 : ∀ x ∈ p0, x.block < W.heap.size := fun x hx => hW'.lt x (by simp [hx])
  obtain ⟨a0, c0, xs0, rfl, hs0⟩ := open_ops (hval 0 22 v0 rfl rfl) h0
  clear hA0 hval0
  simp only [List.append_nil] at hW'
  refine (homes_walk W a0 c0 xs0 hs0).mono fun e W' ⟨he, hb⟩ => ?_
  subst he
  refine ⟨_, rfl, _, _, _, [], _, [], hW', trodAll_cons_mk (shut_bool Try.underlying4 _) trodAll_mk0, trodAll_cons_mk (Below.trod (by kernel_rfl) (by kernel_rfl) (of_decide_eq_true (by kernel_rfl)) h0 hb hlt0) trodAll_mk0, rfl, hb.frame _, fun h => by cases h⟩

theorem homes_holds : Rows.KeydirHomesSaid :=
  OpenClaim.holds_of_wide 3 Try.f3 rfl rfl rfl rfl rfl rfl rfl ⟨rfl, rfl, rfl, rfl, rfl⟩ rfl rfl rfl rfl rfl (by kernel_rfl) Try.func3 (by kernel_rfl)
    (of_decide_eq_true (by kernel_rfl)) (by unfold Func.isWrapper; first | (rw [if_pos (by decide +kernel)]; kernel_rfl) | (rw [if_neg (by decide +kernel)]; exact ⟨rfl, rfl⟩))
    (fun os started H enc _ => homes_lifted os started H enc)
#print axioms homes_holds
end Go.Proofs.Ytdllmflhgbponaa
