/- thwartref12.Same -/
import Derived.Test.YtllaflgcladgoaaDoorBase
import Derived.Test.YtllaflgcladgoaaDoorProg
import Derived.Deep.DeepCutAuto
import Derived.Deep.QuietTactic
import Derived.BigQuiet
namespace Go.Proofs.YtllaflgcladgoaaDoor
open Go Go.RowKit Go.Thw

structure SameW (w : World) (v v' : Int) (av bv' : Value) (wr : World) : Prop where
  hA : wr.heap[w.heap.size]? = some (.cells #[.int .i64 v, av] 32 (0, 0))
  hB : wr.heap[w.heap.size + 1]? = some (.cells #[.int .i64 v', bv'] 32 (0, 0))
  bel : Below w.heap.size w wr
theorem SameW.start (w : World) (v v' : Int) (av bv' : Value) : SameW w v v' av bv' ((w.alloc (.cells #[.int .i64 v, av] 32)).alloc (.cells #[.int .i64 v', bv'] 32)) := by
  have hs1 : (w.alloc (.cells #[.int .i64 v, av] 32)).heap.size = w.heap.size + 1 := by simp
  refine ⟨?_, ?_, ((Below.refl _ w).alloc (Nat.le_refl _) _).alloc (by simp) _⟩
  · rw [Below.heap_alloc _ _ _ (by omega)]; exact heap_alloc_new w _
  · rw [← hs1]; exact heap_alloc_new _ _
theorem SameW.drew {w : World} {v v' : Int} {av bv' : Value} {wr : World} (h : SameW w v v' av bv' wr) : SameW w v v' av bv' wr.drew := ⟨h.hA, h.hB, h.bel.drew⟩
theorem SameW.drewN {w : World} {v v' : Int} {av bv' : Value} {wr : World} (h : SameW w v v' av bv' wr) (n : Nat) : SameW w v v' av bv' (wr.drewN n) := ⟨h.hA, h.hB, below_drewN h.bel n⟩

def SameRel (w : World) (v : Int) (av bv' : Value) (n : Nat) (iv : Value) (wr : World) : Prop := ∃ k : Nat, iv = .int .i64 k ∧ k ≤ n ∧ SameW w v v av bv' wr

set_option maxRecDepth 20000 in
set_option maxHeartbeats 3200000 in
theorem ref_Same (w : World) (v v' : Int) (a a' : Option Addr) (c c' : Nat) (xs ys : List SegD) (hn : xs.length ≤ 1000) (hn' : ys.length ≤ 1000) (ha : SegsIn w a xs) (hb : SegsIn w a' ys) :
    Calls Tryd.prog 13 #[.agg #[.int .i64 v, .slice a xs.length c], .agg #[.int .i64 v', .slice a' ys.length c']] w fun e w' => (∃ t : Bool, e = .returned (.bool t) ∧ (v = v' → xs = ys → t = true)) ∧ Below w.heap.size w w' := by
  have Ha := Lib.hid ha; clear ha
  have Hb := Lib.hid hb; clear hb
  by_cases hv : v = v'
  · subst hv
    by_cases hl : xs.length = ys.length
    · have Hl := Lib.hid hl
      generalize hyn : ys.length = n at *
      subst hl
      go_enter Tryd.func13, Tryd.ntmps13
      go_wp2_with fail
      go_loopw [5] (SameRel w v (.slice a xs.length c) (.slice a' xs.length c') xs.length) (fun i _ => xs.length - (intOf i).toNat)
      case atStart => exact ⟨0, rfl, by omega, SameW.start _ _ _ _ _⟩
      case round =>
        obtain ⟨k, rfl, hk, ht⟩ := hrel
        have cA : wr.cell? ⟨w.heap.size, 1, none⟩ = some (.slice a xs.length c) := cell_of_row wr _ 1 _ _ _ ht.hA
        have cB : wr.cell? ⟨w.heap.size + 1, 1, none⟩ = some (.slice a' xs.length c') := cell_of_row wr _ 1 _ _ _ ht.hB
        by_cases h : k < xs.length
        · obtain ⟨b, o, rfl, hlt, e1, e2, e3⟩ := (Ha.out.below ht.bel).at_ k h
          obtain ⟨b', o', rfl, hlt', f1, f2, f3⟩ := (Hb.out.below ht.bel).at_ k (by omega)
          have hext : xs = ys → xs[k] = ys[k]'(by omega) := fun e => by subst e; rfl
          have Hext := Lib.hid hext; clear hext
          generalize xs[k] = x at *
          generalize ys[k]'(by omega) = y at *
          have hk1 : (0 : Int) ≤ (k : Int) := Int.natCast_nonneg _
          have hk2 : (k : Int) < (xs.length : Int) := by omega
          by_cases hxy : x = y
          · subst hxy
            go_wp2_with fail
            go_quiet (fail)
            go_wp2_with fail
            go_roundw
            case rel => exact ⟨k + 1, by go_num, by omega, by first | exact ht.drewN _ | exact ht.drew⟩
            case measure => simp [intOf]; omega
          · have hno : xs ≠ ys := fun e => hxy (Hext.out e)
            have Hno := Lib.hid hno; clear hno Hext
            obtain ⟨n1, s1, m1⟩ := x
            obtain ⟨n2, s2, m2⟩ := y
            simp only at e1 e2 e3 f1 f2 f3
            have hcase : (n1 == n2) = false ∨ (n1 = n2 ∧ (s1 == s2) = false) ∨ (n1 = n2 ∧ s1 = s2 ∧ ((m1 : Int) == (m2 : Int)) = false) := by
              simp only [SegD.mk.injEq] at hxy
              simp only [beq_eq_false_iff_ne, ne_eq, Int.natCast_inj]
              omega
            clear hxy
            rcases hcase with q | ⟨rfl, q⟩ | ⟨rfl, rfl, q⟩
            all_goals
              go_wp2_with fail
              go_quiet (fail)
              go_wp2_with fail
              go_ret
              exact ⟨⟨false, rfl, fun _ h => absurd h Hno.out⟩, by first | exact (ht.drewN _).bel | exact ht.drew.bel⟩
        · obtain rfl : k = xs.length := by omega
          go_wp2_with fail
          go_ret
          exact ⟨⟨true, rfl, fun _ _ => rfl⟩, ht.bel⟩
    · have hq : ((xs.length : Int) == (ys.length : Int)) = false := by simp only [beq_eq_false_iff_ne, ne_eq, Int.natCast_inj]; exact hl
      have hno : xs ≠ ys := fun e => hl (by rw [e])
      have Hno := Lib.hid hno; clear hno hl
      go_enter Tryd.func13, Tryd.ntmps13
      go_wp2_with fail
      go_ret
      exact ⟨⟨false, rfl, fun _ h => absurd h Hno.out⟩, (SameW.start w v v _ _).bel⟩
  · have hq : (v == v') = false := by simpa using hv
    go_enter Tryd.func13, Tryd.ntmps13
    go_wp2_with fail
    go_ret
    exact ⟨⟨false, rfl, fun h => absurd h hv⟩, (SameW.start w v v' _ _).bel⟩
end Go.Proofs.YtllaflgcladgoaaDoor
