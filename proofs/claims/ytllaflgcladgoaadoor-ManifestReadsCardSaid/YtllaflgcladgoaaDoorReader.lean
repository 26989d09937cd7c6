/- manifest: must, take, the deferred closure of Read -/
import Derived.Test.YtllaflgcladgoaaDoorTake
import Derived.Test.YtllaflgcladgoaaDoorBytes
import Derived.Defers
import Derived.Recover
namespace Go.Proofs.YtllaflgcladgoaaDoor
open Go Go.RowKit Go.Thw

def formPanic : List PanicEntry := [{ v := .iface 26 (.int .i64 2), recovered := false }]

set_option maxHeartbeats 400000 in
theorem must_true (w : World) : Calls Tryd.prog 31 #[.bool true] w fun e w' => e = .returned (.tuple #[]) ∧ w = w' := by
  go_enter Tryd.func31, Tryd.ntmps31
  go_wp2_with fail
  go_end0
  exact ⟨rfl, rfl⟩
set_option maxHeartbeats 400000 in
theorem must_false (w : World) : Calls Tryd.prog 31 #[.bool false] w fun e w' => e = .panicked formPanic ∧ w = w' := by
  go_enter Tryd.func31, Tryd.ntmps31
  go_wp2_with fail
  exact ⟨rfl, rfl, rfl⟩

set_option maxRecDepth 20000 in
set_option maxHeartbeats 800000 in
theorem take_ok (b : Nat) (s : List UInt8) (lim n : Nat) (r : List UInt8) (hs : s.length ≤ 140737488351232) (ht : takeL s = (n, r, 0)) (hn : n ≤ lim) (w : World)
    (hc : w.cell? ⟨b, 0, none⟩ = some (.string (bs s))) (hf : w.frozen? ⟨b, 0, none⟩ = false) :
    Calls Tryd.prog 30 #[.pointer (some ⟨b, 0, none⟩), .int .u64 lim] w fun e w' => e = .returned (.int .u64 n) ∧ ∃ w1, Below w.heap.size w w1 ∧ w' = w1.setCell ⟨b, 0, none⟩ (.string (bs r)) := by
  have H := varint_Take s hs
  rw [ht] at H
  have H := Lib.hid H
  have hlt := World.block_lt_of_cell? w _ hc
  have hn' : (n : Int) ≤ (lim : Int) := by omega
  clear ht
  go_enter Tryd.func30, Tryd.ntmps30
  go_wp2_with (first
    | (go_at_call 40; refine (H.out _).mono ?_; unfold takeV; rintro e w1 ⟨rfl, hb1⟩; have hc1 := (hb1.cell (p := ⟨b, 0, none⟩) hlt).trans hc; have hf1 := (hb1.frozen (p := ⟨b, 0, none⟩) hlt).trans hf)
    | (go_at_call 31; refine (must_true _).mono ?_; rintro e w2 ⟨rfl, rfl⟩))
  go_ret
  exact ⟨rfl, _, hb1, rfl⟩
set_option maxRecDepth 20000 in
set_option maxHeartbeats 800000 in
theorem take_bad (b : Nat) (s : List UInt8) (lim : Nat) (hs : s.length ≤ 140737488351232) (ht : (takeL s).2.2 ≠ 0 ∨ lim < (takeL s).1) (w : World)
    (hc : w.cell? ⟨b, 0, none⟩ = some (.string (bs s))) :
    Calls Tryd.prog 30 #[.pointer (some ⟨b, 0, none⟩), .int .u64 lim] w fun e w' => e = .panicked formPanic ∧ Below w.heap.size w w' := by
  have H := varint_Take s hs
  generalize takeL s = tt at H ht
  obtain ⟨n, r, c⟩ := tt
  have H := Lib.hid H
  by_cases h0 : c = 0
  · subst h0
    have hn' : (lim : Int) < (n : Int) := by simp at ht; omega
    have hd : decide (n ≤ lim) = false := by simp; omega
    clear ht
    go_enter Tryd.func30, Tryd.ntmps30
    go_wp2_with (first
      | (go_at_call 40; refine (H.out _).mono ?_; unfold takeV; rintro e w1 ⟨rfl, hb1⟩)
      | (go_at_call 31; refine (must_false _).mono ?_; rintro e w2 ⟨rfl, rfl⟩))
    exact ⟨rfl, rfl, hb1⟩
  · have hc' : ((c : Int) == 0) = false := by simpa using h0
    clear ht
    go_enter Tryd.func30, Tryd.ntmps30
    go_wp2_with (first
      | (go_at_call 40; refine (H.out _).mono ?_; unfold takeV; rintro e w1 ⟨rfl, hb1⟩)
      | (go_at_call 31; refine (must_false _).mono ?_; rintro e w2 ⟨rfl, rfl⟩))
    exact ⟨rfl, rfl, hb1⟩

def zeroMan : List Value := [.int .i64 0, .slice none 0 0]
theorem assert_form (w : World) : (Instr.typeAssert (.iface 26 (.int .i64 2)) 20 26 true).run Tryd.prog w = .ok (.tuple #[.int .i64 2, .bool true]) w := by kernel_rfl
theorem assert_nil (w : World) : (Instr.typeAssert .nilIface 20 26 true).run Tryd.prog w = .ok (.tuple #[.int .i64 0, .bool false]) w := by kernel_rfl
set_option maxRecDepth 20000 in
/-- the deferred closure, where a panic goes on: the results are laid -/
theorem catch_panicking (g : Nat) (c0 c1 : Value) (x : Value) (older : List PanicEntry) (w : World)
    (hm : w.heap[g]? = some (.cells #[c0, c1] 24 (0, 0))) (he : w.heap[g + 1]? = some (.cells #[x] 26 (0, 0))) :
    CallsD Tryd.prog 28 #[.pointer (some ⟨g, 0, none⟩), .pointer (some ⟨g + 1, 0, none⟩)] (.panicking ({ v := .iface 26 (.int .i64 2), recovered := false } :: older)) w fun e u' w' =>
      e = .returned (.tuple #[]) ∧ u' = .panicking ({ v := .iface 26 (.int .i64 2), recovered := true } :: older) ∧
        w' = ((w.setCell ⟨g, 0, none⟩ (.int .i64 0)).setCell ⟨g, 1, none⟩ (.slice none 0 0)).setCell ⟨g + 1, 0, none⟩ (.int .i64 2) := by
  have hc0 : w.cell? ⟨g, 0, none⟩ = some c0 := cell_of_row w g 0 _ _ _ hm
  have hc1 : w.cell? ⟨g, 1, none⟩ = some c1 := cell_of_row w g 1 _ _ _ hm
  have hce : w.cell? ⟨g + 1, 0, none⟩ = some x := cell_of_row w (g + 1) 0 _ _ _ he
  have hf0 : w.frozen? ⟨g, 0, none⟩ = false := frozen_of_row w g 0 _ _ hm
  have hf1 : w.frozen? ⟨g, 1, none⟩ = false := frozen_of_row w g 1 _ _ hm
  have hfe : w.frozen? ⟨g + 1, 0, none⟩ = false := frozen_of_row w (g + 1) 0 _ _ he
  refine callsD_of_wpS Tryd.func28 rfl fun c₀ cs hu => ?_
  apply wpS_seq
  apply wpS_region
  simp [wpOpsS, go_sem, recoverD, hu, Tryd.ntmps28, Exit.thenS, assert_form]
  refine wpS_of_wp ?_
  simp only [Array.replicate_succ, Array.replicate_zero, List.push_toArray, List.append_toArray, List.nil_append, List.cons_append, List.setIfInBounds_toArray, List.set_cons_zero, List.set_cons_succ]
  go_wp2_with fail
  simp [bodyPostS, results, Tryd.results28]

set_option maxRecDepth 20000 in
theorem catch_idle (g : Nat) (w : World) :
    CallsD Tryd.prog 28 #[.pointer (some ⟨g, 0, none⟩), .pointer (some ⟨g + 1, 0, none⟩)] .returning w fun e u' w' => e = .returned (.tuple #[]) ∧ u' = .returning ∧ w' = w := by
  refine callsD_of_wpS Tryd.func28 rfl fun c₀ cs hu => ?_
  apply wpS_seq
  apply wpS_region
  simp [wpOpsS, go_sem, recoverD, hu, Tryd.ntmps28, Exit.thenS, assert_nil]
  refine wpS_of_wp ?_
  simp only [Array.replicate_succ, Array.replicate_zero, List.push_toArray, List.append_toArray, List.nil_append, List.cons_append, List.setIfInBounds_toArray, List.set_cons_zero, List.set_cons_succ]
  go_wp2_with fail
  cases c₀
  simp_all [bodyPostS, results, Tryd.results28]
end Go.Proofs.YtllaflgcladgoaaDoor
