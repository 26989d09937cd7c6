/- names of versions and objects: name, Name, Object, digits, Version; Of -/
import Derived.Test.YtllaflgcladgoaaDoorProg
import Derived.Test.YtllaflgcladgoaaDoorBase
import Derived.Test.YtllaflgcladgoaaDoorNum
import Derived.Test.YtllaflgcladgoaaDoorShelf
import Derived.Test.YtllaflgcladgoaaDoorRefCrc
import Derived.WalkSmall
import Derived.Lib.AppendIntMem
namespace Go.Proofs.YtllaflgcladgoaaDoor
open Go Go.RowKit Go.Thw

/-- what the listed variables of Go's library hold -/
structure Vars (w : World) : Prop where
  lt : 2 < w.heap.size
  tab : Lib.TabIs Tryd.prog w "internal/strconv.uint64pow10" .u64 Lib.pow10Tab
  es : ∃ t p, w.cell? ⟨0, 0, none⟩ = some (.iface t p)
  er : ∃ t p, w.cell? ⟨1, 0, none⟩ = some (.iface t p)
theorem glob_tab : Tryd.prog.globalNamed "internal/strconv.uint64pow10" = some 2 := by kernel_rfl
theorem Vars.below {w w' : World} (h : Vars w) (hb : Below w.heap.size w w') : Vars w' := by
  obtain ⟨t, p, he⟩ := h.es
  obtain ⟨t', p', hr⟩ := h.er
  exact ⟨Nat.lt_of_lt_of_le h.lt hb.size, var?_below hb glob_tab h.lt h.tab, ⟨t, p, (hb.cell (World.block_lt_of_cell? _ _ he)).trans he⟩, ⟨t', p', (hb.cell (World.block_lt_of_cell? _ _ hr)).trans hr⟩⟩

theorem itoa_c (n : Nat) (hn : n < 1000000) (w : World) (hv : Vars w) :
    Calls Tryd.prog 46 #[.int .i64 n] w fun e w' => e = .returned (.string (bs (Lib.decDigits n))) ∧ Below w.heap.size w w' := by
  refine (Tryd.strconv_Itoa (n : Int) (by omega) (by omega) w hv.tab).mono ?_
  rintro e w' ⟨rfl, k, os, rfl⟩
  have : Lib.itoa (n : Int) = Lib.decDigits n := by unfold Lib.itoa; rw [if_neg (by omega)]; simp
  exact ⟨by rw [this]; rfl, Lib.below_grow _ w (Nat.le_refl _) k os⟩
theorem repeat_c (c : Nat) (hc : c ≤ 6) (w : World) :
    Calls Tryd.prog 47 #[.string (bs [48]), .int .i64 c] w fun e w' => e = .returned (.string (bs (List.replicate c 48))) ∧ Below w.heap.size w w' := by
  refine (Tryd.strings_Repeat (bs [48]) c w (by omega) (by simp; omega)).mono ?_
  rintro e w' ⟨rfl, hb⟩
  exact ⟨by rw [← repeat48]; rfl, hb⟩

set_option maxRecDepth 20000 in
set_option maxHeartbeats 800000 in
theorem man_name_no (c : UInt8) (n f : Int) (hn : n < f ∨ 999999 < n) (w : World) :
    Calls Tryd.prog 38 #[.string (bs [c]), .int .i64 n, .int .i64 f] w fun e w' => e = .returned (.string (bs [])) ∧ w = w' := by
  by_cases h : n < f
  · have hd : decide (n < f) = true := by simpa using h
    clear hn
    go_enter Tryd.func38, Tryd.ntmps38
    go_wp2_with fail
    go_ret
    exact ⟨rfl, rfl⟩
  · have hd : decide (n < f) = false := by simpa using h
    have h2 : 999999 < n := by omega
    clear hn
    go_enter Tryd.func38, Tryd.ntmps38
    go_wp2_with fail
    go_ret
    exact ⟨rfl, rfl⟩

set_option maxRecDepth 20000 in
set_option maxHeartbeats 800000 in
theorem man_name_ok (c : UInt8) (n : Nat) (f : Int) (hn : n ≤ 999999) (hf : f ≤ (n : Int)) (w : World) (hv : Vars w) :
    Calls Tryd.prog 38 #[.string (bs [c]), .int .i64 n, .int .i64 f] w fun e w' => e = .returned (.string (bs (nameL c n))) ∧ Below w.heap.size w w' := by
  have hd : decide ((n : Int) < f) = false := by simpa using hf
  have hl := dec_len 5 n (by omega)
  have hp := pad 5 n (by omega)
  have q1 : (6 : Int) - ((Lib.decDigits n).length : Int) = ((6 - (Lib.decDigits n).length : Nat) : Int) := by omega
  have hc := repeat_c (6 - (Lib.decDigits n).length) (by omega)
  have Hc := Lib.hid hc; clear hc
  have hv0 := Lib.hid hv; clear hv
  have q2 : ¬ 9223372036854775807 < 1 + (6 - (Lib.decDigits n).length) := by omega
  have q3 : ¬ 9223372036854775807 < 1 + (6 - (Lib.decDigits n).length + (Lib.decDigits n).length) := by omega
  have Hp := Lib.hid hp; clear hp
  go_enter Tryd.func38, Tryd.ntmps38
  go_wp2_with (first
    | (go_at_call 46; refine (itoa_c n (by omega) _ hv0.out).mono ?_; rintro e w1 ⟨rfl, hb1⟩)
    | (go_at_call 47; refine (Hc.out _).mono ?_; rintro e w2 ⟨rfl, hb2⟩))
  go_ret
  refine ⟨?_, hb1.trans (hb2.mono hb1.size)⟩
  rw [nameL, ← Hp.out]; rfl

set_option maxRecDepth 20000 in
set_option maxHeartbeats 800000 in
theorem man_Name_ok (n : Nat) (h1 : 1 ≤ n) (hn : n ≤ 999999) (w : World) (hv : Vars w) :
    Calls Tryd.prog 20 #[.int .i64 n] w fun e w' => e = .returned (.string (bs (nameL 109 n))) ∧ Below w.heap.size w w' := by
  go_enter Tryd.func20, Tryd.ntmps20
  go_wp2_with (go_at_call 38; refine (man_name_ok 109 n 1 hn (by omega) _ hv).mono ?_; rintro e w1 ⟨rfl, hb1⟩)
  go_ret
  exact ⟨rfl, hb1⟩
set_option maxRecDepth 20000 in
set_option maxHeartbeats 800000 in
theorem man_Name_no (n : Int) (hn : n < 1 ∨ 999999 < n) (w : World) :
    Calls Tryd.prog 20 #[.int .i64 n] w fun e w' => e = .returned (.string (bs [])) ∧ w = w' := by
  go_enter Tryd.func20, Tryd.ntmps20
  go_wp2_with (go_at_call 38; refine (man_name_no 109 n 1 hn _).mono ?_; rintro e w1 ⟨rfl, rfl⟩)
  go_ret
  exact ⟨rfl, rfl⟩
set_option maxRecDepth 20000 in
set_option maxHeartbeats 800000 in
theorem man_Object_ok (n : Nat) (hn : n ≤ 999999) (w : World) (hv : Vars w) :
    Calls Tryd.prog 22 #[.int .i64 n] w fun e w' => e = .returned (.string (bs (nameL 111 n))) ∧ Below w.heap.size w w' := by
  go_enter Tryd.func22, Tryd.ntmps22
  go_wp2_with (go_at_call 38; refine (man_name_ok 111 n 0 hn (by omega) _ hv).mono ?_; rintro e w1 ⟨rfl, hb1⟩)
  go_ret
  exact ⟨rfl, hb1⟩
set_option maxRecDepth 20000 in
set_option maxHeartbeats 800000 in
theorem man_Object_no (n : Int) (hn : n < 0 ∨ 999999 < n) (w : World) :
    Calls Tryd.prog 22 #[.int .i64 n] w fun e w' => e = .returned (.string (bs [])) ∧ w = w' := by
  go_enter Tryd.func22, Tryd.ntmps22
  go_wp2_with (go_at_call 38; refine (man_name_no 111 n 0 hn _).mono ?_; rintro e w1 ⟨rfl, rfl⟩)
  go_ret
  exact ⟨rfl, rfl⟩

/-! the document's own -/
theorem ref_conv1 (b : Nat) (hb : b < 256) (W : World) (g : Nat) (h : W.cell? ⟨g, 0, none⟩ = some (.int .u8 (b : Int))) :
    (convert 76 9 (.slice (some ⟨g, 0, none⟩) 1 1)).run Tryd.prog W = .ok (.string (bs [UInt8.ofNat b])) W := by
  refine ref_conv (UInt8.ofNat b) W g ?_
  rw [UInt8.toNat_ofNat_of_lt' (show b < 256 from hb)]; exact h

def DigRel (w : World) (n : Nat) (nv sv iv : Value) (wr : World) : Prop :=
  ∃ k : Nat, k ≤ 6 ∧ iv = .int .i64 k ∧ nv = .int .i64 (n / 10 ^ k : Nat) ∧ sv = .string (bs (digK k n)) ∧ Below w.heap.size w wr

theorem digK_front : ∀ k n, digK (k + 1) n = UInt8.ofNat (48 + n / 10 ^ k % 10) :: digK k n
  | 0, n => by simp [digK]
  | k + 1, n => by
    rw [digK, digK_front k (n / 10), digK, List.cons_append, Nat.div_div_eq_div_mul, ← Nat.pow_succ']

set_option maxRecDepth 20000 in
set_option maxHeartbeats 800000 in
theorem ref_digits (n : Nat) (hn : n ≤ 999999) (w : World) :
    Calls Tryd.prog 39 #[.int .i64 n] w fun e w' => e = .returned (.string (bs (digK 6 n))) ∧ Below w.heap.size w w' := by
  go_enter Tryd.func39, Tryd.ntmps39
  go_wp2_with fail
  go_loopw [0, 3, 4] (DigRel w n) (fun _ _ i _ => 6 - (intOf i).toNat)
  case atStart => exact ⟨0, by omega, rfl, by simp, rfl, Below.refl _ _⟩
  case round =>
    obtain ⟨k, hk, rfl, rfl, rfl, hb⟩ := hrel
    by_cases h : k < 6
    · have hm : n / 10 ^ k ≤ 999999 := Nat.le_trans (Nat.div_le_self _ _) hn
      have hm2 : n / 10 ^ (k + 1) = n / 10 ^ k / 10 := by rw [Nat.pow_succ, Nat.div_div_eq_div_mul]
      have hf := digK_front k n
      have hl := digK_len k n
      generalize n / 10 ^ k = m at *
      have hc := ref_conv1 (48 + m % 10) (by omega)
      rw [show ((48 + m % 10 : Nat) : Int) = 48 + (m : Int) % 10 by omega] at hc
      have Hf := Lib.hid hf; clear hf
      have Hm2 := Lib.hid hm2; clear hm2
      have q1 : ¬ 9223372036854775807 < 1 + (digK k n).length := by omega
      have Hl := Lib.hid hl; clear hl
      generalize hb0 : UInt8.ofNat (48 + m % 10) = b0 at *
      have Hb0 := Lib.hid hb0; clear hb0
      go_wp2_with fail
      go_roundw
      case rel => exact ⟨k + 1, by omega, by go_num, by rw [Hm2.out]; go_num, by rw [Hf.out], hb.alloc hb.size _⟩
      case measure => simp [intOf]; omega
    · obtain rfl : k = 6 := by omega
      go_wp2_with fail
      go_ret
      exact ⟨rfl, hb⟩
end Go.Proofs.YtllaflgcladgoaaDoor
