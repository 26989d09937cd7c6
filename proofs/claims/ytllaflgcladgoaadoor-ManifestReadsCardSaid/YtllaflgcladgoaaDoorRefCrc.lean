/- thwartref02: step, More, Sum, Seal, Open -/
import Derived.Test.YtllaflgcladgoaaDoorRefPut
import Derived.Test.YtllaflgcladgoaaDoorOpen
namespace Go.Proofs.YtllaflgcladgoaaDoor
open Go Go.RowKit Go.Thw

set_option maxRecDepth 20000 in
set_option maxHeartbeats 400000 in
theorem ref_step (n : Nat) (hn : n < 4294967296) (w : World) :
    Calls Tryd.prog 55 #[.int .u32 n] w fun e w' => e = .returned (.int .u32 (cstep n : Nat)) ∧ w = w' := by
  by_cases h : n % 2 = 1
  · have hs : cstep n = n / 2 ^^^ 2197175160 := by rw [cstep, if_pos h]
    have hx : bits .xor .u32 ((n : Int) / 2) 2197175160 = (cstep n : Nat) := by
      rw [hs]; exact u32_xor_nat (n / 2) 2197175160 (by omega) (by omega)
    clear hs
    generalize cstep n = m at hx
    have hb : ((n : Int) % 2 == 1) = true := by simp; omega
    go_enter Tryd.func55, Tryd.ntmps55
    go_wp2_with fail
    go_ret
    exact ⟨rfl, rfl⟩
  · have hs : cstep n = n / 2 := by rw [cstep, if_neg h]
    have hb : ((n : Int) % 2 == 1) = false := by simp; omega
    rw [hs]
    go_enter Tryd.func55, Tryd.ntmps55
    go_wp2_with fail
    go_ret
    exact ⟨rfl, rfl⟩

def RMoreRel (s : Nat) (l : List UInt8) (cv iv : Value) : Prop := ∃ k : Nat, k ≤ l.length ∧ iv = .int .i64 k ∧ cv = .int .u32 (crcL (4294967295 - s) (l.take k) : Nat)
def RMoreIn (c : Nat) (cv jv : Value) : Prop := ∃ j : Nat, j ≤ 8 ∧ jv = .int .i64 j ∧ cv = .int .u32 (stepN j c : Nat)

set_option maxRecDepth 20000 in
set_option maxHeartbeats 400000 in
theorem ref_More (s : Nat) (hs : s < 4294967296) (l : List UInt8) (hl : l.length ≤ 140737488351232) (w : World) :
    Calls Tryd.prog 45 #[.int .u32 s, .string (bs l)] w fun e w' => e = .returned (.int .u32 (moreL s l : Nat)) ∧ w = w' := by
  have hnot := u32_not s hs
  have Hs := Lib.hid hs; clear hs
  go_enter Tryd.func45, Tryd.ntmps45
  go_wp2_with fail
  go_loop [5, 6] (RMoreRel s l) (fun _ i => l.length - (intOf i).toNat)
  case atStart => exact ⟨0, by omega, rfl, rfl⟩
  case round =>
    obtain ⟨k, hk, rfl, rfl⟩ := hrel
    clear hnot
    by_cases h : k < l.length
    · have hc : crcL (4294967295 - s) (l.take k) < 4294967296 := crcL_lt (by omega) _
      have hsn : crcL (4294967295 - s) (l.take (k + 1)) = step8 (crcL (4294967295 - s) (l.take k) ^^^ (l[k]).toNat) := by
        rw [List.take_succ_eq_append_getElem h, crcL_snoc]
      generalize crcL (4294967295 - s) (l.take k) = c at hc hsn
      have hlt := l[k].toNat_lt
      have hx := u32_xor_nat c l[k].toNat hc (by omega)
      have hm : c ^^^ l[k].toNat < 4294967296 := Nat.xor_lt_two_pow (n := 32) (by omega) (by omega)
      have Hsn := Lib.hid hsn; clear hsn
      generalize hm0 : c ^^^ l[k].toNat = m at hx hm
      have Hm0 := Lib.hid hm0; clear hm0
      have Hc := Lib.hid hc; clear hc
      go_wp2_with fail
      go_loop [5, 7] (RMoreIn m) (fun _ j => 8 - (intOf j).toNat)
      case atStart => exact ⟨0, by omega, rfl, rfl⟩
      case round =>
        obtain ⟨j, hj, rfl, rfl⟩ := hrel
        by_cases h8 : j < 8
        · have hlm := stepN_lt hm j
          have Hm := Lib.hid hm; clear hm
          go_wp2_with (go_at_call 55; refine (ref_step _ hlm _).mono ?_; rintro e w' ⟨rfl, rfl⟩)
          go_round
          case rel => exact ⟨j + 1, by omega, by go_num, rfl⟩
          case measure => simp [intOf]; omega
        · obtain rfl : j = 8 := by omega
          have Hm := Lib.hid hm; clear hm
          go_wp2_with fail
          go_round
          case rel => exact ⟨k + 1, by omega, by go_num, by rw [Hsn.out, Hm0.out]; rfl⟩
          case measure => simp [intOf]; omega
    · obtain rfl : k = l.length := by omega
      have hc : crcL (4294967295 - s) l < 4294967296 := crcL_lt (by omega) _
      rw [List.take_length]
      have hnot := u32_not _ hc
      have hm : 4294967295 - crcL (4294967295 - s) l = moreL s l := rfl
      rw [hm] at hnot
      clear hm
      generalize crcL (4294967295 - s) l = c at hc hnot
      generalize hml : moreL s l = m at hnot
      have Hml := Lib.hid hml; clear hml
      have Hc := Lib.hid hc; clear hc
      go_wp2_with fail
      all_goals
        go_ret
        exact ⟨by rw [Hml.out]; rfl, rfl⟩

set_option maxRecDepth 20000 in
set_option maxHeartbeats 400000 in
theorem ref_Sum (l : List UInt8) (hl : l.length ≤ 140737488351232) (w : World) :
    Calls Tryd.prog 37 #[.string (bs l)] w fun e w' => e = .returned (.int .u32 (moreL 0 l : Nat)) ∧ w = w' := by
  go_enter Tryd.func37, Tryd.ntmps37
  go_wp2_with (go_at_call 45; refine (ref_More 0 (by omega) l hl _).mono ?_; rintro e w1 ⟨rfl, rfl⟩)
  go_ret
  exact ⟨rfl, rfl⟩

set_option maxRecDepth 20000 in
set_option maxHeartbeats 400000 in
theorem ref_Seal (l : List UInt8) (hl : l.length ≤ 140737488351232) (w : World) :
    Calls Tryd.prog 27 #[.string (bs l)] w fun e w' => e = .returned (.string (bs (sealL l))) ∧ Below w.heap.size w w' := by
  have hc := fun w => run_conv_new (P := Tryd.prog) w 76 9 5 5 4 [.int .u8 ((moreL 0 l : Nat) % 256), .int .u8 ((moreL 0 l : Nat) / 256 % 256), .int .u8 ((moreL 0 l : Nat) / 65536 % 256), .int .u8 ((moreL 0 l : Nat) / 16777216 % 256)] (le4 (moreL 0 l)) 4 rfl Tryd.underlying76 Tryd.underlying5 Tryd.underlying9 (le4_cells _)
  generalize hs4 : le4 (moreL 0 l) = s4 at hc
  have h4 : s4.length = 4 := by rw [← hs4]; rfl
  have Hs4 := Lib.hid hs4; clear hs4
  go_enter Tryd.func27, Tryd.ntmps27
  go_wp2_with (go_at_call 37; refine (ref_Sum l hl _).mono ?_; rintro e w1 ⟨rfl, rfl⟩)
  go_ret
  exact ⟨by rw [sealL, Hs4.out]; rfl, (Below.refl _ _).alloc (Nat.le_refl _) _⟩

set_option maxRecDepth 20000 in
set_option maxHeartbeats 400000 in
theorem ref_Open_short (l : List UInt8) (hl : l.length < 4) (w : World) :
    Calls Tryd.prog 32 #[.string (bs l)] w fun e w' => e = .returned (.tuple #[.string (bs []), .bool false]) ∧ Below w.heap.size w w' := by
  have q : (l.length : Int) < 4 := by omega
  have hd : decide ((l.length : Int) < 4) = true := by simpa using q
  go_enter Tryd.func32, Tryd.ntmps32
  go_wp2_with fail
  go_ret2
  exact ⟨rfl, Below.refl _ _⟩

set_option maxRecDepth 20000 in
set_option maxHeartbeats 400000 in
theorem ref_Open_long (t : Bool) (l : List UInt8) (h4 : 4 ≤ l.length) (hl : l.length ≤ 140737488351232) (ht : (sealL (l.drop 4) == l) = t) (w : World) :
    Calls Tryd.prog 32 #[.string (bs l)] w fun e w' => e = .returned (.tuple #[.string (bs (if t then l.drop 4 else [])), .bool t]) ∧ Below w.heap.size w w' := by
  have q1 : (4 : Int) ≤ (l.length : Int) := by omega
  have hd : decide ((l.length : Int) < 4) = false := by simpa using q1
  cases t
  all_goals
    go_enter Tryd.func32, Tryd.ntmps32
    go_wp2_with (go_at_call 27; refine (ref_Seal (l.drop 4) (by simp; omega) _).mono ?_; rintro e w1 ⟨rfl, hb1⟩)
    go_ret2
    exact ⟨rfl, hb1⟩

theorem seal_iff (l : List UInt8) : (sealL (l.drop 4) == l) = (le4 (moreL 0 (l.drop 4)) == l.take 4) := by
  rw [Bool.eq_iff_iff, beq_iff_eq, beq_iff_eq]
  unfold sealL
  constructor
  · intro h
    have := congrArg (List.take 4) h
    simpa [le4] using this
  · intro h
    rw [h, List.take_append_drop]

theorem ref_Open_ok (l d : List UInt8) (hl : l.length ≤ 140737488351232) (h : openL l = some d) (w : World) :
    Calls Tryd.prog 32 #[.string (bs l)] w fun e w' => e = .returned (.tuple #[.string (bs d), .bool true]) ∧ Below w.heap.size w w' := by
  unfold openL at h
  split at h
  · next hc => cases h; exact ref_Open_long true l hc.1 hl ((seal_iff l).trans hc.2) w
  · cases h
theorem ref_Open_no (l : List UInt8) (hl : l.length ≤ 140737488351232) (h : openL l = none) (w : World) :
    Calls Tryd.prog 32 #[.string (bs l)] w fun e w' => e = .returned (.tuple #[.string (bs []), .bool false]) ∧ Below w.heap.size w w' := by
  unfold openL at h
  split at h
  · cases h
  · next hc =>
    by_cases h4 : 4 ≤ l.length
    · exact ref_Open_long false l h4 hl (by rw [seal_iff l]; cases hq : (le4 (moreL 0 (l.drop 4)) == l.take 4); rfl; exact absurd ⟨h4, hq⟩ hc) w
    · exact ref_Open_short l (by omega) w
end Go.Proofs.YtllaflgcladgoaaDoor
