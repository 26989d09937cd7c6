/- thwartref12.Bytes -/
import Derived.Test.YtllaflgcladgoaaDoorBytes
import Derived.Test.YtllaflgcladgoaaDoorRefTake
namespace Go.Proofs.YtllaflgcladgoaaDoor
open Go Go.RowKit Go.Thw

set_option maxRecDepth 20000 in
set_option maxHeartbeats 1600000 in
theorem ref_Bytes_no (w : World) (v : Int) (a : Option Addr) (c : Nat) (xs : List SegD) (hn : xs.length ≤ 140737488351232) (ha : SegsIn w a xs) (hr : rightB v xs = false) :
    Calls Tryd.prog 9 #[.agg #[.int .i64 v, .slice a xs.length c]] w fun e w' => e = .returned (.tuple #[.string (bs []), .int .i64 1]) ∧ Below w.heap.size w w' := by
  have H := fun W (ha : SegsIn W a xs) => (hr ▸ ref_Right W v a c xs hn ha : Calls Tryd.prog _ _ _ fun e w' => e = .returned (.bool false) ∧ _)
  have H := Lib.hid H
  clear hr
  have Ha := Lib.hid (ha.below ((Below.refl w.heap.size w).alloc (Nat.le_refl _) (.cells #[.int .i64 v, .slice a xs.length c] 32)))
  go_enter Tryd.func9, Tryd.ntmps9
  go_wp2_with (go_at_call 15; refine (H.out _ Ha.out).mono ?_; rintro e w1 ⟨rfl, hb1⟩)
  go_ret2
  exact ⟨rfl, (((Below.refl w.heap.size w).alloc (Nat.le_refl _) _).trans (hb1.mono (by simp)))⟩

def RBytesRel (w : World) (B : Obj) (pre : List UInt8) (xs : List SegD) (sv iv : Value) (wr : World) : Prop :=
  ∃ k : Nat, k ≤ xs.length ∧ iv = .int .i64 k ∧ sv = .string (bs (pre ++ (xs.take k).flatMap segL)) ∧ Boxed0 w B wr

set_option maxRecDepth 20000 in
set_option maxHeartbeats 3200000 in
theorem ref_Bytes_ok (w : World) (v : Nat) (a : Option Addr) (c : Nat) (xs : List SegD) (hn : xs.length ≤ 140737488351232) (ha : SegsIn w a xs) (hr : rightB (v : Int) xs = true) :
    Calls Tryd.prog 9 #[.agg #[.int .i64 v, .slice a xs.length c]] w fun e w' => e = .returned (.tuple #[.string (bs (bytesL v xs)), .int .i64 0]) ∧ Below w.heap.size w w' := by
  have H := fun W (ha : SegsIn W a xs) => (hr ▸ ref_Right W (v : Int) a c xs hn ha : Calls Tryd.prog _ _ _ fun e w' => e = .returned (.bool true) ∧ _)
  have H := Lib.hid H
  have hok : SegsOk xs := by simp [rightB] at hr; exact rising_ok xs (-1) (by omega) hr.1
  have hv : v ≤ 999999 ∧ xs.length ≤ 200 := by simp [rightB] at hr; omega
  obtain ⟨hv1, hv2⟩ := hv
  have hfl := flat_len xs hok ha.fits
  have Hfl := Lib.hid hfl; clear hfl
  have Hok := Lib.hid hok; clear hok
  clear hr
  have Ha := Lib.hid (ha.below ((Below.refl w.heap.size w).alloc (Nat.le_refl _) (.cells #[.int .i64 (v : Int), .slice a xs.length c] 32)))
  go_enter Tryd.func9, Tryd.ntmps9
  go_upto_region 3 with (go_at_call 15; refine (H.out _ Ha.out).mono ?_; rintro e w1 ⟨rfl, hb1⟩)
  have hbx : Boxed0 w _ w1 := (Boxed0.start w _).trans hb1
  clear hb1
  have l1 := putL_len10 (n := v) (by omega)
  have l2 := putL_len10 (n := xs.length) (by omega)
  go_cut [4] (fun s wx => s = .string (bs (putL v ++ putL xs.length)) ∧ Boxed0 w (.cells #[.int .i64 (v : Int), .slice a xs.length c] 32) wx)
  case first =>
    have q1 : w1.cell? ⟨w.heap.size, 0, none⟩ = some (.int .i64 v) := hbx.cell 0
    have q2 : w1.cell? ⟨w.heap.size, 1, none⟩ = some (.slice a xs.length c) := hbx.cell 1
    have q3 : IntKind.u64.wrap (v : Int) = (v : Int) := by rw [IntKind.wrap_u64]; omega
    have q4 : IntKind.u64.wrap (xs.length : Int) = (xs.length : Int) := by rw [IntKind.wrap_u64]; omega
    have hbs := hbx.size
    have q5 : ¬ 9223372036854775807 < (putL v).length + (putL xs.length).length := by omega
    go_region_held3 (fun w' => w'.cell? ⟨w.heap.size, 0, none⟩ = some (.int .i64 v) ∧ w'.cell? ⟨w.heap.size, 1, none⟩ = some (.slice a xs.length c) ∧ w.heap.size < w'.heap.size)
      (first
        | go_keep
        | (go_split_ands
           refine ⟨?_, ?_, ?_⟩
           · (rw [hb1.cell (p := ⟨w.heap.size, 0, none⟩) (by assumption)]; assumption)
           · (rw [hb1.cell (p := ⟨w.heap.size, 1, none⟩) (by assumption)]; assumption)
           · (exact Nat.lt_of_lt_of_le (by assumption) hb1.size)))
      (first
        | (go_at_call 26; refine (ref_Put _ _ (Nat.le_refl _) (by omega) _).mono ?_; rintro e w1 ⟨rfl, hb1⟩))
    all_goals (go_wp2_with fail; go_meet; exact ⟨rfl, (hbx.drew.trans (by assumption)).trans (by assumption)⟩)
  case rest =>
    obtain ⟨rfl, hbx⟩ := hcut
    have q2 : wc.cell? ⟨w.heap.size, 1, none⟩ = some (.slice a xs.length c) := hbx.cell 1
    generalize hpre : putL v ++ putL xs.length = pre at *
    have hpl : pre.length ≤ 20 := by rw [← hpre]; simp; omega
    have Hpre := Lib.hid hpre; clear hpre
    go_wp2_with fail
    go_loopw [4, 5] (RBytesRel w (.cells #[.int .i64 (v : Int), .slice a xs.length c] 32) pre xs) (fun _ i _ => xs.length - (intOf i).toNat)
    case atStart => exact ⟨0, by omega, rfl, by simp, hbx⟩
    case round =>
      clear hbx q2
      obtain ⟨k, hk, rfl, rfl, hbx⟩ := hrel
      have q0 : wr.cell? ⟨w.heap.size, 1, none⟩ = some (.slice a xs.length c) := hbx.cell 1
      by_cases h : k < xs.length
      · obtain ⟨b, o, rfl, hlt, e1, e2, e3⟩ := (ha.below hbx.old).at_ k h
        have hmem := List.getElem_mem h
        obtain ⟨f1, f2, f3⟩ := ha.fits _ hmem
        obtain ⟨⟨o1, o2⟩, o3, o4⟩ := Hok.out _ hmem
        have hacc := flat_take xs k h
        have hal := Hfl.out k
        generalize xs[k] = s at *
        generalize hA : pre ++ (xs.take k).flatMap segL = A at *
        have hAl : A.length ≤ 7000 := by rw [← hA]; simp only [List.length_append]; omega
        have hA2 : pre ++ (xs.take (k + 1)).flatMap segL = A ++ segL s := by rw [hacc, ← hA, List.append_assoc]
        have HA2 := Lib.hid hA2; clear hA2 hacc hA hal
        have l1 := putL_len10 (n := s.N.toNat) (by omega)
        have l2 := putL_len10 (n := s.Size.toNat) (by omega)
        have l3 := putL_len10 (n := s.Sum) (by omega)
        have n1 : s.N.toNat < 18446744073709551616 := by omega
        have n2 : s.Size.toNat < 18446744073709551616 := by omega
        have n3 : s.Sum < 18446744073709551616 := by omega
        have q1 : IntKind.u64.wrap s.N = (s.N.toNat : Int) := by rw [IntKind.wrap_u64]; omega
        have q2 : IntKind.u64.wrap s.Size = (s.Size.toNat : Int) := by rw [IntKind.wrap_u64]; omega
        have q3 : IntKind.u64.wrap (s.Sum : Int) = (s.Sum : Int) := by rw [IntKind.wrap_u64]; omega
        have hseg : segL s = putL s.N.toNat ++ putL s.Size.toNat ++ putL s.Sum := rfl
        generalize segL s = S at *
        generalize s.N.toNat = a1 at *
        generalize s.Size.toNat = a2 at *
        generalize s.Sum = a3 at *
        have Hseg := Lib.hid hseg; clear hseg
        have N1 := Lib.hid n1; have N2 := Lib.hid n2; have N3 := Lib.hid n3
        clear n1 n2 n3
        go_upto_region 8 with (fail)
        have r1 : ¬ 9223372036854775807 < (putL a1).length + (putL a2).length := by omega
        have r2 : ¬ 9223372036854775807 < (putL a1).length + (putL a2).length + (putL a3).length := by omega
        have r3 : ¬ 9223372036854775807 < (putL a1).length + ((putL a2).length + (putL a3).length) := by omega
        have r4 : ¬ 9223372036854775807 < A.length + ((putL a1).length + ((putL a2).length + (putL a3).length)) := by omega
        have r5 : ¬ 9223372036854775807 < A.length + ((putL a1).length + (putL a2).length + (putL a3).length) := by omega
        have r6 : ¬ 9223372036854775807 < A.length + (putL a1).length := by omega
        have r7 : ¬ 9223372036854775807 < A.length + ((putL a1).length + (putL a2).length) := by omega
        have r8 : ¬ 9223372036854775807 < A.length + (putL a1).length + (putL a2).length := by omega
        have r10 : ¬ 9223372036854775807 < A.length + ((putL a1).length + (putL a2).length) + (putL a3).length := by omega
        have r9 : ¬ 9223372036854775807 < A.length + (putL a1).length + (putL a2).length + (putL a3).length := by omega
        go_region_held3 (fun w' => w'.cell? ⟨wr.heap.size, 0, none⟩ = some (.int .i64 s.N) ∧ w'.cell? ⟨wr.heap.size, 1, none⟩ = some (.int .i64 s.Size) ∧ w'.cell? ⟨wr.heap.size, 2, none⟩ = some (.int .u32 (a3 : Int)) ∧ wr.heap.size < w'.heap.size)
          (first
            | go_keep
            | (go_split_ands
               refine ⟨?_, ?_, ?_, ?_⟩
               · (rw [hb1.cell (p := ⟨wr.heap.size, 0, none⟩) (by assumption)]; assumption)
               · (rw [hb1.cell (p := ⟨wr.heap.size, 1, none⟩) (by assumption)]; assumption)
               · (rw [hb1.cell (p := ⟨wr.heap.size, 2, none⟩) (by assumption)]; assumption)
               · (exact Nat.lt_of_lt_of_le (by assumption) hb1.size)))
          (first
            | (go_at_call 26; refine (ref_Put _ _ (Nat.le_refl _) (by first | exact N1.out | exact N2.out | exact N3.out) _).mono ?_; rintro e w1 ⟨rfl, hb1⟩))
        all_goals
          go_wp2_with fail
          go_roundw
          case rel => exact ⟨k + 1, by omega, by go_num, by rw [HA2.out, Hseg.out]; simp, (((hbx.alloc _).drew.trans (by assumption)).trans (by assumption)).trans (by assumption)⟩
          case measure => simp [intOf]; omega
      · obtain rfl : k = xs.length := by omega
        have hb2 : pre ++ (xs.take xs.length).flatMap segL = bodyL v xs := by rw [List.take_length, bodyL, Hpre.out]
        have hbl : (bodyL v xs).length ≤ 140737488351232 := by
          rw [← hb2]; have := Hfl.out xs.length; simp only [List.length_append]; omega
        rw [hb2]
        clear hb2
        go_wp2_with (go_at_call 27; refine (ref_Seal _ hbl _).mono ?_; rintro e w1 ⟨rfl, hb1⟩)
        go_ret2
        exact ⟨rfl, (hbx.trans hb1).old⟩
end Go.Proofs.YtllaflgcladgoaaDoor
