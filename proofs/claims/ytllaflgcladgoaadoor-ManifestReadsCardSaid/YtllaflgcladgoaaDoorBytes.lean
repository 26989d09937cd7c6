/- manifest.Bytes -/
import Derived.Test.YtllaflgcladgoaaDoorRight
import Derived.Test.YtllaflgcladgoaaDoorTake
import Derived.Deep.RegionHeld3
import Derived.Deep.DeepCutAuto
namespace Go.Proofs.YtllaflgcladgoaaDoor
open Go Go.RowKit Go.Thw

set_option maxRecDepth 20000 in
set_option maxHeartbeats 1600000 in
theorem man_Bytes_no (w : World) (v : Int) (a : Option Addr) (c : Nat) (xs : List SegD) (hn : xs.length ≤ 140737488351232) (ha : SegsIn w a xs) (hr : rightB v xs = false) :
    Calls Tryd.prog 8 #[.agg #[.int .i64 v, .slice a xs.length c]] w fun e w' => e = .returned (.tuple #[.string (bs []), .int .i64 1]) ∧ Below w.heap.size w w' := by
  have H := fun W (ha : SegsIn W a xs) => (hr ▸ man_Right W v a c xs hn ha : Calls Tryd.prog _ _ _ fun e w' => e = .returned (.bool false) ∧ _)
  have H := Lib.hid H
  clear hr
  have Ha := Lib.hid (ha.below ((Below.refl w.heap.size w).alloc (Nat.le_refl _) (.cells #[.int .i64 v, .slice a xs.length c] 24)))
  go_enter Tryd.func8, Tryd.ntmps8
  go_wp2_with (go_at_call 14; refine (H.out _ Ha.out).mono ?_; rintro e w1 ⟨rfl, hb1⟩)
  go_ret2
  exact ⟨rfl, (((Below.refl w.heap.size w).alloc (Nat.le_refl _) _).trans (hb1.mono (by simp)))⟩

theorem flat_take (xs : List SegD) (k : Nat) (h : k < xs.length) : (xs.take (k + 1)).flatMap segL = (xs.take k).flatMap segL ++ segL xs[k] := by
  rw [List.take_succ_eq_append_getElem h, List.flatMap_append, List.flatMap_cons, List.flatMap_nil, List.append_nil]
theorem segL_len {s : SegD} (h1 : s.N ≤ 999999) (h2 : s.Size ≤ 1048576) (h3 : s.Sum < 4294967296) : (segL s).length ≤ 30 := by
  have a := putL_len10 (n := s.N.toNat) (by omega)
  have b := putL_len10 (n := s.Size.toNat) (by omega)
  have c := putL_len10 (n := s.Sum) (by omega)
  simp [segL]; omega
/-- what a right manifest's segments are -/
def SegsOk (xs : List SegD) : Prop := ∀ s ∈ xs, (0 ≤ s.N ∧ s.N ≤ 999999) ∧ (0 ≤ s.Size ∧ s.Size ≤ 1048576)
theorem rising_ok : ∀ (xs : List SegD) (last : Int), -1 ≤ last → risingFrom last xs = true → SegsOk xs
  | [], _, _, _ => fun s h => absurd h (by simp)
  | x :: r, last, hl, h => by
    simp [risingFrom, segOk] at h
    intro s hs
    rcases List.mem_cons.1 hs with rfl | hs
    · omega
    · exact rising_ok r x.N (by omega) h.2 s hs
theorem flat_len (xs : List SegD) (h : SegsOk xs) (hf : ∀ s ∈ xs, s.fits) (k : Nat) : ((xs.take k).flatMap segL).length ≤ 30 * k := by
  induction k with
  | zero => simp
  | succ k ih =>
    by_cases hk : k < xs.length
    · rw [flat_take xs k hk, List.length_append]
      have hm := List.getElem_mem hk
      have := segL_len (h _ hm).1.2 (h _ hm).2.2 (hf _ hm).2.2
      omega
    · rw [List.take_of_length_le (by omega)] at ih ⊢
      omega

def BytesRel (w : World) (B : Obj) (pre : List UInt8) (xs : List SegD) (sv iv : Value) (wr : World) : Prop :=
  ∃ k : Nat, k ≤ xs.length ∧ iv = .int .i64 k ∧ sv = .string (bs (pre ++ (xs.take k).flatMap segL)) ∧ Boxed0 w B wr

set_option maxRecDepth 20000 in
set_option maxHeartbeats 3200000 in
theorem man_Bytes_ok (w : World) (v : Nat) (a : Option Addr) (c : Nat) (xs : List SegD) (hn : xs.length ≤ 140737488351232) (ha : SegsIn w a xs) (hr : rightB (v : Int) xs = true) :
    Calls Tryd.prog 8 #[.agg #[.int .i64 v, .slice a xs.length c]] w fun e w' => e = .returned (.tuple #[.string (bs (bytesL v xs)), .int .i64 0]) ∧ Below w.heap.size w w' := by
  have H := fun W (ha : SegsIn W a xs) => (hr ▸ man_Right W (v : Int) a c xs hn ha : Calls Tryd.prog _ _ _ fun e w' => e = .returned (.bool true) ∧ _)
  have H := Lib.hid H
  have hok : SegsOk xs := by simp [rightB] at hr; exact rising_ok xs (-1) (by omega) hr.1
  have hv : v ≤ 999999 ∧ xs.length ≤ 200 := by simp [rightB] at hr; omega
  obtain ⟨hv1, hv2⟩ := hv
  have hfl := flat_len xs hok ha.fits
  have Hfl := Lib.hid hfl; clear hfl
  have Hok := Lib.hid hok; clear hok
  clear hr
  have Ha := Lib.hid (ha.below ((Below.refl w.heap.size w).alloc (Nat.le_refl _) (.cells #[.int .i64 (v : Int), .slice a xs.length c] 24)))
  go_enter Tryd.func8, Tryd.ntmps8
  go_upto_region 3 with (go_at_call 14; refine (H.out _ Ha.out).mono ?_; rintro e w1 ⟨rfl, hb1⟩)
  have hbx : Boxed0 w _ w1 := (Boxed0.start w _).trans hb1
  clear hb1
  have l1 := putL_len10 (n := v) (by omega)
  have l2 := putL_len10 (n := xs.length) (by omega)
  go_cut [4] (fun s wx => s = .string (bs (putL v ++ putL xs.length)) ∧ Boxed0 w (.cells #[.int .i64 (v : Int), .slice a xs.length c] 24) wx)
  case first =>
    have q1 : w1.cell? ⟨w.heap.size, 0, none⟩ = some (.int .i64 v) := hbx.cell 0
    have q2 : w1.cell? ⟨w.heap.size, 1, none⟩ = some (.slice a xs.length c) := hbx.cell 1
    have q3 : IntKind.u64.wrap (v : Int) = (v : Int) := by rw [IntKind.wrap_u64]; omega
    have q4 : IntKind.u64.wrap (xs.length : Int) = (xs.length : Int) := by rw [IntKind.wrap_u64]; omega
    have hbs := hbx.size
    have q5 : ¬ 9223372036854775807 < (putL v).length + (putL xs.length).length := by omega
    go_region_held3 (fun w' => w'.cell? ⟨w.heap.size, 0, none⟩ = some (.int .i64 v) ∧ w'.cell? ⟨w.heap.size, 1, none⟩ = some (.slice a xs.length c) ∧ w.heap.size < w'.heap.size)
      (first
        | go_keep
        | (go_split_ands
           refine ⟨?_, ?_, ?_⟩
           · (rw [hb1.cell (p := ⟨w.heap.size, 0, none⟩) (by assumption)]; assumption)
           · (rw [hb1.cell (p := ⟨w.heap.size, 1, none⟩) (by assumption)]; assumption)
           · (exact Nat.lt_of_lt_of_le (by assumption) hb1.size)))
      (first
        | (go_at_call 24; refine (varint_Put _ (by omega) _).mono ?_; rintro e w1 ⟨rfl, hb1⟩))
    all_goals (go_wp2_with fail; go_meet; exact ⟨rfl, (hbx.drew.trans (by assumption)).trans (by assumption)⟩)
  case rest =>
    obtain ⟨rfl, hbx⟩ := hcut
    have q2 : wc.cell? ⟨w.heap.size, 1, none⟩ = some (.slice a xs.length c) := hbx.cell 1
    generalize hpre : putL v ++ putL xs.length = pre at *
    have hpl : pre.length ≤ 20 := by rw [← hpre]; simp; omega
    have Hpre := Lib.hid hpre; clear hpre
    go_wp2_with fail
    go_loopw [4, 23] (BytesRel w (.cells #[.int .i64 (v : Int), .slice a xs.length c] 24) pre xs) (fun _ i _ => xs.length - (intOf i).toNat)
    case atStart => exact ⟨0, by omega, rfl, by simp, hbx⟩
    case round =>
      clear hbx q2
      obtain ⟨k, hk, rfl, rfl, hbx⟩ := hrel
      by_cases h : k < xs.length
      · obtain ⟨b, o, rfl, hlt, e1, e2, e3⟩ := (ha.below hbx.old).at_ k h
        have hmem := List.getElem_mem h
        obtain ⟨f1, f2, f3⟩ := ha.fits _ hmem
        obtain ⟨⟨o1, o2⟩, o3, o4⟩ := Hok.out _ hmem
        have hacc := flat_take xs k h
        have hal := Hfl.out k
        generalize xs[k] = s at *
        generalize hA : pre ++ (xs.take k).flatMap segL = A at *
        have hAl : A.length ≤ 7000 := by rw [← hA]; simp only [List.length_append]; omega
        have hA2 : pre ++ (xs.take (k + 1)).flatMap segL = A ++ segL s := by rw [hacc, ← hA, List.append_assoc]
        have HA2 := Lib.hid hA2; clear hA2 hacc hA hal
        have l1 := putL_len10 (n := s.N.toNat) (by omega)
        have l2 := putL_len10 (n := s.Size.toNat) (by omega)
        have l3 := putL_len10 (n := s.Sum) (by omega)
        have n1 : s.N.toNat < 18446744073709551616 := by omega
        have n2 : s.Size.toNat < 18446744073709551616 := by omega
        have n3 : s.Sum < 18446744073709551616 := by omega
        have q1 : IntKind.u64.wrap s.N = (s.N.toNat : Int) := by rw [IntKind.wrap_u64]; omega
        have q2 : IntKind.u64.wrap s.Size = (s.Size.toNat : Int) := by rw [IntKind.wrap_u64]; omega
        have q3 : IntKind.u64.wrap (s.Sum : Int) = (s.Sum : Int) := by rw [IntKind.wrap_u64]; omega
        have hseg : segL s = putL s.N.toNat ++ putL s.Size.toNat ++ putL s.Sum := rfl
        generalize segL s = S at *
        generalize s.N.toNat = a1 at *
        generalize s.Size.toNat = a2 at *
        generalize s.Sum = a3 at *
        have Hseg := Lib.hid hseg; clear hseg
        have N1 := Lib.hid n1; have N2 := Lib.hid n2; have N3 := Lib.hid n3
        clear n1 n2 n3
        go_upto_region 7 with (fail)
        have r1 : ¬ 9223372036854775807 < (putL a1).length + (putL a2).length := by omega
        have r2 : ¬ 9223372036854775807 < (putL a1).length + (putL a2).length + (putL a3).length := by omega
        have r3 : ¬ 9223372036854775807 < (putL a1).length + ((putL a2).length + (putL a3).length) := by omega
        have r4 : ¬ 9223372036854775807 < A.length + ((putL a1).length + ((putL a2).length + (putL a3).length)) := by omega
        have r5 : ¬ 9223372036854775807 < A.length + ((putL a1).length + (putL a2).length + (putL a3).length) := by omega
        go_region_held3 (fun w' => w'.cell? ⟨wr.heap.size, 0, none⟩ = some (.int .i64 s.N) ∧ w'.cell? ⟨wr.heap.size, 1, none⟩ = some (.int .i64 s.Size) ∧ w'.cell? ⟨wr.heap.size, 2, none⟩ = some (.int .u32 (a3 : Int)) ∧ wr.heap.size < w'.heap.size)
          (first
            | go_keep
            | (go_split_ands
               refine ⟨?_, ?_, ?_, ?_⟩
               · (rw [hb1.cell (p := ⟨wr.heap.size, 0, none⟩) (by assumption)]; assumption)
               · (rw [hb1.cell (p := ⟨wr.heap.size, 1, none⟩) (by assumption)]; assumption)
               · (rw [hb1.cell (p := ⟨wr.heap.size, 2, none⟩) (by assumption)]; assumption)
               · (exact Nat.lt_of_lt_of_le (by assumption) hb1.size)))
          (first
            | (go_at_call 24; refine (varint_Put _ (by first | exact N1.out | exact N2.out | exact N3.out) _).mono ?_; rintro e w1 ⟨rfl, hb1⟩))
        all_goals
          go_wp2_with fail
          go_roundw
          case rel => exact ⟨k + 1, by omega, by go_num, by rw [HA2.out, Hseg.out]; simp, (((hbx.alloc _).drew.trans (by assumption)).trans (by assumption)).trans (by assumption)⟩
          case measure => simp [intOf]; omega
      · obtain rfl : k = xs.length := by omega
        have hb2 : pre ++ (xs.take xs.length).flatMap segL = bodyL v xs := by rw [List.take_length, bodyL, Hpre.out]
        have hbl : (bodyL v xs).length ≤ 140737488351232 := by
          rw [← hb2]; have := Hfl.out xs.length; simp only [List.length_append]; omega
        rw [hb2]
        clear hb2
        go_wp2_with (go_at_call 25; refine (crc_Seal _ hbl _).mono ?_; rintro e w1 ⟨rfl, hb1⟩)
        go_ret2
        exact ⟨rfl, (hbx.trans hb1).old⟩
end Go.Proofs.YtllaflgcladgoaaDoor
