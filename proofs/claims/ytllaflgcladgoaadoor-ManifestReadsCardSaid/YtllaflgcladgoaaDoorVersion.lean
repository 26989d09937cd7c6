/- Name and Object of the document; Version, both -/
import Derived.Test.YtllaflgcladgoaaDoorNames
namespace Go.Proofs.YtllaflgcladgoaaDoor
open Go Go.RowKit Go.Thw

set_option maxRecDepth 20000 in
set_option maxHeartbeats 800000 in
theorem ref_Name_ok (n : Nat) (h1 : 1 ≤ n) (hn : n ≤ 999999) (w : World) :
    Calls Tryd.prog 21 #[.int .i64 n] w fun e w' => e = .returned (.string (bs (nameL 109 n))) ∧ Below w.heap.size w w' := by
  have hd : decide ((n : Int) < 1) = false := by simp; omega
  have hd2 : decide ((999999 : Int) < (n : Int)) = false := by simp; omega
  have hl := digK_len 6 n
  have q1 : ¬ 9223372036854775807 < 1 + (digK 6 n).length := by omega
  have Hl := Lib.hid hl; clear hl
  go_enter Tryd.func21, Tryd.ntmps21
  go_wp2_with (go_at_call 39; refine (ref_digits n hn _).mono ?_; rintro e w1 ⟨rfl, hb1⟩)
  go_ret
  exact ⟨rfl, hb1⟩
set_option maxRecDepth 20000 in
set_option maxHeartbeats 800000 in
theorem ref_Name_no (n : Int) (hn : n < 1 ∨ 999999 < n) (w : World) :
    Calls Tryd.prog 21 #[.int .i64 n] w fun e w' => e = .returned (.string (bs [])) ∧ w = w' := by
  by_cases h : n < 1
  · have hd : decide (n < 1) = true := by simpa using h
    clear hn
    go_enter Tryd.func21, Tryd.ntmps21
    go_wp2_with fail
    go_ret
    exact ⟨rfl, rfl⟩
  · have hd : decide (n < 1) = false := by simpa using h
    have h2 : 999999 < n := by omega
    clear hn
    go_enter Tryd.func21, Tryd.ntmps21
    go_wp2_with fail
    go_ret
    exact ⟨rfl, rfl⟩
set_option maxRecDepth 20000 in
set_option maxHeartbeats 800000 in
theorem ref_Object_ok (n : Nat) (hn : n ≤ 999999) (w : World) :
    Calls Tryd.prog 23 #[.int .i64 n] w fun e w' => e = .returned (.string (bs (nameL 111 n))) ∧ Below w.heap.size w w' := by
  have hd : decide ((n : Int) < 0) = false := by simp
  have hd2 : decide ((999999 : Int) < (n : Int)) = false := by simp; omega
  have hl := digK_len 6 n
  have q1 : ¬ 9223372036854775807 < 1 + (digK 6 n).length := by omega
  have Hl := Lib.hid hl; clear hl
  go_enter Tryd.func23, Tryd.ntmps23
  go_wp2_with (go_at_call 39; refine (ref_digits n hn _).mono ?_; rintro e w1 ⟨rfl, hb1⟩)
  go_ret
  exact ⟨rfl, hb1⟩
set_option maxRecDepth 20000 in
set_option maxHeartbeats 800000 in
theorem ref_Object_no (n : Int) (hn : n < 0 ∨ 999999 < n) (w : World) :
    Calls Tryd.prog 23 #[.int .i64 n] w fun e w' => e = .returned (.string (bs [])) ∧ w = w' := by
  by_cases h : n < 0
  · have hd : decide (n < 0) = true := by simpa using h
    clear hn
    go_enter Tryd.func23, Tryd.ntmps23
    go_wp2_with fail
    go_ret
    exact ⟨rfl, rfl⟩
  · have hd : decide (n < 0) = false := by simpa using h
    have h2 : 999999 < n := by omega
    clear hn
    go_enter Tryd.func23, Tryd.ntmps23
    go_wp2_with fail
    go_ret
    exact ⟨rfl, rfl⟩

theorem below_bytesW (w : World) (e : TypeId) (s : ByteArray) : Below w.heap.size w (Lib.bytesWorld w e s) :=
  ⟨by unfold Lib.bytesWorld World.freeze; split <;> rfl, by unfold Lib.bytesWorld World.freeze; split <;> rfl, by unfold Lib.bytesWorld World.freeze; split <;> rfl,
   by rw [Lib.bytesWorld_size]; omega, fun k hk => Lib.bytesWorld_at_old w e s k hk⟩
theorem cut_c (l p : List UInt8) (w : World) :
    Calls Tryd.prog 34 #[.string (bs l), .string (bs p)] w fun e w' => e = .returned (.tuple #[.string (bs (Lib.trimPrefix l p)), .bool (Lib.hasPrefix l p)]) ∧ w = w' := by
  refine (Tryd.strings_CutPrefix (bs l) (bs p) w).mono ?_
  rintro e w' ⟨rfl, rfl⟩
  exact ⟨rfl, rfl⟩
/-- the error value beside a number that could not be read -/
def ErrV (v : Value) : Prop := ∃ t N, v = .iface t (.pointer (some ⟨N, 0, none⟩))
theorem atoi_ok_c (l : List UInt8) (hl : l.length ≤ 140737488351232) (v : Int) (h : Lib.atoiAll l = .ok v) (w : World) :
    Calls Tryd.prog 35 #[.string (bs l)] w fun e w' => e = .returned (.tuple #[.int .i64 v, .nilIface]) ∧ Below w.heap.size w w' := by
  refine (Tryd.strconv_Atoi_ok (bs l) (by simp; omega) v (by simpa using h) w).mono ?_
  rintro e w' ⟨rfl, rfl | ⟨t, rfl⟩⟩
  · exact ⟨rfl, Below.refl _ _⟩
  · exact ⟨rfl, below_bytesW w _ t⟩
theorem atoi_bad_c (l : List UInt8) (hl : l.length ≤ 140737488351232) (h : ∀ v, Lib.atoiAll l ≠ .ok v) (w : World) (hv : Vars w) :
    Calls Tryd.prog 35 #[.string (bs l)] w fun e w' => ∃ v N, e = .returned (.tuple #[.int .i64 v, .iface 85 (.pointer (some ⟨N, 0, none⟩))]) ∧ Below w.heap.size w w' := by
  obtain ⟨t, p, he⟩ := hv.es
  obtain ⟨t', p', hr⟩ := hv.er
  rcases hc : Lib.atoiAll l with v | _ | _
  · exact absurd hc (h v)
  · refine (Any.strconv_Atoi_syntax Tryd.laysC172 (bs l) (by simp; omega) (by simpa using hc) _ w he (.inr ⟨_, _, rfl⟩)).mono ?_
    rintro e w' ⟨N, rfl, _, _, hb⟩
    exact ⟨_, N, rfl, hb⟩
  · refine (Tryd.strconv_Atoi_range (bs l) (by simp; omega) (by simpa using hc) _ w hr (.inr ⟨_, _, rfl⟩)).mono ?_
    rintro e w' ⟨N, rfl, _, _, hb⟩
    exact ⟨_, N, rfl, hb⟩

set_option maxRecDepth 20000 in
set_option maxHeartbeats 800000 in
theorem man_Version_ok (n : Nat) (h1 : 1 ≤ n) (hn : n ≤ 999999) (w : World) (hv : Vars w) :
    Calls Tryd.prog 16 #[.string (bs (nameL 109 n))] w fun e w' => e = .returned (.tuple #[.int .i64 n, .bool true]) ∧ Below w.heap.size w w' := by
  have hp : Lib.hasPrefix (nameL 109 n) [109] = true := by simp [Lib.hasPrefix, nameL]
  have ht : Lib.trimPrefix (nameL 109 n) [109] = digK 6 n := by rw [Lib.trimPrefix, hp]; rfl
  have hc := cut_c (nameL 109 n) [109]
  rw [ht, hp] at hc
  have Hc := Lib.hid hc; clear hc ht hp
  have ha := atoi_ok_c (digK 6 n) (by rw [digK_len]; omega) n (atoi_digK n (by omega))
  have Ha := Lib.hid ha; clear ha
  have Hv := Lib.hid hv; clear hv
  go_enter Tryd.func16, Tryd.ntmps16
  go_wp2_with (first
    | (go_at_call 34; refine (Hc.out _).mono ?_; rintro e w1 ⟨rfl, rfl⟩)
    | (go_at_call 35; refine (Ha.out _).mono ?_; rintro e w2 ⟨rfl, hb2⟩)
    | (go_at_call 20; refine (man_Name_ok n h1 hn _ (Hv.out.below hb2)).mono ?_; rintro e w3 ⟨rfl, hb3⟩))
  go_ret2
  exact ⟨rfl, hb2.trans (hb3.mono hb2.size)⟩

theorem prefix_cons {l : List UInt8} {c : UInt8} (h : Lib.hasPrefix l [c] = true) : l = c :: l.drop 1 := by
  cases l with
  | nil => simp [Lib.hasPrefix] at h
  | cons a l => simp [Lib.hasPrefix] at h; simp [h]

set_option maxRecDepth 20000 in
set_option maxHeartbeats 1600000 in
theorem man_Version_no (l : List UInt8) (hl : l.length ≤ 140737488351232) (hno : ∀ n : Nat, 1 ≤ n → n ≤ 999999 → l ≠ nameL 109 n) (w : World) (hv : Vars w) :
    Calls Tryd.prog 16 #[.string (bs l)] w fun e w' => e = .returned (.tuple #[.int .i64 0, .bool false]) ∧ Below w.heap.size w w' := by
  have hc := cut_c l [109]
  have Hv := Lib.hid hv; clear hv
  have Hno := Lib.hid hno; clear hno
  cases hp : Lib.hasPrefix l [109] with
  | false =>
    have ht : Lib.trimPrefix l [109] = l := by rw [Lib.trimPrefix, hp]; rfl
    rw [ht, hp] at hc
    have Hc := Lib.hid hc; clear hc ht hp
    by_cases hat : ∃ v, Lib.atoiAll l = .ok v
    · obtain ⟨v, hat⟩ := hat
      have ha := atoi_ok_c l hl v hat
      have Ha := Lib.hid ha; clear ha hat
      go_enter Tryd.func16, Tryd.ntmps16
      go_wp2_with (first
      | (go_at_call 34; refine (Hc.out _).mono ?_; rintro e w1 ⟨rfl, rfl⟩)
      | (go_at_call 35; refine (Ha.out _).mono ?_; rintro e w2 ⟨rfl, hb2⟩))
      go_ret2
      exact ⟨rfl, hb2⟩
    · have ha := fun w hv => atoi_bad_c l hl (fun v h => hat ⟨v, h⟩) w hv
      have Ha := Lib.hid ha; clear ha hat
      go_enter Tryd.func16, Tryd.ntmps16
      go_wp2_with (first
      | (go_at_call 34; refine (Hc.out _).mono ?_; rintro e w1 ⟨rfl, rfl⟩)
      | (go_at_call 35; refine (Ha.out _ Hv.out).mono ?_; rintro e w2 ⟨v, N, rfl, hb2⟩))
      go_ret2
      exact ⟨rfl, hb2⟩
  | true =>
    have hcons := prefix_cons hp
    have ht : Lib.trimPrefix l [109] = l.drop 1 := by rw [Lib.trimPrefix, hp]; rfl
    rw [ht, hp] at hc
    have Hc := Lib.hid hc; clear hc ht hp
    have hl2 : (l.drop 1).length ≤ 140737488351232 := by simp; omega
    have hne : l ≠ [] := by intro e; rw [e] at hcons; cases hcons
    generalize l.drop 1 = x at *
    have Hcons := Lib.hid hcons; clear hcons
    by_cases hat : ∃ v, Lib.atoiAll x = .ok v
    · obtain ⟨v, hat⟩ := hat
      have ha := atoi_ok_c x hl2 v hat
      have Ha := Lib.hid ha; clear ha hat
      by_cases hr : 1 ≤ v ∧ v ≤ 999999
      · obtain ⟨n, rfl⟩ : ∃ n : Nat, v = n := ⟨v.toNat, by omega⟩
        have hq : (nameL 109 n == l) = false := by simpa using fun e => Hno.out n (by omega) (by omega) e.symm
        have hr1 : 1 ≤ n := by omega
        have hr2 : n ≤ 999999 := by omega
        clear hr
        go_enter Tryd.func16, Tryd.ntmps16
        go_wp2_with (first
      | (go_at_call 34; refine (Hc.out _).mono ?_; rintro e w1 ⟨rfl, rfl⟩)
      | (go_at_call 35; refine (Ha.out _).mono ?_; rintro e w2 ⟨rfl, hb2⟩)
      | (go_at_call 20; refine (man_Name_ok n hr1 hr2 _ (Hv.out.below hb2)).mono ?_; rintro e w3 ⟨rfl, hb3⟩))
        go_ret2
        exact ⟨rfl, hb2.trans (hb3.mono hb2.size)⟩
      · have hq : (([] : List UInt8) == l) = false := by simpa using hne
        have hq2 : l.isEmpty = false := by simpa using hne
        go_enter Tryd.func16, Tryd.ntmps16
        go_wp2_with (first
      | (go_at_call 34; refine (Hc.out _).mono ?_; rintro e w1 ⟨rfl, rfl⟩)
      | (go_at_call 35; refine (Ha.out _).mono ?_; rintro e w2 ⟨rfl, hb2⟩)
      | (go_at_call 20; refine (man_Name_no v (by omega) _).mono ?_; rintro e w3 ⟨rfl, rfl⟩))
        go_ret2
        exact ⟨rfl, hb2⟩
    · have ha := fun w hv => atoi_bad_c x hl2 (fun v h => hat ⟨v, h⟩) w hv
      have Ha := Lib.hid ha; clear ha hat
      go_enter Tryd.func16, Tryd.ntmps16
      go_wp2_with (first
      | (go_at_call 34; refine (Hc.out _).mono ?_; rintro e w1 ⟨rfl, rfl⟩)
      | (go_at_call 35; refine (Ha.out _ Hv.out).mono ?_; rintro e w2 ⟨v, N, rfl, hb2⟩))
      go_ret2
      exact ⟨rfl, hb2⟩
end Go.Proofs.YtllaflgcladgoaaDoor
