/- thwartref01.Take -/
import Derived.Test.YtllaflgcladgoaaDoorTake
namespace Go.Proofs.YtllaflgcladgoaaDoor
open Go Go.RowKit Go.Thw

def RTakeRel (l : List UInt8) (nv mv iv : Value) : Prop :=
  ∃ k : Nat, k ≤ 10 ∧ k ≤ l.length ∧ iv = .int .i64 k ∧ mv = .int .u64 (128 ^ k % 18446744073709551616 : Nat) ∧ nv = .int .u64 (accN (l.take k) % 18446744073709551616 : Nat) ∧ takeL l = takeGo l k (10 - k)

theorem rtake_add (l : List UInt8) (k : Nat) (h : k < l.length) :
    (accN (l.take k) % 18446744073709551616 + 128 ^ k % 18446744073709551616 * (l[k].toNat % 128) % 18446744073709551616) % 18446744073709551616 = accN (l.take (k + 1)) % 18446744073709551616 := by
  rw [accN_take l k h, Nat.mul_comm (l[k].toNat % 128), ← Nat.add_mod, ← Nat.add_mod_mod (accN (l.take k)), Nat.mod_mul_mod, Nat.add_mod_mod]

set_option maxRecDepth 20000 in
set_option maxHeartbeats 800000 in
theorem ref_Take (l : List UInt8) (hl : l.length ≤ 140737488351232) (w : World) :
    Calls Tryd.prog 33 #[.string (bs l)] w fun e w' => e = .returned (takeV (takeL l)) ∧ Below w.heap.size w w' := by
  go_enter Tryd.func33, Tryd.ntmps33
  go_wp2_with fail
  go_loop [5, 6, 7] (RTakeRel l) (fun _ _ i => 10 - (intOf i).toNat)
  case atStart => exact ⟨0, by omega, by omega, rfl, rfl, rfl, rfl⟩
  case round =>
    obtain ⟨k, hk, hkl, rfl, rfl, rfl, ht⟩ := hrel
    have Ht := Lib.hid ht; clear ht
    by_cases h10 : k = 10
    · subst h10
      go_wp2_with fail
      refine bodyPost_ret (v := takeV (0, [], 2)) (by simp [results, Tryd.results33, go_sem, takeV, bs]) rfl ⟨by rw [Ht.out]; rfl, Below.refl _ _⟩
    · by_cases hlen : k = l.length
      · have hb : ((k : Int) == (l.length : Int)) = true := by rw [hlen]; simp
        have hfin : takeL l = (0, [], 3) := by
          rw [Ht.out, show 10 - k = (9 - k) + 1 by omega, takeGo, if_pos hlen]
        have Hfin := Lib.hid hfin; clear hfin
        have Hl := Lib.hid hlen; clear hlen
        have hk' : (k : Int) < 10 := by omega
        go_wp2_with fail
        refine bodyPost_ret (v := takeV (0, [], 3)) (by simp [results, Tryd.results33, go_sem, takeV, bs]) rfl ⟨by rw [Hfin.out], Below.refl _ _⟩
      · have hlt : k < l.length := by omega
        have hk' : (k : Int) < 10 := by omega
        have hb : ((k : Int) == (l.length : Int)) = false := by simp; omega
        have hgo : takeL l = if 128 ≤ (l[k]).toNat then takeGo l (k + 1) (9 - k) else if putL (accN (l.take (k + 1)) % 18446744073709551616) = l.take (k + 1) then (accN (l.take (k + 1)) % 18446744073709551616, l.drop (k + 1), 0) else (0, [], 2) := by
          rw [Ht.out, show 10 - k = (9 - k) + 1 by omega, takeGo, if_neg hlen]
          simp only [List.getD_eq_getElem?_getD, List.getElem?_eq_getElem hlt, Option.getD_some]
        have hacc := rtake_add l k hlt
        have hbl := l[k].toNat_lt
        have hmlt : accN (l.take (k + 1)) % 18446744073709551616 < 18446744073709551616 := Nat.mod_lt _ (by decide)
        have hM : 128 ^ (k + 1) % 18446744073709551616 = (128 ^ k % 18446744073709551616) * 128 % 18446744073709551616 := by rw [Nat.pow_succ, Nat.mod_mul_mod]
        generalize hm : accN (l.take (k + 1)) % 18446744073709551616 = m at *
        have Hm := Lib.hid hm; clear hm
        generalize accN (l.take k) % 18446744073709551616 = a at *
        generalize 128 ^ k % 18446744073709551616 = M at *
        have hadd : IntKind.u64.wrap ((a : Int) + IntKind.u64.wrap ((M : Int) * ((l[k].toNat : Int) % 128))) = (m : Nat) := by
          rw [← hacc, IntKind.wrap_u64, IntKind.wrap_u64]; simp
        have hmul : IntKind.u64.wrap ((M : Int) * 128) = (M * 128 % 18446744073709551616 : Nat) := by
          rw [IntKind.wrap_u64]; simp
        have Hgo := Lib.hid hgo; clear hgo
        have Hmlt := Lib.hid hmlt; clear hmlt
        have HM := Lib.hid hM; clear hM
        clear hacc Ht
        generalize M * 128 % 18446744073709551616 = M2 at *
        by_cases hc : 128 ≤ l[k].toNat
        · go_wp2_with fail
          go_round
          case rel => exact ⟨k + 1, by omega, by omega, by go_num, by rw [HM.out], by rw [Hm.out], by rw [Hgo.out, if_pos hc, show 9 - k = 10 - (k + 1) by omega]⟩
          case measure => simp [intOf]; omega
        · by_cases hp : putL m = l.take (k + 1)
          · have hpb : (putL m == l.take (k + 1)) = true := by rw [hp]; simp
            have Hp := Lib.hid hp; clear hp
            have q1 : IntKind.i64.wrap ((k : Int) + 1) = (k : Int) + 1 := IntWalk.i64_in _ (by omega)
            have q2 : 0 ≤ (k : Int) + 1 := by omega
            have q3 : ((k : Int) + 1).toNat = k + 1 := by omega
            have q4 : (k : Int) + 1 ≤ (l.length : Int) := by omega
            go_wp2_with fail
            go_region_with (go_at_call 26; refine (ref_Put m m (Nat.le_refl _) Hmlt.out _).mono ?_; rintro e w1 ⟨rfl, hb1⟩)
            all_goals
              go_wp2_with fail
              go_quiet (fail)
              go_wp2_with fail
              refine bodyPost_ret (v := takeV (m, l.drop (k + 1), 0)) (by simp [results, Tryd.results33, go_sem, takeV]) rfl ⟨by rw [Hgo.out, if_neg hc, if_pos Hp.out], ?_⟩
              first | exact (Below.refl _ w).drew.trans hb1 | exact below_drewN ((Below.refl _ w).drew.trans hb1) _
          · have hpb : (putL m == l.take (k + 1)) = false := by simpa using hp
            have Hp := Lib.hid hp; clear hp
            have q1 : IntKind.i64.wrap ((k : Int) + 1) = (k : Int) + 1 := IntWalk.i64_in _ (by omega)
            have q2 : 0 ≤ (k : Int) + 1 := by omega
            have q3 : ((k : Int) + 1).toNat = k + 1 := by omega
            have q4 : (k : Int) + 1 ≤ (l.length : Int) := by omega
            go_wp2_with fail
            go_region_with (go_at_call 26; refine (ref_Put m m (Nat.le_refl _) Hmlt.out _).mono ?_; rintro e w1 ⟨rfl, hb1⟩)
            all_goals
              go_wp2_with fail
              refine bodyPost_ret (v := takeV (0, [], 2)) (by simp [results, Tryd.results33, go_sem, takeV, bs]) rfl ⟨by rw [Hgo.out, if_neg hc, if_neg Hp.out], ?_⟩
              first | exact (Below.refl _ w).drew.trans hb1 | exact below_drewN ((Below.refl _ w).drew.trans hb1) _
end Go.Proofs.YtllaflgcladgoaaDoor
