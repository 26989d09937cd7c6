/- varint.Take -/
import Derived.Test.YtllaflgcladgoaaDoorRefCrc
import Derived.Test.YtllaflgcladgoaaDoorPut
import Derived.Deep.QuietTactic
import Derived.BigQuiet
namespace Go.Proofs.YtllaflgcladgoaaDoor
open Go Go.RowKit Go.Thw

def takeV (r : Nat × List UInt8 × Nat) : Value := .tuple #[.int .u64 (r.1 : Int), .string (bs r.2.1), .int .i64 (r.2.2 : Int)]
def TakeRel (l : List UInt8) (nv iv : Value) : Prop :=
  ∃ k : Nat, k ≤ 10 ∧ k ≤ l.length ∧ iv = .int .i64 k ∧ nv = .int .u64 (accN (l.take k) % 18446744073709551616 : Nat) ∧ takeL l = takeGo l k (10 - k)

theorem u8_not128 (b : Nat) (h : b < 256) : bits .andNot .u8 (b : Int) 128 = ((b % 128 : Nat) : Int) := by
  have := u8_andNot_nat b 128 h (by omega)
  refine this.trans ?_
  have h2 : ∀ x : Fin 256, (x.val &&& (255 - 128)) = x.val % 128 := by decide +kernel
  rw [h2 ⟨b, h⟩]

set_option maxRecDepth 20000 in
set_option maxHeartbeats 800000 in
theorem varint_Take (l : List UInt8) (hl : l.length ≤ 140737488351232) (w : World) :
    Calls Tryd.prog 40 #[.string (bs l)] w fun e w' => e = .returned (takeV (takeL l)) ∧ Below w.heap.size w w' := by
  go_enter Tryd.func40, Tryd.ntmps40
  go_wp2_with fail
  go_loop [5, 8] (TakeRel l) (fun _ i => 10 - (intOf i).toNat)
  case atStart => exact ⟨0, by omega, by omega, rfl, rfl, rfl⟩
  case round =>
    obtain ⟨k, hk, hkl, rfl, rfl, ht⟩ := hrel
    have Ht := Lib.hid ht; clear ht
    by_cases h10 : k = 10
    · subst h10
      go_wp2_with fail
      refine bodyPost_ret (v := takeV (0, [], 2)) (by simp [results, Tryd.results40, go_sem, takeV, bs]) rfl ⟨by rw [Ht.out]; rfl, Below.refl _ _⟩
    · by_cases hlen : k = l.length
      · have hb : ((k : Int) == (l.length : Int)) = true := by rw [hlen]; simp
        have hfin : takeL l = (0, [], 3) := by
          rw [Ht.out, show 10 - k = (9 - k) + 1 by omega, takeGo, if_pos hlen]
        have Hfin := Lib.hid hfin; clear hfin
        have Hl := Lib.hid hlen; clear hlen
        have hk' : (k : Int) < 10 := by omega
        go_wp2_with fail
        refine bodyPost_ret (v := takeV (0, [], 3)) (by simp [results, Tryd.results40, go_sem, takeV, bs]) rfl ⟨by rw [Hfin.out], Below.refl _ _⟩
      · have hlt : k < l.length := by omega
        have hk' : (k : Int) < 10 := by omega
        have hb : ((k : Int) == (l.length : Int)) = false := by simp; omega
        have hgo : takeL l = if 128 ≤ (l[k]).toNat then takeGo l (k + 1) (9 - k) else if putL (accN (l.take (k + 1)) % 18446744073709551616) = l.take (k + 1) then (accN (l.take (k + 1)) % 18446744073709551616, l.drop (k + 1), 0) else (0, [], 2) := by
          rw [Ht.out, show 10 - k = (9 - k) + 1 by omega, takeGo, if_neg hlen]
          simp only [List.getD_eq_getElem?_getD, List.getElem?_eq_getElem hlt, Option.getD_some]
        have hacc := accN_take l k hlt
        have halt : accN (l.take k) < 128 ^ k := by have := accN_lt (l.take k); rwa [List.length_take, Nat.min_eq_left (by omega)] at this
        have hmod : accN (l.take k) % 18446744073709551616 = accN (l.take k) := Nat.mod_eq_of_lt (Nat.lt_of_lt_of_le halt (Nat.le_trans (Nat.pow_le_pow_right (by decide) (show k ≤ 9 by omega)) (by decide)))
        have hor := take_or (accN (l.take k)) ((l[k]).toNat % 128) k halt (by omega)
        rw [← hacc] at hor
        have hbl := l[k].toNat_lt
        have hnb := u8_not128 l[k].toNat hbl
        rw [hmod]
        have hshl : bits .or .u64 (accN (l.take k) : Nat) (IntKind.u64.wrap ((l[k].toNat : Int) % 128 * 2 ^ (7 * k))) = (accN (l.take (k + 1)) % 18446744073709551616 : Nat) := by
          rw [← hor, IntKind.wrap_u64]
          have e : ((l[k].toNat : Int) % 128 * 2 ^ (7 * k)) % 18446744073709551616 = ((l[k].toNat % 128 * 128 ^ k % 18446744073709551616 : Nat) : Int) := by
            rw [pow128]; simp
          rw [e]
          exact u64_or_nat _ _ (Nat.lt_of_lt_of_le halt (Nat.le_trans (Nat.pow_le_pow_right (by decide) (show k ≤ 9 by omega)) (by decide))) (Nat.mod_lt _ (by decide))
        have hmlt : accN (l.take (k + 1)) % 18446744073709551616 < 18446744073709551616 := Nat.mod_lt _ (by decide)
        have Hacc := Lib.hid hacc; clear hacc
        generalize hm : accN (l.take (k + 1)) % 18446744073709551616 = m at *
        have Hm := Lib.hid hm; clear hm
        have Hgo := Lib.hid hgo; clear hgo
        have Hmlt := Lib.hid hmlt; clear hmlt
        clear hmod halt hor Ht
        by_cases hc : 128 ≤ l[k].toNat
        · go_wp2_with fail
          go_round
          case rel => exact ⟨k + 1, by omega, by omega, by go_num, by rw [Hm.out], by rw [Hgo.out, if_pos hc, show 9 - k = 10 - (k + 1) by omega]⟩
          case measure => simp [intOf]; omega
        · by_cases hp : putL m = l.take (k + 1)
          · have hpb : (putL m == l.take (k + 1)) = true := by rw [hp]; simp
            have Hp := Lib.hid hp; clear hp
            have q1 : IntKind.i64.wrap ((k : Int) + 1) = (k : Int) + 1 := IntWalk.i64_in _ (by omega)
            have q2 : 0 ≤ (k : Int) + 1 := by omega
            have q3 : ((k : Int) + 1).toNat = k + 1 := by omega
            have q4 : (k : Int) + 1 ≤ (l.length : Int) := by omega
            go_wp2_with fail
            go_region_with (go_at_call 24; refine (varint_Put m Hmlt.out _).mono ?_; rintro e w1 ⟨rfl, hb1⟩)
            all_goals
              go_wp2_with fail
              go_quiet (fail)
              go_wp2_with fail
              refine bodyPost_ret (v := takeV (m, l.drop (k + 1), 0)) (by simp [results, Tryd.results40, go_sem, takeV]) rfl ⟨by rw [Hgo.out, if_neg hc, if_pos Hp.out], ?_⟩
              first | exact (Below.refl _ w).drew.trans hb1 | exact below_drewN ((Below.refl _ w).drew.trans hb1) _
          · have hpb : (putL m == l.take (k + 1)) = false := by simpa using hp
            have Hp := Lib.hid hp; clear hp
            have q1 : IntKind.i64.wrap ((k : Int) + 1) = (k : Int) + 1 := IntWalk.i64_in _ (by omega)
            have q2 : 0 ≤ (k : Int) + 1 := by omega
            have q3 : ((k : Int) + 1).toNat = k + 1 := by omega
            have q4 : (k : Int) + 1 ≤ (l.length : Int) := by omega
            go_wp2_with fail
            go_region_with (go_at_call 24; refine (varint_Put m Hmlt.out _).mono ?_; rintro e w1 ⟨rfl, hb1⟩)
            all_goals
              go_wp2_with fail
              refine bodyPost_ret (v := takeV (0, [], 2)) (by simp [results, Tryd.results40, go_sem, takeV, bs]) rfl ⟨by rw [Hgo.out, if_neg hc, if_neg Hp.out], ?_⟩
              first | exact (Below.refl _ w).drew.trans hb1 | exact below_drewN ((Below.refl _ w).drew.trans hb1) _
end Go.Proofs.YtllaflgcladgoaaDoor
