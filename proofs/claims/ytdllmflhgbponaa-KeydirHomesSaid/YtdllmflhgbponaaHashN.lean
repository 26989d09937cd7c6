/- keydir's places and hash: plain words, the bits -/
import Derived.WalkKit
import Derived.Test.YtdllmflhgbponaaKdT
import Derived.Laws.BitsAllLaws
import Derived.IntWalk
namespace Go.Thw
open Go
theorem sumStep_lt (n : Nat) (b : UInt8) : sumStep n b < 18446744073709551616 := by unfold sumStep; exact Nat.mod_lt _ (by omega)
theorem xor_lt64 {a b : Nat} (ha : a < 18446744073709551616) (hb : b < 18446744073709551616) : a ^^^ b < 18446744073709551616 := Nat.xor_lt_two_pow (n := 64) ha hb
theorem hash_step (n : Nat) (hn : n < 18446744073709551616) (b : UInt8) : IntKind.u64.wrap (bits .xor .u64 (n : Int) (b.toNat : Int) * 1099511628211) = (sumStep n b : Nat) := by
  have := b.toNat_lt
  rw [u64_xor_nat _ _ hn (by omega), IntKind.wrap_u64]
  unfold sumStep
  simp
theorem sumN_lt (l : List UInt8) : sumN l < 18446744073709551616 := by
  rcases List.eq_nil_or_concat l with rfl | ⟨r, b, rfl⟩
  · unfold sumN; rw [List.foldl_nil]; omega
  · unfold sumN; rw [List.concat_eq_append, List.foldl_append, List.foldl_cons, List.foldl_nil]; exact sumStep_lt _ _
theorem sumN_snoc (l : List UInt8) (b : UInt8) : sumN (l ++ [b]) = sumStep (sumN l) b := by
  unfold sumN; rw [List.foldl_append, List.foldl_cons, List.foldl_nil]
theorem sumN_take (l : List UInt8) (k : Nat) (h : k < l.length) : sumN (l.take (k + 1)) = sumStep (sumN (l.take k)) l[k] := by
  rw [List.take_succ_eq_append_getElem h, sumN_snoc]
theorem mixStep_lt (n b : Nat) : mixStep n b < 18446744073709551616 := by unfold mixStep; exact Nat.mod_lt _ (by omega)
theorem mix_step (n by_ : Nat) (hn : n < 18446744073709551616) : IntKind.u64.wrap (bits .xor .u64 (n : Int) ((n : Int) / 8589934592) * (by_ : Int)) = (mixStep n by_ : Nat) := by
  rw [show (n : Int) / 8589934592 = ((n / 8589934592 : Nat) : Int) by omega, u64_xor_nat _ _ hn (by omega), IntKind.wrap_u64]
  unfold mixStep
  simp
theorem mix_last (n : Nat) (hn : n < 18446744073709551616) : bits .xor .u64 (n : Int) ((n : Int) / 8589934592) = ((n ^^^ n / 8589934592 : Nat) : Int) := by
  rw [show (n : Int) / 8589934592 = ((n / 8589934592 : Nat) : Int) by omega, u64_xor_nat _ _ hn (by omega)]
theorem place_mask (x m : Nat) (hx : x < 18446744073709551616) (hm : m < 60) : bits .and .u64 (x : Int) (((2 : Nat) ^ m : Nat) - 1 : Int) = ((x % 2 ^ m : Nat) : Int) := by
  have h1 : 1 ≤ 2 ^ m := Nat.one_le_two_pow
  have h2 : 2 ^ m < 2 ^ 60 := Nat.pow_lt_pow_right (by omega) hm
  rw [show (((2 : Nat) ^ m : Nat) - 1 : Int) = ((2 ^ m - 1 : Nat) : Int) by omega, u64_and_nat _ _ hx (by omega), Nat.and_two_pow_sub_one_eq_mod]
theorem i64_mask (x : Int) (m : Nat) (hm : m < 60) : bits .and .i64 x (((2 : Nat) ^ m : Nat) - 1 : Int) = x % ((2 ^ m : Nat) : Int) := by
  have h1 : 1 ≤ 2 ^ m := Nat.one_le_two_pow
  have h2 : 2 ^ m < 2 ^ 60 := Nat.pow_lt_pow_right (by omega) hm
  have h3 : (2 : Nat) ^ 60 = 1152921504606846976 := by decide
  rw [show (((2 : Nat) ^ m : Nat) - 1 : Int) = ((2 ^ m - 1 : Nat) : Int) by omega]
  show IntKind.i64.wrap ((BitVec.ofInt 64 x &&& BitVec.ofInt 64 ((2 ^ m - 1 : Nat) : Int)).toNat : Int) = _
  rw [BitVec.toNat_and, ofInt_u64 (2 ^ m - 1) (by omega), Nat.and_two_pow_sub_one_eq_mod]
  have h4 : ((BitVec.ofInt 64 x).toNat : Int) = x % 18446744073709551616 := by
    rw [BitVec.toNat_ofInt]; omega
  have h5 : (((BitVec.ofInt 64 x).toNat % 2 ^ m : Nat) : Int) = x % ((2 ^ m : Nat) : Int) := by
    rw [Int.natCast_emod, h4, Int.emod_emod_of_dvd]
    rw [show (18446744073709551616 : Int) = ((2 ^ 64 : Nat) : Int) by decide]
    exact Int.natCast_dvd_natCast.2 (Nat.pow_dvd_pow 2 (by omega))
  rw [h5]
  have h6 := Int.emod_nonneg x (b := ((2 ^ m : Nat) : Int)) (by omega)
  have h7 := Int.emod_lt_of_pos x (b := ((2 ^ m : Nat) : Int)) (by omega)
  exact IntWalk.i64_in _ (by omega)
end Go.Thw
