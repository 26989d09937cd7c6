/- Six digits and names: plain laws on lists of bytes. -/
import Derived.Lib.ItoaNum
import Derived.Lib.AtoiAll
import Derived.Lib.Repeat
import GoSem.Op.String
namespace Go.Thw
open Go

/-- the last k decimal digits of a number -/
def digK : Nat → Nat → List UInt8
  | 0, _ => []
  | k + 1, n => digK k (n / 10) ++ [UInt8.ofNat (48 + n % 10)]
def nameL (c : UInt8) (n : Nat) : List UInt8 := c :: digK 6 n

theorem digK_len : ∀ k n, (digK k n).length = k
  | 0, _ => rfl
  | k + 1, n => by simp [digK, digK_len k]
theorem digK_zero : ∀ k, digK k 0 = List.replicate k 48
  | 0 => rfl
  | k + 1 => by rw [digK, Nat.zero_div, digK_zero k, List.replicate_succ']; rfl
theorem dec_len : ∀ k n, n < 10 ^ (k + 1) → (Lib.decDigits n).length ≤ k + 1 := by
  intro k
  induction k with
  | zero => intro n h; rw [Lib.decDigits_one (by simpa using h)]; simp
  | succ k ih =>
    intro n h
    by_cases h1 : n < 10
    · rw [Lib.decDigits_one h1]; simp
    · rw [Lib.decDigits, dif_neg h1]
      have := ih (n / 10) (Nat.div_lt_of_lt_mul (by rw [Nat.pow_succ, Nat.mul_comm] at h; exact h))
      simp; omega
theorem pad : ∀ k n, n < 10 ^ (k + 1) → List.replicate (k + 1 - (Lib.decDigits n).length) 48 ++ Lib.decDigits n = digK (k + 1) n := by
  intro k
  induction k with
  | zero => intro n h; rw [Lib.decDigits_one (by simpa using h)]; simp [digK, Nat.mod_eq_of_lt (by simpa using h : n < 10)]
  | succ k ih =>
    intro n h
    rw [digK]
    by_cases h1 : n < 10
    · rw [Lib.decDigits_one h1, Nat.div_eq_of_lt h1, digK_zero, Nat.mod_eq_of_lt h1]; simp
    · have hd : n / 10 < 10 ^ (k + 1) := Nat.div_lt_of_lt_mul (by rw [Nat.pow_succ, Nat.mul_comm] at h; exact h)
      have hl := dec_len k (n / 10) hd
      rw [← ih (n / 10) hd, Lib.decDigits, dif_neg h1, ← List.append_assoc]
      congr 2
      simp only [List.length_append, List.length_singleton]
      congr 1
      omega
theorem repeat48 : ∀ c, Lib.repeatL [48] c = List.replicate c 48
  | 0 => rfl
  | c + 1 => by rw [Lib.repeatL, repeat48 c]; rfl

theorem parse_append (r : List UInt8) : ∀ (l : List UInt8) (acc u : Nat), Lib.parseUint10 acc l = .ok u → Lib.parseUint10 acc (l ++ r) = Lib.parseUint10 u r
  | [], acc, u, h => by simp only [Lib.parseUint10] at h; injection h with h; subst h; rfl
  | c :: l, acc, u, h => by
    simp only [List.cons_append, Lib.parseUint10] at h ⊢
    split at h
    · rename_i hd
      rw [if_pos hd]
      split at h
      · cases h
      · rename_i h1
        rw [if_neg h1]
        split at h
        · cases h
        · rename_i h2
          rw [if_neg h2]
          exact parse_append r l _ u h
    · cases h
theorem parse_digK : ∀ k n, k ≤ 6 → n < 10 ^ k → Lib.parseUint10 0 (digK k n) = .ok n := by
  intro k
  induction k with
  | zero => intro n _ h; have : n = 0 := by simpa using h
            subst this; rfl
  | succ k ih =>
    intro n hk h
    have hd : n / 10 < 10 ^ k := Nat.div_lt_of_lt_mul (by rw [Nat.pow_succ, Nat.mul_comm] at h; exact h)
    have h6 : 10 ^ (k + 1) ≤ 10 ^ 6 := Nat.pow_le_pow_right (by decide) hk
    rw [digK, parse_append _ _ _ _ (ih (n / 10) (by omega) hd)]
    have e : (UInt8.ofNat (48 + n % 10)).toNat = 48 + n % 10 := UInt8.toNat_ofNat_of_lt' (show 48 + n % 10 < 256 by omega)
    simp only [Lib.parseUint10, e]
    rw [if_pos (by omega), if_neg (by omega), if_neg (by omega)]
    congr 1
    omega
theorem digK_head (n : Nat) : ∃ c r, digK 6 n = c :: r ∧ 48 ≤ c.toNat ∧ c.toNat ≤ 57 := by
  refine ⟨UInt8.ofNat (48 + n / 10 / 10 / 10 / 10 / 10 % 10), _, rfl, ?_⟩
  rw [UInt8.toNat_ofNat_of_lt' (show 48 + n / 10 / 10 / 10 / 10 / 10 % 10 < 256 by omega)]
  omega
theorem atoi_digK (n : Nat) (h : n < 1000000) : Lib.atoiAll (digK 6 n) = .ok (n : Int) := by
  obtain ⟨c, r, hc, h1, h2⟩ := digK_head n
  have hp := parse_digK 6 n (Nat.le_refl _) (by simpa using h)
  rw [hc] at hp ⊢
  unfold Lib.atoiAll
  simp only
  rw [if_neg (by omega)]
  simp only [Lib.parseMag, if_neg (List.cons_ne_nil c r), hp]
  rw [if_neg (by omega), if_neg (by omega), if_neg (by omega)]

/-- what the document's reader reckons -/
def numFold (l : List UInt8) : Int := l.foldl (fun n b => 10 * n + (b.toNat : Int) - 48) 0
theorem numFold_snoc (l : List UInt8) (b : UInt8) : numFold (l ++ [b]) = 10 * numFold l + (b.toNat : Int) - 48 := by simp [numFold]
theorem numFold_digK : ∀ k n, n < 10 ^ k → numFold (digK k n) = n := by
  intro k
  induction k with
  | zero => intro n h; have : n = 0 := by simpa using h
            subst this; rfl
  | succ k ih =>
    intro n h
    have hd : n / 10 < 10 ^ k := Nat.div_lt_of_lt_mul (by rw [Nat.pow_succ, Nat.mul_comm] at h; exact h)
    rw [digK, numFold_snoc, ih (n / 10) hd, UInt8.toNat_ofNat_of_lt' (show 48 + n % 10 < 256 by omega)]
    omega
theorem numFold_bound : ∀ (l : List UInt8), l.length ≤ 6 → -53333328 ≤ numFold l ∧ numFold l ≤ 230000000 := by
  have key : ∀ (k : Nat) (l : List UInt8), l.length = k → -(48 * ((10 ^ k - 1) / 9 : Nat) : Int) ≤ numFold l ∧ numFold l ≤ (207 * ((10 ^ k - 1) / 9) : Nat) := by
    intro k
    induction k with
    | zero => intro l h; obtain rfl := List.length_eq_zero_iff.1 h; simp [numFold]
    | succ k ih =>
      intro l h
      obtain ⟨l', b, rfl⟩ : ∃ l' b, l = l' ++ [b] := ⟨l.dropLast, l.getLast (by intro e; simp [e] at h), (List.dropLast_concat_getLast _).symm⟩
      have := ih l' (by simpa using h)
      rw [numFold_snoc]
      have hb := b.toNat_lt
      have e : (10 ^ (k + 1) - 1) / 9 = 10 * ((10 ^ k - 1) / 9) + 1 := by
        have : 10 ^ k % 9 = 1 := by rw [Nat.pow_mod]; simp
        rw [Nat.pow_succ]; omega
      rw [e]
      omega
  intro l h
  have := key l.length l rfl
  have hle : 10 ^ l.length ≤ 10 ^ 6 := Nat.pow_le_pow_right (by decide) h
  omega
theorem nameL_inj {c d : UInt8} {a b : Nat} (ha : a < 1000000) (hb : b < 1000000) (h : nameL c a = nameL d b) : a = b := by
  have h2 : digK 6 a = digK 6 b := by simpa [nameL] using (List.cons.inj h).2
  have := congrArg numFold h2
  rw [numFold_digK 6 a (by simpa using ha), numFold_digK 6 b (by simpa using hb)] at this
  exact_mod_cast this
theorem nameL_len (c : UInt8) (n : Nat) : (nameL c n).length = 7 := by simp [nameL, digK_len]

theorem less_append : ∀ (x y u v : List UInt8), x.length = y.length → Op.bytesLess (x ++ u) (y ++ v) = (Op.bytesLess x y || (x == y && Op.bytesLess u v))
  | [], [], u, v, _ => by cases v <;> simp [Op.bytesLess]
  | a :: x, b :: y, u, v, h => by
    simp only [List.cons_append, Op.bytesLess, less_append x y u v (by simpa using h)]
    by_cases e : a = b
    · subst e; cases hxy : Op.bytesLess x y <;> simp
    · have e2 : (a == b) = false := by simpa using e
      simp [e2]
theorem less_one (a b : Nat) (ha : a < 256) (hb : b < 256) : Op.bytesLess [UInt8.ofNat a] [UInt8.ofNat b] = decide (a < b) := by
  simp only [Op.bytesLess, Bool.and_false, Bool.or_false]
  rw [Bool.eq_iff_iff]
  simp only [decide_eq_true_eq, UInt8.lt_iff_toNat_lt]
  rw [UInt8.toNat_ofNat_of_lt' (by simpa using ha), UInt8.toNat_ofNat_of_lt' (by simpa using hb)]
theorem less_digK : ∀ k a b, a < 10 ^ k → b < 10 ^ k → Op.bytesLess (digK k a) (digK k b) = decide (a < b) := by
  intro k
  induction k with
  | zero => intro a b ha hb; have : a = 0 := by simpa using ha
            have : b = 0 := by simpa using hb
            subst_vars; rfl
  | succ k ih =>
    intro a b ha hb
    have hda : a / 10 < 10 ^ k := Nat.div_lt_of_lt_mul (by rw [Nat.pow_succ, Nat.mul_comm] at ha; exact ha)
    have hdb : b / 10 < 10 ^ k := Nat.div_lt_of_lt_mul (by rw [Nat.pow_succ, Nat.mul_comm] at hb; exact hb)
    rw [digK, digK, less_append _ _ _ _ (by rw [digK_len, digK_len]), ih _ _ hda hdb, less_one _ _ (by omega) (by omega)]
    have he : (digK k (a / 10) == digK k (b / 10)) = decide (a / 10 = b / 10) := by
      rw [Bool.eq_iff_iff]; simp only [beq_iff_eq, decide_eq_true_eq]
      constructor
      · intro h; have := congrArg numFold h; rw [numFold_digK k _ hda, numFold_digK k _ hdb] at this; exact_mod_cast this
      · intro h; rw [h]
    rw [he, Bool.eq_iff_iff]
    simp only [Bool.or_eq_true, Bool.and_eq_true, decide_eq_true_eq]
    omega
theorem less_name (c : UInt8) (a b : Nat) (ha : a < 1000000) (hb : b < 1000000) : Op.bytesLess (nameL c a) (nameL c b) = decide (a < b) := by
  have := less_append [c] [c] (digK 6 a) (digK 6 b) rfl
  rw [less_digK 6 a b (by simpa using ha) (by simpa using hb)] at this
  simpa [nameL, Op.bytesLess] using this
end Go.Thw
