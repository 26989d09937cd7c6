/- Plain words shared by the walks of this seat: bytes of lists, the varint's bytes. -/
import Derived.WalkKit
import Derived.WalkSpells
import Derived.WalkLawsBesides
import Derived.Lib.Hide
import Derived.Laws.IdiomStrings
namespace Go.Thw
open Go Go.RowKit

/-- a string of a list of bytes -/
def bs (l : List UInt8) : ByteArray := ⟨l.toArray⟩
@[simp, go_sem] theorem bs_size (l : List UInt8) : (bs l).size = l.length := by simp [bs, ByteArray.size]
@[simp, go_sem] theorem bs_toList (l : List UInt8) : (bs l).toList = l := by simp [bs]
@[simp, go_sem] theorem bs_data (l : List UInt8) : (bs l).data = l.toArray := rfl
@[simp, go_sem] theorem bs_get (l : List UInt8) (i : Nat) (h : i < (bs l).size) : (bs l)[i] = l[i]'(by simpa using h) := rfl
@[simp, go_sem] theorem bs_append (a b : List UInt8) : bs a ++ bs b = bs (a ++ b) := ByteArray.mk_append_mk a b
@[simp, go_sem] theorem bs_extract (l : List UInt8) (i j : Nat) : (bs l).extract i j = bs ((l.drop i).take (j - i)) := ByteArray.extract_mk l i j
@[simp high, go_sem high] theorem bs_extract_end (l : List UInt8) (i : Nat) : (bs l).extract i l.length = bs (l.drop i) := by
  rw [bs_extract, List.take_of_length_le (by simp)]
@[simp high, go_sem high] theorem bs_extract_start (l : List UInt8) (j : Nat) : (bs l).extract 0 j = bs (l.take j) := by
  rw [bs_extract]; simp
theorem bs_of (s : ByteArray) : s = bs s.data.toList := by simp [bs]
theorem bs_nil : (ByteArray.mk #[]) = bs [] := rfl
theorem bs_inj {a b : List UInt8} (h : bs a = bs b) : a = b := by have := congrArg (fun s => s.data.toList) h; simpa using this
/-- a byte as a value -/
def bv (b : UInt8) : Value := .int .u8 (b.toNat : Int)

theorem bv_ofNat (n : Nat) (h : n < 256) : bv (UInt8.ofNat n) = .int .u8 (n : Int) := by
  unfold bv; rw [UInt8.toNat_ofNat_of_lt' (by simpa using h)]

/-- varint: the bytes of a number -/
def putL (n : Nat) : List UInt8 := if n < 128 then [UInt8.ofNat n] else UInt8.ofNat (n % 128 + 128) :: putL (n / 128)
termination_by n
decreasing_by omega

theorem putL_lt {n : Nat} (h : n < 128) : putL n = [UInt8.ofNat n] := by rw [putL, if_pos h]
theorem putL_ge {n : Nat} (h : ¬ n < 128) : putL n = UInt8.ofNat (n % 128 + 128) :: putL (n / 128) := by rw [putL, if_neg h]

theorem putL_len64 (k : Nat) : ∀ n, n < 128 ^ (k + 1) → (putL n).length ≤ k + 1 := by
  induction k with
  | zero => intro n h; rw [putL_lt (by simpa using h)]; simp
  | succ k ih =>
    intro n h
    by_cases h1 : n < 128
    · rw [putL_lt h1]; simp
    · rw [putL_ge h1]
      have := ih (n / 128) (Nat.div_lt_of_lt_mul (by rw [Nat.pow_succ, Nat.mul_comm] at h; exact h))
      simp only [List.length_cons]; omega
theorem putL_len10 {n : Nat} (h : n < 18446744073709551616) : (putL n).length ≤ 10 :=
  putL_len64 9 n (Nat.lt_of_lt_of_le h (by decide))

/-- varint.Take: the number of the seven-bit groups -/
def accN : List UInt8 → Nat
  | [] => 0
  | b :: l => b.toNat % 128 + 128 * accN l
/-- varint.Take from byte k on, with so many bytes to go -/
def takeGo (l : List UInt8) (k : Nat) : Nat → Nat × List UInt8 × Nat
  | 0 => (0, [], 2)
  | f + 1 =>
    if k = l.length then (0, [], 3)
    else if 128 ≤ (l.getD k 0).toNat then takeGo l (k + 1) f
    else if putL (accN (l.take (k + 1)) % 18446744073709551616) = l.take (k + 1) then (accN (l.take (k + 1)) % 18446744073709551616, l.drop (k + 1), 0) else (0, [], 2)
def takeL (l : List UInt8) : Nat × List UInt8 × Nat := takeGo l 0 10

theorem accN_snoc (b : UInt8) : ∀ l, accN (l ++ [b]) = accN l + b.toNat % 128 * 128 ^ l.length
  | [] => by simp [accN]
  | a :: l => by
    simp only [List.cons_append, accN, accN_snoc b l, List.length_cons, Nat.pow_succ]
    rw [Nat.mul_add, show 128 * (b.toNat % 128 * 128 ^ l.length) = b.toNat % 128 * (128 ^ l.length * 128) by ac_rfl]
    omega
theorem accN_lt : ∀ l : List UInt8, accN l < 128 ^ l.length
  | [] => by simp [accN]
  | a :: l => by
    have := accN_lt l
    simp only [accN, List.length_cons, Nat.pow_succ]
    omega
theorem accN_take (l : List UInt8) (k : Nat) (h : k < l.length) : accN (l.take (k + 1)) = accN (l.take k) + (l[k]).toNat % 128 * 128 ^ k := by
  rw [List.take_succ_eq_append_getElem h, accN_snoc, List.length_take, Nat.min_eq_left (by omega)]

theorem pow128 (k : Nat) : 128 ^ k = 2 ^ (7 * k) := by rw [Nat.pow_mul]
/-- varint.Take's own step -/
theorem take_or (a c k : Nat) (ha : a < 128 ^ k) (hk : k < 10) : a ||| (c * 128 ^ k) % 18446744073709551616 = (a + c * 128 ^ k) % 18446744073709551616 := by
  rw [pow128] at *
  have e : (18446744073709551616 : Nat) = 2 ^ (7 * k) * 2 ^ (64 - 7 * k) := by rw [← Nat.pow_add, show 7 * k + (64 - 7 * k) = 64 by omega]
  have e1 : (c * 2 ^ (7 * k)) % 18446744073709551616 = 2 ^ (7 * k) * (c % 2 ^ (64 - 7 * k)) := by
    rw [e, Nat.mul_comm c, Nat.mul_mod_mul_left]
  rw [e1, Nat.or_comm, ← Nat.two_pow_add_eq_or_of_lt ha]
  have hle : 2 ^ (7 * k) * (c % 2 ^ (64 - 7 * k)) + a < 18446744073709551616 := by
    rw [e]
    have hlt : c % 2 ^ (64 - 7 * k) < 2 ^ (64 - 7 * k) := Nat.mod_lt _ (Nat.two_pow_pos _)
    have := Nat.mul_le_mul (Nat.le_refl (2 ^ (7 * k))) hlt
    rw [Nat.mul_succ] at this
    omega
  rw [← Nat.mod_eq_of_lt hle, Nat.add_comm a, ← e1, Nat.mod_add_mod]

/-- a segment's row -/
structure SegD where
  N : Int
  Size : Int
  Sum : Nat
def SegD.vals (s : SegD) : List Value := [.int .i64 s.N, .int .i64 s.Size, .int .u32 (s.Sum : Int)]
def SegD.fits (s : SegD) : Prop := (-9223372036854775808 ≤ s.N ∧ s.N ≤ 9223372036854775807) ∧ (-9223372036854775808 ≤ s.Size ∧ s.Size ≤ 9223372036854775807) ∧ s.Sum < 4294967296
/-- a slice at this address holds these segments -/
structure SegsIn (w : World) (a : Option Addr) (xs : List SegD) : Prop where
  at_ : ∀ i (h : i < xs.length), ∃ b o, a = some ⟨b, o, none⟩ ∧ b < w.heap.size ∧ w.cell? ⟨b, o + i * 3, none⟩ = some (.int .i64 xs[i].N) ∧
    w.cell? ⟨b, o + i * 3 + 1, none⟩ = some (.int .i64 xs[i].Size) ∧ w.cell? ⟨b, o + i * 3 + 2, none⟩ = some (.int .u32 (xs[i].Sum : Int))
  fits : ∀ s ∈ xs, s.fits
theorem SegsIn.below {w w' : World} {a : Option Addr} {xs : List SegD} (h : SegsIn w a xs) (hb : Below w.heap.size w w') : SegsIn w' a xs := by
  refine ⟨fun i hi => ?_, h.fits⟩
  obtain ⟨b, o, ha, hlt, h1, h2, h3⟩ := h.at_ i hi
  exact ⟨b, o, ha, Nat.lt_of_lt_of_le hlt hb.size, (hb.cell (p := ⟨b, o + i * 3, none⟩) hlt).trans h1, (hb.cell (p := ⟨b, o + i * 3 + 1, none⟩) hlt).trans h2, (hb.cell (p := ⟨b, o + i * 3 + 2, none⟩) hlt).trans h3⟩
theorem SegsIn.nil (w : World) (a : Option Addr) : SegsIn w a [] := ⟨fun i h => absurd h (by simp), fun s h => absurd h (by simp)⟩

def segOk (s : SegD) : Bool := decide (s.N ≤ 999999) && decide (0 ≤ s.Size) && decide (s.Size ≤ 1048576)
def risingFrom : Int → List SegD → Bool
  | _, [] => true
  | last, s :: r => decide (last < s.N) && segOk s && risingFrom s.N r
def rightB (v : Int) (xs : List SegD) : Bool := risingFrom (-1) xs && (decide (1 ≤ v) && decide (v ≤ 999999) && decide (xs.length ≤ 200))
theorem rising_drop {last : Int} {xs : List SegD} {k : Nat} (h : k < xs.length) :
    risingFrom last (xs.drop k) = (decide (last < xs[k].N) && segOk xs[k] && risingFrom xs[k].N (xs.drop (k + 1))) := by
  rw [List.drop_eq_getElem_cons h, risingFrom]

/-- a new block (a boxed parameter, a local) as it was made -/
structure Boxed0 (w : World) (o : Obj) (wr : World) : Prop where
  below : Below (w.heap.size + 1) (w.alloc o) wr
theorem Boxed0.start (w : World) (o : Obj) : Boxed0 w o (w.alloc o) := ⟨Below.refl _ _⟩
theorem Boxed0.old {w : World} {o : Obj} {wr : World} (h : Boxed0 w o wr) : Below w.heap.size w wr := ((Below.refl _ w).alloc (Nat.le_refl _) o).trans (h.below.mono (by omega))
theorem Boxed0.size {w : World} {o : Obj} {wr : World} (h : Boxed0 w o wr) : w.heap.size < wr.heap.size := by have := h.below.size; simp at this; omega
theorem Boxed0.cell {w : World} {c : Array Value} {t : TypeId} {wr : World} (h : Boxed0 w (.cells c t) wr) (i : Nat) : wr.cell? ⟨w.heap.size, i, none⟩ = c[i]? :=
  (h.below.cell (p := ⟨w.heap.size, i, none⟩) (by simp)).trans (World.cell?_alloc_new w c t i)
theorem Boxed0.frozen {w : World} {c : Array Value} {t : TypeId} {wr : World} (h : Boxed0 w (.cells c t) wr) (i : Nat) : wr.frozen? ⟨w.heap.size, i, none⟩ = false :=
  (h.below.frozen (p := ⟨w.heap.size, i, none⟩) (by simp)).trans (World.frozen?_alloc_new w c t i)
theorem Boxed0.alloc {w : World} {o : Obj} {wr : World} (h : Boxed0 w o wr) (o' : Obj) : Boxed0 w o (wr.alloc o') := ⟨h.below.alloc h.size _⟩
theorem Boxed0.drew {w : World} {o : Obj} {wr : World} (h : Boxed0 w o wr) : Boxed0 w o wr.drew := ⟨h.below.drew⟩
theorem Boxed0.drewN {w : World} {o : Obj} {wr : World} (h : Boxed0 w o wr) (n : Nat) : Boxed0 w o (wr.drewN n) := ⟨below_drewN h.below n⟩
theorem Boxed0.trans {w : World} {o : Obj} {wr W : World} (h : Boxed0 w o wr) (hb : Below wr.heap.size wr W) : Boxed0 w o W := ⟨h.below.trans (hb.mono h.size)⟩

theorem pow128_9 : (128 : Nat) ^ 9 = 9223372036854775808 := by decide
theorem k_lt_9 {m k n : Nat} (hn : n < 18446744073709551616) (h : m * 128 ^ k ≤ n) (hm : ¬ m < 128) : k < 9 := by
  rcases Nat.lt_or_ge k 9 with h9 | h9
  · exact h9
  · have h1 : (128 : Nat) ^ 9 ≤ 128 ^ k := Nat.pow_le_pow_right (by decide) h9
    have h2 : 128 * 128 ^ 9 ≤ m * 128 ^ k := Nat.mul_le_mul (by omega) h1
    rw [pow128_9] at h2
    omega
theorem k_lt_10 {m k n : Nat} (hn : n < 18446744073709551616) (h : m * 128 ^ k ≤ n) (hk : m = 0 → k = 0) : k < 10 := by
  rcases Nat.lt_or_ge k 10 with h9 | h9
  · exact h9
  · have h1 : (128 : Nat) ^ 10 ≤ 128 ^ k := Nat.pow_le_pow_right (by decide) h9
    have h2 : 1 * 128 ^ 10 ≤ m * 128 ^ k := Nat.mul_le_mul (by omega) h1
    have h3 : (128 : Nat) ^ 10 = 1180591620717411303424 := by decide
    omega

theorem put_div {m k n : Nat} (h : m * 128 ^ k ≤ n) : m / 128 * 128 ^ (k + 1) ≤ n := by
  rw [Nat.pow_succ, Nat.mul_comm (128 ^ k) 128, ← Nat.mul_assoc]
  exact Nat.le_trans (Nat.mul_le_mul (Nat.div_mul_le_self m 128) (Nat.le_refl _)) h

theorem put_byte (m : Nat) : bits .or .u8 ((m : Int) % 256) 128 = ((m % 128 + 128 : Nat) : Int) := by
  have e : (m : Int) % 256 = ((m % 256 : Nat) : Int) := by omega
  have := u8_or_nat (m % 256) 128 (by omega) (by omega)
  rw [e]
  refine this.trans ?_
  have h : ∀ x : Fin 256, (x.val ||| 128) = x.val % 128 + 128 := by decide +kernel
  have := h ⟨m % 256, by omega⟩
  simp only at this
  rw [this]
  congr 1
  omega

/-- one step of the checksum -/
def cstep (n : Nat) : Nat := if n % 2 = 1 then n / 2 ^^^ 2197175160 else n / 2
def stepN : Nat → Nat → Nat
  | 0, n => n
  | k + 1, n => cstep (stepN k n)
def step8 (n : Nat) : Nat := stepN 8 n
def tv (i : Nat) : Value := .int .u32 (step8 i : Nat)
def tabV : List Value := (List.range 256).map tv

/-- the checksum's inner number behind bytes -/
def crcL (c : Nat) (l : List UInt8) : Nat := l.foldl (fun c b => step8 (c ^^^ b.toNat)) c
def moreL (s : Nat) (l : List UInt8) : Nat := 4294967295 - crcL (4294967295 - s) l

theorem step_xor (a b : Nat) : cstep (a ^^^ b) = cstep a ^^^ cstep b := by
  have hm : (a ^^^ b) % 2 = (a % 2) ^^^ (b % 2) := Nat.xor_mod_two_pow (n := 1)
  have hd : (a ^^^ b) / 2 = a / 2 ^^^ b / 2 := Nat.xor_div_two_pow (n := 1)
  unfold cstep
  rw [hm, hd]
  rcases Nat.mod_two_eq_zero_or_one a with ha | ha <;> rcases Nat.mod_two_eq_zero_or_one b with hb | hb <;> rw [ha, hb]
  · simp
  · simp [Nat.xor_assoc]
  · simp only [Nat.xor_zero, if_true]; rw [if_neg (by decide)]; ac_rfl
  · rw [if_neg (by decide), if_pos rfl, if_pos rfl]
    rw [show a / 2 ^^^ 2197175160 ^^^ (b / 2 ^^^ 2197175160) = a / 2 ^^^ b / 2 ^^^ (2197175160 ^^^ 2197175160) by ac_rfl]
    simp
theorem stepN_xor (a b : Nat) : ∀ k, stepN k (a ^^^ b) = stepN k a ^^^ stepN k b
  | 0 => rfl
  | k + 1 => by simp only [stepN]; rw [stepN_xor a b k, step_xor]
theorem stepN_mul (x : Nat) : ∀ k j, stepN k (x * 2 ^ (k + j)) = x * 2 ^ j
  | 0, j => by simp [stepN]
  | k + 1, j => by
    have := stepN_mul x k (j + 1)
    simp only [stepN]
    rw [show k + 1 + j = k + (j + 1) by omega, this]
    unfold cstep
    rw [Nat.pow_succ, ← Nat.mul_assoc, if_neg (by omega)]
    omega
theorem split8 (x : Nat) : x = (x / 256 * 256) ^^^ (x % 256) := by
  apply Nat.eq_of_testBit_eq
  intro i
  have h1 : x / 256 * 256 = (x >>> 8) <<< 8 := by rw [Nat.shiftLeft_eq, Nat.shiftRight_eq_div_pow]
  have h2 : x % 256 = x % 2 ^ 8 := rfl
  rw [h1, h2, Nat.testBit_xor, Nat.testBit_shiftLeft, Nat.testBit_mod_two_pow, Nat.testBit_shiftRight]
  by_cases h : i < 8
  · simp [h, show ¬ 8 ≤ i by omega]
  · simp [h, show 8 ≤ i by omega, show 8 + (i - 8) = i by omega]
theorem tab_byte (c b : Nat) : step8 ((c % 256) ^^^ b) ^^^ (c / 256) = step8 (c ^^^ b) := by
  have h0 : c ^^^ b = (c / 256 * 256) ^^^ ((c % 256) ^^^ b) := by
    conv => lhs; rw [split8 c]
    rw [Nat.xor_assoc]
  rw [h0]
  unfold step8
  rw [stepN_xor (c / 256 * 256)]
  have := stepN_mul (c / 256) 8 0
  simp at this
  rw [this, Nat.xor_comm]

/-- four bytes, the least first -/
def le4 (n : Nat) : List UInt8 := [UInt8.ofNat (n % 256), UInt8.ofNat (n / 256 % 256), UInt8.ofNat (n / 65536 % 256), UInt8.ofNat (n / 16777216 % 256)]

def sealL (l : List UInt8) : List UInt8 := le4 (moreL 0 l) ++ l

def segL (s : SegD) : List UInt8 := putL s.N.toNat ++ putL s.Size.toNat ++ putL s.Sum
def bodyL (v : Nat) (xs : List SegD) : List UInt8 := putL v ++ putL xs.length ++ xs.flatMap segL
def bytesL (v : Nat) (xs : List SegD) : List UInt8 := sealL (bodyL v xs)

theorem tabV_size : tabV.toArray.size = 256 := by simp [tabV]
theorem tabV_one : tabV.toArray.all (·.oneCell') = true := by
  rw [Array.all_eq_true_iff_forall_mem]
  intro x hx
  simp [tabV] at hx
  obtain ⟨i, _, rfl⟩ := hx
  rfl

theorem step_lt {n : Nat} (h : n < 4294967296) : cstep n < 4294967296 := by
  unfold cstep; split
  · exact Nat.xor_lt_two_pow (n := 32) (by omega) (by omega)
  · omega
theorem stepN_lt {n : Nat} (h : n < 4294967296) : ∀ k, stepN k n < 4294967296
  | 0 => h
  | k + 1 => step_lt (stepN_lt h k)

theorem step8_lt {n : Nat} (h : n < 4294967296) : step8 n < 4294967296 := stepN_lt h 8
theorem crcL_lt {c : Nat} (h : c < 4294967296) : ∀ l, crcL c l < 4294967296 := by
  intro l
  induction l generalizing c with
  | nil => exact h
  | cons b l ih => exact ih (step8_lt (Nat.xor_lt_two_pow (n := 32) h (by have := b.toNat_lt; omega)))
theorem crcL_snoc (c : Nat) (l : List UInt8) (b : UInt8) : crcL c (l ++ [b]) = step8 (crcL c l ^^^ b.toNat) := by simp [crcL]
theorem moreL_lt (l : List UInt8) : moreL 0 l < 4294967296 := by unfold moreL; omega
theorem le4_cells (n : Nat) : ([.int .u8 ((n : Int) % 256), .int .u8 ((n : Int) / 256 % 256), .int .u8 ((n : Int) / 65536 % 256), .int .u8 ((n : Int) / 16777216 % 256)] : List Value).take (le4 n).length = (le4 n).map bv := by
  unfold le4
  simp only [List.map_cons, List.map_nil]
  rw [bv_ofNat _ (by omega), bv_ofNat _ (by omega), bv_ofNat _ (by omega), bv_ofNat _ (by omega)]
  simp

theorem u32_not (s : Nat) (h : s < 4294967296) : bits .xor .u32 IntKind.u32.max (s : Int) = ((4294967295 - s : Nat) : Int) := by
  have h1 : IntKind.u32.max = ((4294967295 : Nat) : Int) := by decide
  rw [h1, u32_xor_nat _ _ (by omega) h]
  congr 1
  have h2 : 4294967295 - s = 2 ^ 32 - (s + 1) := by omega
  have h3 : (4294967295 : Nat) = 2 ^ 32 - 1 := by decide
  rw [h2]
  apply Nat.eq_of_testBit_eq
  intro i
  rw [Nat.testBit_two_pow_sub_succ (by omega), Nat.testBit_xor, h3, Nat.testBit_two_pow_sub_one]
  by_cases hi : i < 32
  · simp [hi]
  · have : s.testBit i = false := Nat.testBit_lt_two_pow (Nat.lt_of_lt_of_le (show s < 2 ^ 32 by omega) (Nat.pow_le_pow_right (show 0 < 2 by decide) (show 32 ≤ i by omega)))
    simp [hi, this]

theorem tab_step (n : Nat) (hn : n < 4294967296) : bits .xor .u32 ((n : Int) / 2) (bits .and .u32 2197175160 (-bits .and .u32 (n : Int) 1 % 4294967296)) = (cstep n : Nat) := by
  have h1 : bits .and .u32 (n : Int) 1 = ((n % 2 : Nat) : Int) := by
    have := u32_and_nat n 1 hn (by omega)
    rw [Nat.and_one_is_mod] at this
    exact this
  rw [h1]
  have h2 : (n : Int) / 2 = ((n / 2 : Nat) : Int) := by omega
  rw [h2]
  unfold cstep
  by_cases h : n % 2 = 1
  · rw [if_pos h, h]
    have h3 : -((1 : Nat) : Int) % 4294967296 = ((4294967295 : Nat) : Int) := by decide
    rw [h3]
    have h4 : bits .and .u32 2197175160 ((4294967295 : Nat) : Int) = ((2197175160 : Nat) : Int) := (u32_and_nat 2197175160 4294967295 (by omega) (by omega)).trans (by decide +kernel)
    rw [h4]
    exact u32_xor_nat _ _ (by omega) (by omega)
  · have h0 : n % 2 = 0 := by omega
    rw [if_neg h, h0]
    have h3 : -((0 : Nat) : Int) % 4294967296 = ((0 : Nat) : Int) := by decide
    rw [h3]
    have h4 : bits .and .u32 2197175160 ((0 : Nat) : Int) = ((0 : Nat) : Int) := (u32_and_nat 2197175160 0 (by omega) (by omega)).trans (by decide +kernel)
    rw [h4, u32_xor_nat _ _ (by omega) (by omega)]
    simp

theorem tab_close {cs : List Value} {k : Nat} (hl : cs.length = 256) (hk : k < 256) (h : cs.take k = (List.range k).map tv) :
    (cs.set k (tv k)).take (k + 1) = (List.range (k + 1)).map tv := by
  rw [List.take_succ_eq_append_getElem (by simp; omega), List.take_set_of_le (Nat.le_refl k), h, List.range_succ]
  simp

/-- 'string(b)' of a new row whose cells begin with the bytes l -/
theorem run_conv_new {P : Program} (w : World) (src dst e t : TypeId) (cap : Nat) (cs : List Value) (l : List UInt8) (n : Nat) (hn : n = l.length)
    (hs : P.underlying src = some (.slice e)) (he : P.underlying e = some (.int .u8)) (hd : P.underlying dst = some .string)
    (hc : cs.take l.length = l.map bv) :
    (convert src dst (.slice (some ⟨w.heap.size, 0, none⟩) n cap)).run P (w.alloc (.cells cs.toArray t)) = .ok (.string (bs l)) (w.alloc (.cells cs.toArray t)) := by
  subst hn
  refine run_convert_bytes_back _ src dst e _ cap l hs he hd (fun j hj => ?_)
  have : (⟨w.heap.size, 0, none⟩ : Addr).add j = ⟨w.heap.size, j, none⟩ := by
    unfold Addr.add; split
    · next h => rw [h]
    · simp
  rw [this, World.cell?_alloc_new]
  have h2 : (cs.take l.length)[j]? = (l.map bv)[j]? := by rw [hc]
  rw [List.getElem?_take_of_lt hj, List.getElem?_map, List.getElem?_eq_getElem hj] at h2
  simpa [bv] using h2
end Go.Thw
