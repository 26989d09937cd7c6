/- Bytes and Read as plain functions, whatever the manifest and the bytes -/
import Derived.Test.YtllaflgcladgoaaDoorPlain
import Derived.Test.YtllaflgcladgoaaDoorRead
import Derived.Test.YtllaflgcladgoaaDoorBytes
import Derived.Test.YtllaflgcladgoaaDoorRefBytes
namespace Go.Proofs.YtllaflgcladgoaaDoor
open Go Go.RowKit Go.Thw

def bytesO (v : Int) (xs : List SegD) : List UInt8 × Int := if rightB v xs = true then (bytesL v.toNat xs, 0) else ([], 1)
def readL (l : List UInt8) : Int × Int × List SegD :=
  match openL l with
  | none => (4, 0, [])
  | some d => match parseMan d with
    | none => (2, 0, [])
    | some (v, xs) => (0, (v : Int), xs)

theorem man_Bytes_c (w : World) (v : Int) (a : Option Addr) (c : Nat) (xs : List SegD) (hn : xs.length ≤ 140737488351232) (ha : SegsIn w a xs) :
    Calls Tryd.prog 8 #[.agg #[.int .i64 v, .slice a xs.length c]] w fun e w' => e = .returned (.tuple #[.string (bs (bytesO v xs).1), .int .i64 (bytesO v xs).2]) ∧ Below w.heap.size w w' := by
  unfold bytesO
  by_cases h : rightB v xs = true
  · rw [if_pos h]
    obtain ⟨k, rfl⟩ : ∃ k : Nat, v = k := ⟨v.toNat, by simp [rightB] at h; omega⟩
    exact man_Bytes_ok w k a c xs hn ha h
  · rw [if_neg h]
    exact man_Bytes_no w v a c xs hn ha (by simpa using h)
theorem ref_Bytes_c (w : World) (v : Int) (a : Option Addr) (c : Nat) (xs : List SegD) (hn : xs.length ≤ 140737488351232) (ha : SegsIn w a xs) :
    Calls Tryd.prog 9 #[.agg #[.int .i64 v, .slice a xs.length c]] w fun e w' => e = .returned (.tuple #[.string (bs (bytesO v xs).1), .int .i64 (bytesO v xs).2]) ∧ Below w.heap.size w w' := by
  unfold bytesO
  by_cases h : rightB v xs = true
  · rw [if_pos h]
    obtain ⟨k, rfl⟩ : ∃ k : Nat, v = k := ⟨v.toNat, by simp [rightB] at h; omega⟩
    exact ref_Bytes_ok w k a c xs hn ha h
  · rw [if_neg h]
    exact ref_Bytes_no w v a c xs hn ha (by simpa using h)
theorem man_Read_c (w : World) (l : List UInt8) (hl : l.length ≤ 140737488351232) :
    Calls Tryd.prog 11 #[.string (bs l)] w fun e w' => (∃ a c, e = .returned (.tuple #[.agg #[.int .i64 (readL l).2.1, .slice a (readL l).2.2.length c], .int .i64 (readL l).1]) ∧ SegsIn w' a (readL l).2.2) ∧ Below w.heap.size w w' := by
  cases ho : openL l with
  | none =>
    rw [show readL l = (4, 0, []) by simp only [readL, ho]]
    refine (man_Read_sum l hl ho w).mono ?_
    rintro e w' ⟨rfl, hb⟩
    exact ⟨⟨none, 0, rfl, SegsIn.nil _ _⟩, hb⟩
  | some d =>
    refine (man_Read_parse l d hl ho w).mono ?_
    rintro e w' ⟨hb, h⟩
    cases hp : parseMan d with
    | none =>
      rw [hp] at h
      simp only at h
      subst h
      rw [show readL l = (2, 0, []) by simp only [readL, ho, hp]]
      exact ⟨⟨none, 0, rfl, SegsIn.nil _ _⟩, hb⟩
    | some r =>
      obtain ⟨v, xs⟩ := r
      rw [hp] at h
      obtain ⟨a, c, rfl, hs⟩ := h
      rw [show readL l = (0, (v : Int), xs) by simp only [readL, ho, hp]]
      exact ⟨⟨a, c, rfl, hs⟩, hb⟩

theorem readL_bytes {v : Int} {xs : List SegD} (hr : rightB v xs = true) (hf : ∀ s ∈ xs, s.fits) : readL (bytesL v.toNat xs) = (0, v, xs) := by
  obtain ⟨k, rfl⟩ : ∃ k : Nat, v = k := ⟨v.toNat, by simp [rightB] at hr; omega⟩
  simp only [readL, bytesL, openL_seal, Int.toNat_natCast, parseMan_of hr hf]
theorem readL_nil : readL [] = (4, 0, []) := rfl
theorem readL_ok {l : List UInt8} (h : (readL l).1 = 0) : rightB (readL l).2.1 (readL l).2.2 = true ∧ bytesL (readL l).2.1.toNat (readL l).2.2 = l ∧ ∀ s ∈ (readL l).2.2, s.fits := by
  cases ho : openL l with
  | none => rw [show readL l = (4, 0, []) by simp only [readL, ho]] at h; simp at h
  | some d =>
    cases hp : parseMan d with
    | none => rw [show readL l = (2, 0, []) by simp only [readL, ho, hp]] at h; simp at h
    | some r =>
      obtain ⟨v, xs⟩ := r
      obtain ⟨h1, h2, h3⟩ := parseMan_put hp
      rw [show readL l = (0, (v : Int), xs) by simp only [readL, ho, hp]]
      exact ⟨h2, by rw [openL_some ho, h1]; rfl, h3⟩
theorem readL_err (l : List UInt8) : (readL l).1 = 0 ∨ ((readL l).1 = 4 ∨ (readL l).1 = 2) ∧ (readL l).2 = (0, []) := by
  cases ho : openL l with
  | none => rw [show readL l = (4, 0, []) by simp only [readL, ho]]; simp
  | some d =>
    cases hp : parseMan d with
    | none => rw [show readL l = (2, 0, []) by simp only [readL, ho, hp]]; simp
    | some r => rw [show readL l = (0, (r.1 : Int), r.2) by simp only [readL, ho, hp]]; simp
theorem readL_len (l : List UInt8) : (readL l).2.2.length ≤ 200 ∧ ∀ s ∈ (readL l).2.2, s.fits := by
  rcases readL_err l with h | ⟨_, h⟩
  · obtain ⟨h1, _, h3⟩ := readL_ok h
    exact ⟨by simp [rightB] at h1; omega, h3⟩
  · rw [h]; exact ⟨by simp, fun s hs => by simp at hs⟩
theorem bytesO_len (v : Int) (xs : List SegD) (hf : ∀ s ∈ xs, s.fits) : (bytesO v xs).1.length ≤ 100000 := by
  unfold bytesO
  by_cases h : rightB v xs = true
  · rw [if_pos h]
    obtain ⟨k, rfl⟩ : ∃ k : Nat, v = k := ⟨v.toNat, by simp [rightB] at h; omega⟩
    obtain ⟨h1, h2, h3, h4⟩ := right_facts h
    have := flat_len xs h1 hf xs.length
    rw [List.take_length] at this
    have a := putL_len10 (n := k) (by omega)
    have b := putL_len10 (n := xs.length) (by omega)
    simp only [bytesL, sealL, bodyL, List.length_append, le4_len, Int.toNat_natCast]
    omega
  · rw [if_neg h]; simp
end Go.Proofs.YtllaflgcladgoaaDoor
