/- The manifest of bytes, as a plain function; and that it is the inverse of the bytes. -/
import Derived.Test.YtllaflgcladgoaaDoorBytes
namespace Go.Thw
open Go Go.RowKit

/-- a number that is not above a limit -/
def takeN (lim : Nat) (s : List UInt8) : Option (Nat × List UInt8) :=
  if (takeL s).2.2 = 0 ∧ (takeL s).1 ≤ lim then some ((takeL s).1, (takeL s).2.1) else none
def parseSegs : Nat → List UInt8 → Option (List SegD × List UInt8)
  | 0, s => some ([], s)
  | k + 1, s => (takeN 999999 s).bind fun a => (takeN 1048576 a.2).bind fun b => (takeN 4294967295 b.2).bind fun c =>
      (parseSegs k c.2).map fun r => (⟨(a.1 : Int), (b.1 : Int), c.1⟩ :: r.1, r.2)
def parseMan (s : List UInt8) : Option (Nat × List SegD) :=
  (takeN 999999 s).bind fun a => (takeN 200 a.2).bind fun b => (parseSegs b.1 b.2).bind fun r =>
    if r.2 = [] ∧ rightB (a.1 : Int) r.1 = true then some (a.1, r.1) else none

theorem takeN_some {lim : Nat} {s r : List UInt8} {n : Nat} (h : takeN lim s = some (n, r)) : takeL s = (n, r, 0) ∧ n ≤ lim := by
  unfold takeN at h
  split at h
  · next hc =>
    simp only [Option.some.injEq, Prod.mk.injEq] at h
    obtain ⟨rfl, rfl⟩ := h
    exact ⟨by rw [← hc.1], hc.2⟩
  · cases h
theorem takeN_none {lim : Nat} {s : List UInt8} (h : takeN lim s = none) : (takeL s).2.2 ≠ 0 ∨ lim < (takeL s).1 := by
  unfold takeN at h
  split at h
  · cases h
  · next hc => omega

/-- what Take takes was Put -/
theorem takeGo_put (l : List UInt8) : ∀ (f k : Nat), (takeGo l k f).2.2 = 0 → ∃ n, l = putL n ++ (takeGo l k f).2.1 ∧ (takeGo l k f).1 = n ∧ n < 18446744073709551616 := by
  intro f
  induction f with
  | zero => intro k h; simp [takeGo] at h
  | succ f ih =>
    intro k h
    rw [takeGo] at h ⊢
    split at h
    · simp at h
    · rename_i h1
      rw [if_neg h1]
      split at h
      · rename_i h2; rw [if_pos h2]; exact ih _ h
      · rename_i h2
        rw [if_neg h2]
        split at h
        · rename_i h3
          rw [if_pos h3]
          exact ⟨_, by rw [h3, List.take_append_drop], rfl, Nat.mod_lt _ (by decide)⟩
        · simp at h
theorem takeL_put {s r : List UInt8} {n : Nat} (h : takeL s = (n, r, 0)) : s = putL n ++ r ∧ n < 18446744073709551616 := by
  obtain ⟨m, h1, h2, h3⟩ := takeGo_put s 10 0 (by show (takeL s).2.2 = 0; rw [h])
  have e : takeGo s 0 10 = (n, r, 0) := h
  rw [e] at h1 h2
  simp only at h1 h2
  subst h2
  exact ⟨h1, h3⟩
end Go.Thw
