/- package hash -/
import Derived.Test.YtdllmflhgbponaaProg
import Derived.Test.YtdllmflhgbponaaBase
import Derived.Test.YtdllmflhgbponaaKdT
import Derived.Test.YtdllmflhgbponaaHashN
import Derived.Deep.QuietTactic
import Derived.BigQuiet
namespace Go.Proofs.Ytdllmflhgbponaa
open Go Go.RowKit Go.Thw

def SumRel (l : List UInt8) (nv iv : Value) : Prop := ∃ k : Nat, k ≤ l.length ∧ iv = .int .i64 k ∧ nv = .int .u64 (sumN (l.take k) : Nat)

set_option maxRecDepth 20000 in
set_option maxHeartbeats 400000 in
theorem hash_Sum (l : List UInt8) (hl : l.length ≤ 140737488351232) (w : World) :
    Calls Try.prog 21 #[.string (bs l)] w fun e w' => e = .returned (.int .u64 (sumN l : Nat)) ∧ w = w' := by
  go_enter Try.func21, Try.ntmps21
  go_wp2_with fail
  go_loop [3, 7] (SumRel l) (fun _ i => l.length - (intOf i).toNat)
  case atStart => exact ⟨0, by omega, rfl, rfl⟩
  case round =>
    obtain ⟨k, hk, rfl, rfl⟩ := hrel
    by_cases h : k < l.length
    · have hs := sumN_take l k h
      have hlt := sumN_lt (l.take k)
      have hst := hash_step _ hlt l[k]
      have hbw : IntKind.u64.wrap (l[k].toNat : Int) = (l[k].toNat : Int) := by have := l[k].toNat_lt; rw [IntKind.wrap_u64]; omega
      rw [← hs] at hst
      rw [← hbw] at hst
      have Hst := Lib.hid hst
      clear hs hlt hst hbw
      generalize sumN (l.take k) = n at *
      go_wp2_with fail
      go_round
      case rel => exact ⟨k + 1, by omega, by go_num, by rw [Hst.out]⟩
      case measure => simp [intOf]; omega
    · obtain rfl : k = l.length := by omega
      rw [List.take_length]
      go_wp2_with fail
      go_ret
      exact ⟨rfl, rfl⟩

theorem hash_factors (w : World) : Calls Try.prog 29 #[] w fun e w' => e = .returned (.agg #[.int .u64 18397679294719823053, .int .u64 14181476777654086739]) ∧ Below w.heap.size w w' := by
  go_enter Try.func29, Try.ntmps29
  go_wp2_with fail
  exact bodyPost_ret (v := .agg #[.int .u64 18397679294719823053, .int .u64 14181476777654086739]) (by simp [results, Try.results29, go_sem]) rfl ⟨rfl, by
    first | exact (Below.refl _ _).alloc (Nat.le_refl _) _ | exact ((Below.refl _ _).alloc (Nat.le_refl _) _).setCell (by simp) _⟩

def MixRel (w : World) (n0 : Nat) (nv iv : Value) (wr : World) : Prop := (nv = .int .u64 n0 ∧ iv = .int .i64 0 ∧ Below w.heap.size w wr) ∨ (nv = .int .u64 (mixStep n0 18397679294719823053 : Nat) ∧ iv = .int .i64 1 ∧ Below w.heap.size w wr) ∨
  (nv = .int .u64 (mixStep (mixStep n0 18397679294719823053) 14181476777654086739 : Nat) ∧ iv = .int .i64 2 ∧ Below w.heap.size w wr)

set_option maxRecDepth 20000 in
set_option maxHeartbeats 400000 in
theorem hash_Mix (n : Nat) (hn : n < 18446744073709551616) (w : World) :
    Calls Try.prog 20 #[.int .u64 n] w fun e w' => e = .returned (.int .u64 (mixN n : Nat)) ∧ Below w.heap.size w w' := by
  have h1 := mix_step n 18397679294719823053 hn
  have h2 := mix_step _ 14181476777654086739 (mixStep_lt n 18397679294719823053)
  have h3 := mix_last _ (mixStep_lt (mixStep n 18397679294719823053) 14181476777654086739)
  have i0 : ∀ w, (Instr.index 67 (.agg #[.int .u64 18397679294719823053, .int .u64 14181476777654086739]) (.int .i64 0)).run Try.prog w = .ok (.int .u64 18397679294719823053) w := fun _ => by kernel_rfl
  have i1 : ∀ w, (Instr.index 67 (.agg #[.int .u64 18397679294719823053, .int .u64 14181476777654086739]) (.int .i64 1)).run Try.prog w = .ok (.int .u64 14181476777654086739) w := fun _ => by kernel_rfl
  have H1 := Lib.hid h1; have H2 := Lib.hid h2; have H3 := Lib.hid h3
  clear h1 h2 h3 hn
  go_enter Try.func20, Try.ntmps20
  go_wp2_with (go_at_call 29; refine (hash_factors _).mono ?_; rintro e w1 ⟨rfl, hb⟩)
  go_loopw [0, 6] (MixRel w n) (fun _ i _ => 2 - (intOf i).toNat)
  case atStart => exact Or.inl ⟨rfl, rfl, hb⟩
  case round =>
    rcases hrel with ⟨rfl, rfl, hb'⟩ | ⟨rfl, rfl, hb'⟩ | ⟨rfl, rfl, hb'⟩
    · go_wp2_with fail
      go_roundw
      case rel => exact Or.inr (Or.inl ⟨by rw [← H1.out]; rfl, rfl, hb'⟩)
      case measure => simp [intOf]
    · go_wp2_with fail
      go_roundw
      case rel => exact Or.inr (Or.inr ⟨by rw [← H2.out]; rfl, rfl, hb'⟩)
      case measure => simp [intOf]
    · go_wp2_with fail
      go_ret
      exact ⟨by unfold mixN; rw [← H3.out]; rfl, hb'⟩

theorem mixN_lt (n : Nat) : mixN n < 18446744073709551616 := by
  unfold mixN
  have := mixStep_lt (mixStep n 18397679294719823053) 14181476777654086739
  exact xor_lt64 this (by omega)

set_option maxRecDepth 20000 in
set_option maxHeartbeats 400000 in
theorem hash_Place (k : List UInt8) (hk : k.length ≤ 140737488351232) (N : Nat) (h1 : 1 ≤ N) (h2 : N ≤ 1073741824) (hp : ∃ m, N = 2 ^ m) (w : World) :
    Calls Try.prog 17 #[.string (bs k), .int .i64 N] w fun e w' => e = .returned (.int .i64 (homeN k N : Nat)) ∧ Below w.heap.size w w' := by
  obtain ⟨m, hm⟩ := hp
  have hm60 : m < 60 := by
    refine Nat.lt_of_not_le fun h => ?_
    have : 2 ^ 60 ≤ 2 ^ m := Nat.pow_le_pow_right (by omega) h
    have h3 : (2 : Nat) ^ 60 = 1152921504606846976 := by decide
    omega
  have a1 := i64_mask (N : Int) m hm60
  have a2 := place_mask (mixN (sumN k)) m (mixN_lt _) hm60
  rw [← hm] at a1 a2
  have a3 : ((N : Int) % ((N : Nat) : Int)) = 0 := Int.emod_self
  rw [a3] at a1
  have q0 : (bits .and .i64 (N : Int) ((N : Int) - 1) == 0) = true := by rw [a1]; rfl
  have q1 : (bits .and .i64 (N : Int) ((N : Int) - 1) != 0) = false := by rw [a1]; rfl
  have q2 : decide ((N : Int) < 1) = false := by simp; omega
  have q3 : decide ((1073741824 : Int) < (N : Int)) = false := by simp; omega
  have hw : wrap64 ((homeN k N : Nat) : Int) = ((homeN k N : Nat) : Int) := by have := homeN_lt k h1; unfold wrap64; omega
  have e : mixN (sumN k) % N = homeN k N := (homeN_eq k N).symm
  rw [e] at a2
  have A2 := Lib.hid a2; clear a1 a2 a3 e hm
  have HW := Lib.hid hw; clear hw
  have HM := Lib.hid (hash_Mix (sumN k) (sumN_lt k))
  go_enter Try.func17, Try.ntmps17
  go_wp2_with (first
    | (go_at_call 20; refine (HM.out _).mono ?_; rintro e w1 ⟨rfl, hb⟩)
    | (go_at_call 21; refine (hash_Sum k hk _).mono ?_; rintro e w1 ⟨rfl, rfl⟩))
  go_ret
  exact ⟨by rw [A2.out, HW.out]; rfl, hb⟩
end Go.Proofs.Ytdllmflhgbponaa
