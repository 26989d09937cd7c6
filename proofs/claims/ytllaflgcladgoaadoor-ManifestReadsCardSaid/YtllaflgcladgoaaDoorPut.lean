/- varint.Put -/
import Derived.Test.YtllaflgcladgoaaDoorProg
import Derived.Test.YtllaflgcladgoaaDoorBase
namespace Go.Proofs.YtllaflgcladgoaaDoor
open Go Go.RowKit Go.Thw

def PutRel (w : World) (n0 : Nat) (nv iv : Value) (wr : World) : Prop :=
  ∃ (k m : Nat) (cs : List Value), nv = .int .u64 m ∧ iv = .int .i64 k ∧ cs.length = 10 ∧ wr = w.alloc (.cells cs.toArray 74) ∧ k < 10 ∧
    m * 128 ^ k ≤ n0 ∧ ∃ pre : List UInt8, pre.length = k ∧ putL n0 = pre ++ putL m ∧ cs.take k = pre.map bv

theorem put_close {cs : List Value} {pre : List UInt8} {k : Nat} {v : UInt8} (hl : cs.length = 10) (hk : k < 10) (hp : pre.length = k) (h : cs.take k = pre.map bv) :
    (cs.set k (bv v)).take (k + 1) = (pre ++ [v]).map bv := by
  rw [List.take_succ_eq_append_getElem (by simp; omega)]
  rw [List.take_set_of_le (Nat.le_refl k), h]
  simp

set_option maxRecDepth 20000 in
set_option maxHeartbeats 400000 in
theorem varint_Put (n : Nat) (hn : n < 18446744073709551616) (w : World) :
    Calls Tryd.prog 24 #[.int .u64 n] w fun e w' => e = .returned (.string (bs (putL n))) ∧ Below w.heap.size w w' := by
  have Hn := Lib.hid hn; clear hn
  go_enter Tryd.func24, Tryd.ntmps24
  go_wp2
  go_loopw [0, 4] (PutRel w n) (fun n _ _ => (intOf n).toNat)
  case atStart => exact ⟨0, n, _, rfl, rfl, rfl, rfl, by omega, by simp, [], rfl, rfl, rfl⟩
  case round =>
    obtain ⟨k, m, cs, rfl, rfl, hl, rfl, hk, hm, pre, hp, hput, htk⟩ := hrel
    obtain ⟨x, hx⟩ : ∃ x, cs[k]? = some x := ⟨cs[k], List.getElem?_eq_getElem (by omega)⟩
    have Hput := Lib.hid hput; clear hput
    have Htk := Lib.hid htk; clear htk
    have Hp := Lib.hid hp; clear hp
    have Hl := Lib.hid hl; clear hl
    have Hm := Lib.hid hm; clear hm
    by_cases h : m < 128
    · have hc := run_conv_new (P := Tryd.prog) w 76 9 5 74 (k + 1) (cs.set k (.int .u8 (m : Int))) (pre ++ [UInt8.ofNat m]) (k + 1) (by simp [Hp.out]) Tryd.underlying76 Tryd.underlying5 Tryd.underlying9 (by
        rw [← bv_ofNat m (by omega)]; simp only [List.length_append, List.length_singleton, Hp.out]; exact put_close Hl.out hk Hp.out Htk.out)
      have q1 : (k : Int) + 1 ≤ 10 := by omega
      have q2 : 0 ≤ (k : Int) + 1 := by omega
      have q3 : ((k : Int) + 1).toNat = k + 1 := by omega
      go_wp2
      go_ret
      refine ⟨?_, ?_⟩
      · rw [Hput.out, putL_lt h]; rfl
      · exact (Below.refl _ _).alloc (Nat.le_refl _) _
    · have hk9 : k < 9 := k_lt_9 Hn.out Hm.out h
      go_wp2
      go_roundw
      case rel =>
        refine ⟨k + 1, m / 128, _, rfl, rfl, ?_, rfl, by omega, ?_, pre ++ [UInt8.ofNat (m % 128 + 128)], by simp [Hp.out], ?_, ?_⟩
        · simp [Hl.out]
        · exact put_div Hm.out
        · rw [Hput.out, putL_ge h]; simp
        · have := put_close (v := UInt8.ofNat (m % 128 + 128)) Hl.out hk Hp.out Htk.out
          rw [bv_ofNat _ (by omega), ← put_byte m] at this
          exact this
      case measure => simp [intOf]; omega
end Go.Proofs.YtllaflgcladgoaaDoor
