/- crc.Seal, crc.Open -/
import Derived.Test.YtllaflgcladgoaaDoorMore
namespace Go.Proofs.YtllaflgcladgoaaDoor
open Go Go.RowKit Go.Thw

def SealIn (w1 : World) (n : Nat) (iv : Value) (wr : World) : Prop :=
  ∃ (k : Nat) (cs : List Value), iv = .int .i64 k ∧ k ≤ 4 ∧ cs.length = 4 ∧ wr = w1.alloc (.cells cs.toArray 77) ∧ cs.take k = ((le4 n).take k).map bv

theorem seal_close {cs : List Value} {k n : Nat} (hl : cs.length = 4) (hk : k < 4) (h : cs.take k = ((le4 n).take k).map bv) :
    (cs.set k (.int .u8 ((n : Int) / 2 ^ (8 * k) % 256))).take (k + 1) = ((le4 n).take (k + 1)).map bv := by
  rw [List.take_succ_eq_append_getElem (by simp; omega), List.take_set_of_le (Nat.le_refl k), h, List.take_succ_eq_append_getElem (i := k) (l := le4 n) (by simpa [le4] using hk)]
  simp only [List.getElem_set_self, List.map_append, List.map_cons, List.map_nil]
  congr 2
  obtain rfl | rfl | rfl | rfl : k = 0 ∨ k = 1 ∨ k = 2 ∨ k = 3 := by omega
  all_goals
    simp only [le4, List.getElem_cons_zero, List.getElem_cons_succ]
    rw [bv_ofNat _ (by omega)]
    simp

set_option maxRecDepth 20000 in
set_option maxHeartbeats 400000 in
theorem crc_Seal (l : List UInt8) (hl : l.length ≤ 140737488351232) (w : World) :
    Calls Tryd.prog 25 #[.string (bs l)] w fun e w' => e = .returned (.string (bs (sealL l))) ∧ Below w.heap.size w w' := by
  go_enter Tryd.func25, Tryd.ntmps25
  go_wp2_with (go_at_call 36; refine (crc_Sum l hl _).mono ?_; rintro e w1 ⟨rfl, hb1⟩)
  go_loopw [8] (SealIn w1 (moreL 0 l)) (fun i _ => 4 - (intOf i).toNat)
  case atStart => exact ⟨0, _, rfl, by omega, rfl, rfl, rfl⟩
  case round =>
    obtain ⟨k, cs, rfl, hk, hcl, rfl, htk⟩ := hrel
    have Htk := Lib.hid htk; clear htk
    generalize hn : moreL 0 l = n at *
    have Hn := Lib.hid hn; clear hn
    by_cases h : k < 4
    · obtain ⟨x, hx⟩ : ∃ x, cs[k]? = some x := ⟨cs[k], List.getElem?_eq_getElem (by omega)⟩
      have Hcl := Lib.hid hcl; clear hcl
      go_wp2
      go_roundw
      case rel => exact ⟨k + 1, _, by go_num, by omega, by simp [Hcl.out], rfl, seal_close Hcl.out h Htk.out⟩
      case measure => simp [intOf]; omega
    · obtain rfl : k = 4 := by omega
      have hc := run_conv_new (P := Tryd.prog) w1 76 9 5 77 4 cs (le4 n) 4 rfl Tryd.underlying76 Tryd.underlying5 Tryd.underlying9 Htk.out
      have Hcl := Lib.hid hcl; clear hcl
      generalize hs4 : le4 n = s4 at hc
      have h4 : s4.length = 4 := by rw [← hs4]; rfl
      have Hs4 := Lib.hid hs4; clear hs4
      go_wp2
      go_ret
      exact ⟨by rw [sealL, Hn.out, Hs4.out]; rfl, hb1.alloc hb1.size _⟩
end Go.Proofs.YtllaflgcladgoaaDoor
