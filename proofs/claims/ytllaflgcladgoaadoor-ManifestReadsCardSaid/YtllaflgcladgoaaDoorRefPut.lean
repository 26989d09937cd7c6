/- thwartref01.Put -/
import Derived.Test.YtllaflgcladgoaaDoorProg
import Derived.Test.YtllaflgcladgoaaDoorBase
import Derived.Deep.RegionWith
namespace Go.Proofs.YtllaflgcladgoaaDoor
open Go Go.RowKit Go.Thw

theorem ref_conv (b : UInt8) (W : World) (g : Nat) (h : W.cell? ⟨g, 0, none⟩ = some (.int .u8 (b.toNat : Int))) :
    (convert 76 9 (.slice (some ⟨g, 0, none⟩) 1 1)).run Tryd.prog W = .ok (.string (bs [b])) W :=
  run_convert_bytes_back W 76 9 5 ⟨g, 0, none⟩ 1 [b] Tryd.underlying76 Tryd.underlying5 Tryd.underlying9 (fun j hj => by
    obtain rfl : j = 0 := by simpa using hj
    simpa [Addr.add] using h)

set_option maxRecDepth 20000 in
set_option maxHeartbeats 400000 in
theorem ref_Put (m : Nat) : ∀ (n : Nat), n ≤ m → n < 18446744073709551616 → ∀ w : World,
    Calls Tryd.prog 26 #[.int .u64 n] w fun e w' => e = .returned (.string (bs (putL n))) ∧ Below w.heap.size w w' := by
  induction m using Nat.strongRecOn with
  | _ m ih =>
    intro n hnm hn w
    have Hn := Lib.hid hn; clear hn
    have Ih := Lib.hid ih; clear ih
    by_cases h : n < 128
    · have hc := ref_conv (UInt8.ofNat n)
      rw [UInt8.toNat_ofNat_of_lt' (by simpa using (by omega : n < 256))] at hc
      go_enter Tryd.func26, Tryd.ntmps26
      go_wp2_with fail
      go_ret
      exact ⟨by rw [putL_lt h]; rfl, (Below.refl _ _).alloc (Nat.le_refl _) _⟩
    · have hc := ref_conv (UInt8.ofNat (n % 128 + 128))
      rw [UInt8.toNat_ofNat_of_lt' (by simpa using (by omega : n % 128 + 128 < 256)), show ((n % 128 + 128 : Nat) : Int) = 128 + (n : Int) % 128 by omega] at hc
      generalize hb0 : UInt8.ofNat (n % 128 + 128) = b0 at hc
      have Hb0 := Lib.hid hb0; clear hb0
      go_enter Tryd.func26, Tryd.ntmps26
      go_wp2_with fail
      have q1 : (n : Int).tmod 128 = (n : Int) % 128 := Int.tmod_eq_emod_of_nonneg (by omega)
      have q2 : IntKind.u64.wrap (128 + (n : Int) % 128) = 128 + (n : Int) % 128 := by rw [IntKind.wrap_u64]; omega
      have q3 : IntKind.u8.wrap (128 + (n : Int) % 128) = 128 + (n : Int) % 128 := by rw [IntKind.wrap_u8']; omega
      have q4 : IntKind.u64.wrap ((n : Int) / 128) = ((n / 128 : Nat) : Int) := by have := Hn.out; rw [IntKind.wrap_u64]; omega
      have q5 : (putL (n / 128)).length ≤ 10 := putL_len10 (by have := Hn.out; omega)
      have Ih1 := fun w => Ih.out (n / 128) (by omega) (n / 128) (by omega) (by have := Hn.out; omega) w
      have Ih2 := Lib.hid Ih1; clear Ih1
      go_region_with (go_at_call 26; refine (Ih2.out _).mono ?_; rintro e w1 ⟨rfl, hb1⟩; have hcell := fun h => hb1.cell (p := ⟨w.heap.size, 0, none⟩) h)
      all_goals
        go_wp2_with fail
        go_ret
        refine ⟨by rw [putL_ge h, Hb0.out]; rfl, ?_⟩
        first
          | exact (((Below.refl _ w).alloc (Nat.le_refl _) _).drew).trans (hb1.mono (by simp))
          | exact (((Below.refl _ w).drew).trans hb1).alloc hb1.size _
end Go.Proofs.YtllaflgcladgoaaDoor
