/- crc.Open -/
import Derived.Test.YtllaflgcladgoaaDoorSeal
import Derived.RegionCalls
namespace Go.Proofs.YtllaflgcladgoaaDoor
open Go Go.RowKit Go.Thw

set_option maxRecDepth 20000 in
set_option maxHeartbeats 400000 in
theorem crc_Open_short (l : List UInt8) (hl : l.length < 4) (w : World) :
    Calls Tryd.prog 29 #[.string (bs l)] w fun e w' => e = .returned (.tuple #[.string (bs []), .bool false]) ∧ Below w.heap.size w w' := by
  go_enter Tryd.func29, Tryd.ntmps29
  go_wp2_with fail
  go_ret2
  exact ⟨rfl, Below.refl _ _⟩

set_option maxRecDepth 20000 in
set_option maxHeartbeats 400000 in
theorem crc_Open_long (t : Bool) (l : List UInt8) (h4 : 4 ≤ l.length) (hl : l.length ≤ 140737488351232) (ht : (le4 (moreL 0 (l.drop 4)) == l.take 4) = t) (w : World) :
    Calls Tryd.prog 29 #[.string (bs l)] w fun e w' => e = .returned (.tuple #[.string (bs (if t then l.drop 4 else [])), .bool t]) ∧ Below w.heap.size w w' := by
  have q1 : (4 : Int) ≤ (l.length : Int) := by omega
  have q2 : (4 : Int) ≤ ((sealL (l.drop 4)).length : Int) := by simp [sealL, le4]; omega
  have q3 : (sealL (l.drop 4)).take 4 = le4 (moreL 0 (l.drop 4)) := by simp [sealL, le4]
  cases t
  all_goals
    go_enter Tryd.func29, Tryd.ntmps29
    go_wp2_with fail
    go_region_with (go_at_call 25; refine (crc_Seal (l.drop 4) (by simp; omega) _).mono ?_; rintro e w1 ⟨rfl, hb1⟩)
    all_goals
      go_wp2_with fail
      go_ret2
      exact ⟨rfl, (Below.refl _ w).drew.trans hb1⟩
/-- the bytes behind a seal, if it is right -/
def openL (l : List UInt8) : Option (List UInt8) := if 4 ≤ l.length ∧ (le4 (moreL 0 (l.drop 4)) == l.take 4) = true then some (l.drop 4) else none

theorem crc_Open_ok (l d : List UInt8) (hl : l.length ≤ 140737488351232) (h : openL l = some d) (w : World) :
    Calls Tryd.prog 29 #[.string (bs l)] w fun e w' => e = .returned (.tuple #[.string (bs d), .bool true]) ∧ Below w.heap.size w w' := by
  unfold openL at h
  split at h
  · next hc => cases h; exact crc_Open_long true l hc.1 hl hc.2 w
  · cases h
theorem crc_Open_no (l : List UInt8) (hl : l.length ≤ 140737488351232) (h : openL l = none) (w : World) :
    Calls Tryd.prog 29 #[.string (bs l)] w fun e w' => e = .returned (.tuple #[.string (bs []), .bool false]) ∧ Below w.heap.size w w' := by
  unfold openL at h
  split at h
  · cases h
  · next hc =>
    by_cases h4 : 4 ≤ l.length
    · exact crc_Open_long false l h4 hl (by cases hq : (le4 (moreL 0 (l.drop 4)) == l.take 4); rfl; exact absurd ⟨h4, hq⟩ hc) w
    · exact crc_Open_short l (by omega) w
end Go.Proofs.YtllaflgcladgoaaDoor
