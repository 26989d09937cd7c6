/- manifest.Right, thwartref12.Right -/
import Derived.Test.YtllaflgcladgoaaDoorProg
import Derived.Test.YtllaflgcladgoaaDoorBase
import Derived.Deep.QuietTactic
import Derived.BigQuiet
namespace Go.Proofs.YtllaflgcladgoaaDoor
open Go Go.RowKit Go.Thw

def RightRel (w : World) (B : Obj) (xs : List SegD) (lv iv : Value) (wr : World) : Prop :=
  ∃ (k : Nat) (last : Int), k ≤ xs.length ∧ iv = .int .i64 k ∧ lv = .int .i64 last ∧ Boxed0 w B wr ∧ risingFrom (-1) xs = risingFrom last (xs.drop k) ∧ (-9223372036854775808 ≤ last ∧ last ≤ 9223372036854775807)

set_option maxRecDepth 20000 in
set_option maxHeartbeats 800000 in
theorem man_Right (w : World) (v : Int) (a : Option Addr) (c : Nat) (xs : List SegD) (hn : xs.length ≤ 140737488351232) (ha : SegsIn w a xs) :
    Calls Tryd.prog 14 #[.agg #[.int .i64 v, .slice a xs.length c]] w fun e w' => e = .returned (.bool (rightB v xs)) ∧ Below w.heap.size w w' := by
  go_enter Tryd.func14, Tryd.ntmps14
  go_wp2_with fail
  go_loopw [3, 9] (RightRel w (.cells #[.int .i64 v, .slice a xs.length c] 24) xs) (fun _ i _ => xs.length - (intOf i).toNat)
  case atStart => exact ⟨0, -1, by omega, rfl, rfl, Boxed0.start _ _, rfl, by omega, by omega⟩
  case round =>
    obtain ⟨k, last, hk, rfl, rfl, hb, hr, hlast⟩ := hrel
    have Hr := Lib.hid hr; clear hr
    by_cases h : k < xs.length
    · obtain ⟨b, o, rfl, hlt, e1, e2, e3⟩ := (ha.below hb.old).at_ k h
      have hri := rising_drop (last := last) h
      have hfit := ha.fits _ (List.getElem_mem h)
      generalize xs[k] = s at *
      obtain ⟨f1, f2, f3⟩ := hfit
      have hri2 : risingFrom (-1) xs = _ := Hr.out.trans hri
      have Hri := Lib.hid hri2; clear hri hri2
      by_cases c1 : s.N ≤ last
      · have hfin : rightB v xs = false := by simp [rightB, Hri.out, show ¬ last < s.N by omega]
        have Hfin := Lib.hid hfin; clear hfin
        go_wp2_with fail
        go_ret
        exact ⟨by rw [Hfin.out]; rfl, (hb.alloc _).old⟩
      · by_cases c2 : 999999 < s.N
        · have hfin : rightB v xs = false := by simp [rightB, Hri.out, segOk, show ¬ s.N ≤ 999999 by omega]
          have Hfin := Lib.hid hfin; clear hfin
          go_wp2_with fail
          go_ret
          exact ⟨by rw [Hfin.out]; rfl, (hb.alloc _).old⟩
        · by_cases c3 : s.Size < 0
          · have hfin : rightB v xs = false := by simp [rightB, Hri.out, segOk, show ¬ 0 ≤ s.Size by omega]
            have Hfin := Lib.hid hfin; clear hfin
            go_wp2_with fail
            go_ret
            exact ⟨by rw [Hfin.out]; rfl, (hb.alloc _).old⟩
          · by_cases c4 : 1048576 < s.Size
            · have hfin : rightB v xs = false := by simp [rightB, Hri.out, segOk, show ¬ s.Size ≤ 1048576 by omega]
              have Hfin := Lib.hid hfin; clear hfin
              go_wp2_with fail
              go_ret
              exact ⟨by rw [Hfin.out]; rfl, (hb.alloc _).old⟩
            · go_wp2_with fail
              go_roundw
              case rel => exact ⟨k + 1, s.N, by omega, by go_num, rfl, hb.alloc _, by rw [Hri.out]; simp [segOk, show last < s.N by omega, show s.N ≤ 999999 by omega, show 0 ≤ s.Size by omega, show s.Size ≤ 1048576 by omega], by omega, by omega⟩
              case measure => simp [intOf]; omega
    · obtain rfl : k = xs.length := by omega
      have hr2 : risingFrom (-1) xs = true := by rw [Hr.out, List.drop_length]; rfl
      have e1 : wr.cell? ⟨w.heap.size, 0, none⟩ = some (.int .i64 v) := hb.cell 0
      have e2 : wr.cell? ⟨w.heap.size, 1, none⟩ = some (.slice a xs.length c) := hb.cell 1
      have hfin : rightB v xs = (decide (1 ≤ v) && decide (v ≤ 999999) && decide (xs.length ≤ 200)) := by simp [rightB, hr2]
      clear hr2
      by_cases c1 : 1 ≤ v
      · by_cases c2 : v ≤ 999999
        · by_cases c3 : xs.length ≤ 200
          · have hfin2 : rightB v xs = true := by rw [hfin]; simp [c1, c2, c3]
            have Hfin := Lib.hid hfin2; clear hfin hfin2
            go_wp2_with fail
            go_ret
            exact ⟨by rw [Hfin.out]; simp; omega, hb.old⟩
          · have hfin2 : rightB v xs = false := by rw [hfin]; simp [c3]
            have Hfin := Lib.hid hfin2; clear hfin hfin2
            go_wp2_with fail
            go_ret
            exact ⟨by rw [Hfin.out]; simp; omega, hb.old⟩
        · have hfin2 : rightB v xs = false := by rw [hfin]; simp [c2]
          have Hfin := Lib.hid hfin2; clear hfin hfin2
          go_wp2_with fail
          go_ret
          exact ⟨by rw [Hfin.out]; rfl, hb.old⟩
      · have hfin2 : rightB v xs = false := by rw [hfin]; simp [c1]
        have Hfin := Lib.hid hfin2; clear hfin hfin2
        go_wp2_with fail
        go_ret
        exact ⟨by rw [Hfin.out]; rfl, hb.old⟩

def RRightRel (w : World) (B : Obj) (xs : List SegD) (iv : Value) (wr : World) : Prop :=
  ∃ (k : Nat) (last : Int), k ≤ xs.length ∧ iv = .int .i64 k ∧ Boxed0 w B wr ∧ risingFrom (-1) xs = risingFrom last (xs.drop k) ∧ -1 ≤ last ∧ (k = 0 → last = -1) ∧ (∀ h : k - 1 < xs.length, 0 < k → last = xs[k - 1].N)

set_option maxRecDepth 20000 in
set_option maxHeartbeats 1600000 in
theorem ref_Right (w : World) (v : Int) (a : Option Addr) (c : Nat) (xs : List SegD) (hn : xs.length ≤ 140737488351232) (ha : SegsIn w a xs) :
    Calls Tryd.prog 15 #[.agg #[.int .i64 v, .slice a xs.length c]] w fun e w' => e = .returned (.bool (rightB v xs)) ∧ Below w.heap.size w w' := by
  go_enter Tryd.func15, Tryd.ntmps15
  go_wp2_with fail
  go_loopw [3] (RRightRel w (.cells #[.int .i64 v, .slice a xs.length c] 32) xs) (fun i _ => xs.length - (intOf i).toNat)
  case atStart => exact ⟨0, -1, by omega, rfl, Boxed0.start _ _, rfl, by omega, by omega, by omega⟩
  case round =>
    obtain ⟨k, last, hk, rfl, hb, hr, hm1, hl0, hlk⟩ := hrel
    have Hr := Lib.hid hr; clear hr
    have q1 : wr.cell? ⟨w.heap.size, 0, none⟩ = some (.int .i64 v) := hb.cell 0
    have q2 : wr.cell? ⟨w.heap.size, 1, none⟩ = some (.slice a xs.length c) := hb.cell 1
    have hbs := hb.size
    by_cases h : k < xs.length
    · have hall := (ha.below hb.old).at_
      have hri := rising_drop (last := last) h
      have hfit := ha.fits _ (List.getElem_mem h)
      obtain ⟨b, o, rfl, hlt, e1, e2, e3⟩ := hall k h
      have hprev : 0 < k → ∃ (h' : k - 1 < xs.length), wr.cell? ⟨b, o + (k - 1) * 3, none⟩ = some (.int .i64 xs[k - 1].N) := fun hk0 => by
        obtain ⟨b', o', hbo, _, e1', _⟩ := hall (k - 1) (by omega)
        simp only [Option.some.injEq, Addr.mk.injEq, and_true] at hbo
        obtain ⟨rfl, rfl⟩ := hbo
        exact ⟨by omega, e1'⟩
      clear hall
      generalize hsk : xs[k] = s at *
      have Hsk := Lib.hid hsk; clear hsk
      obtain ⟨f1, f2, f3⟩ := hfit
      have hri2 : risingFrom (-1) xs = _ := Hr.out.trans hri
      have Hri := Lib.hid hri2; clear hri hri2
      by_cases c1 : s.N < 0
      · have hfin : rightB v xs = false := by simp [rightB, Hri.out, show ¬ last < s.N by omega]
        have Hfin := Lib.hid hfin; clear hfin
        go_wp2_with fail
        go_quiet (fail)
        go_wp2_with fail
        go_ret
        exact ⟨by rw [Hfin.out]; rfl, ((hb.alloc _).drewN _).old⟩
      · have d1 : decide (s.N < 0) = false := by simpa using c1
        by_cases c2 : 999999 < s.N
        · have d2 : decide (999999 < s.N) = true := by simpa using c2
          have hfin : rightB v xs = false := by simp [rightB, Hri.out, segOk, show ¬ s.N ≤ 999999 by omega]
          have Hfin := Lib.hid hfin; clear hfin
          go_wp2_with fail
          go_quiet (fail)
          go_wp2_with fail
          go_ret
          exact ⟨by rw [Hfin.out]; rfl, ((hb.alloc _).drewN _).old⟩
        · have d2 : decide (999999 < s.N) = false := by simpa using c2
          by_cases c3 : s.Size < 0
          · have d3 : decide (s.Size < 0) = true := by simpa using c3
            have hfin : rightB v xs = false := by simp [rightB, Hri.out, segOk, show ¬ 0 ≤ s.Size by omega]
            have Hfin := Lib.hid hfin; clear hfin
            go_wp2_with fail
            go_quiet (fail)
            go_wp2_with fail
            go_ret
            exact ⟨by rw [Hfin.out]; rfl, ((hb.alloc _).drewN _).old⟩
          · have d3 : decide (s.Size < 0) = false := by simpa using c3
            by_cases c4 : 1048576 < s.Size
            · have d4 : decide (1048576 < s.Size) = true := by simpa using c4
              have hfin : rightB v xs = false := by simp [rightB, Hri.out, segOk, show ¬ s.Size ≤ 1048576 by omega]
              have Hfin := Lib.hid hfin; clear hfin
              go_wp2_with fail
              go_quiet (fail)
              go_wp2_with fail
              go_ret
              exact ⟨by rw [Hfin.out]; rfl, ((hb.alloc _).drewN _).old⟩
            · have d4 : decide (1048576 < s.Size) = false := by simpa using c4
              have hok : segOk s = true := by simp [segOk]; omega
              by_cases c5 : 0 < k
              · have d5 : decide ((0 : Int) < (k : Int)) = true := by simp; omega
                obtain ⟨h', p1⟩ := hprev c5
                have hlast := hlk h' c5
                have q3 : (k : Int) - 1 = ((k - 1 : Nat) : Int) := by omega
                have q4 : IntKind.i64.wrap (((k - 1 : Nat) : Int)) = ((k - 1 : Nat) : Int) := IntWalk.i64_in _ (by omega)
                have q5 : ((k - 1 : Nat) : Int) < (xs.length : Int) := by omega
                rw [← hlast] at p1
                clear hl0 hlk hlast
                by_cases c6 : s.N ≤ last
                · have d6 : decide (s.N ≤ last) = true := by simpa using c6
                  have hfin : rightB v xs = false := by simp [rightB, Hri.out, show ¬ last < s.N by omega]
                  have Hfin := Lib.hid hfin; clear hfin
                  go_wp2_with fail
                  go_quiet (fail)
                  go_wp2_with fail
                  go_ret
                  exact ⟨by rw [Hfin.out]; rfl, ((hb.alloc _).drewN _).old⟩
                · have d6 : decide (s.N ≤ last) = false := by simpa using c6
                  go_wp2_with fail
                  go_quiet (fail)
                  go_wp2_with fail
                  go_roundw
                  case rel => exact ⟨k + 1, s.N, by omega, by go_num, (hb.alloc _).drewN _, by rw [Hri.out, hok]; simp [show last < s.N by omega], by omega, fun h0 => absurd h0 (by omega), fun _ _ => congrArg SegD.N Hsk.out.symm⟩
                  case measure => simp [intOf]; omega
              · have d5 : decide ((0 : Int) < (k : Int)) = false := by simp; omega
                have hl1 := hl0 (by omega)
                clear hl0 hlk hprev
                go_wp2_with fail
                go_quiet (fail)
                go_wp2_with fail
                go_roundw
                case rel => exact ⟨k + 1, s.N, by omega, by go_num, (hb.alloc _).drewN _, by rw [Hri.out, hok]; simp [show last < s.N by omega], by omega, fun h0 => absurd h0 (by omega), fun _ _ => congrArg SegD.N Hsk.out.symm⟩
                case measure => simp [intOf]; omega
    · obtain rfl : k = xs.length := by omega
      have hr2 : risingFrom (-1) xs = true := by rw [Hr.out, List.drop_length]; rfl
      have hfin : rightB v xs = (decide (1 ≤ v) && decide (v ≤ 999999) && decide (xs.length ≤ 200)) := by simp [rightB, hr2]
      clear hr2
      by_cases c1 : 1 ≤ v
      · by_cases c2 : v ≤ 999999
        · by_cases c3 : xs.length ≤ 200
          · have hfin2 : rightB v xs = true := by rw [hfin]; simp [c1, c2, c3]
            have Hfin := Lib.hid hfin2; clear hfin hfin2
            go_wp2_with fail
            go_ret
            exact ⟨by rw [Hfin.out]; simp; omega, hb.old⟩
          · have hfin2 : rightB v xs = false := by rw [hfin]; simp [c3]
            have Hfin := Lib.hid hfin2; clear hfin hfin2
            go_wp2_with fail
            go_ret
            exact ⟨by rw [Hfin.out]; simp; omega, hb.old⟩
        · have hfin2 : rightB v xs = false := by rw [hfin]; simp [c2]
          have Hfin := Lib.hid hfin2; clear hfin hfin2
          go_wp2_with fail
          go_ret
          exact ⟨by rw [Hfin.out]; rfl, hb.old⟩
      · have hfin2 : rightB v xs = false := by rw [hfin]; simp [c1]
        have Hfin := Lib.hid hfin2; clear hfin hfin2
        go_wp2_with fail
        go_ret
        exact ⟨by rw [Hfin.out]; rfl, hb.old⟩
end Go.Proofs.YtllaflgcladgoaaDoor
