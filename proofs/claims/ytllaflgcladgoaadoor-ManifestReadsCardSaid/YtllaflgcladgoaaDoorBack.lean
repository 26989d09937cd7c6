/- thwartlaw12.ManifestBack returns true for every manifest and every string: manifests are read as they were; what is read has just these bytes. Its listed variables hold what the program's text lays; nothing else is asked. -/
import Derived.Test.YtllaflgcladgoaaDoorNames2
import Derived.Test.YtllaflgcladgoaaDoorOuts
import Derived.Test.YtllaflgcladgoaaDoorArgMan
import Derived.Test.YtllaflgcladgoaaDoorTo
import Derived.Test.YtllaflgcladgoaaDoorSame
import Derived.Deep.DeepCutAuto
import Derived.Deep.RegionHeld3
namespace Go.Proofs.YtllaflgcladgoaaDoor
open Go Go.ChangeShapes Go.WideShapes Go.ChangeAt Go.RowKit Go.Thw

/-- two boxes of manifests -/
structure TwoM (w : World) (X Y : Nat) (v : Int) (av : Value) (v' : Int) (av' : Value) (wr : World) : Prop where
  hX : wr.heap[X]? = some (.cells #[.int .i64 v, av] 24 (0, 0))
  hY : wr.heap[Y]? = some (.cells #[.int .i64 v', av'] 24 (0, 0))
  bel : Below w.heap.size w wr
/-- one box -/
structure OneM (w : World) (X : Nat) (v : Int) (av : Value) (wr : World) : Prop where
  hX : wr.heap[X]? = some (.cells #[.int .i64 v, av] 24 (0, 0))
  bel : Below w.heap.size w wr
section
variable {w : World} {X Y : Nat} {v v' : Int} {av av' : Value} {wr w1 : World}
theorem OneM.start (w : World) (v : Int) (av : Value) : OneM w w.heap.size v av (w.alloc (.cells #[.int .i64 v, av] 24)) := ⟨heap_alloc_new w _, (Below.refl _ w).alloc (Nat.le_refl _) _⟩
theorem OneM.below (h : OneM w X v av wr) (hb : Below wr.heap.size wr w1) : OneM w X v av w1 := ⟨(hb.block _ (lt_of_block h.hX)).trans h.hX, h.bel.trans (hb.mono h.bel.size)⟩
theorem OneM.c0 (h : OneM w X v av wr) : wr.cell? ⟨X, 0, none⟩ = some (.int .i64 v) := cell_of_row wr _ 0 _ _ _ h.hX
theorem OneM.c1 (h : OneM w X v av wr) : wr.cell? ⟨X, 1, none⟩ = some av := cell_of_row wr _ 1 _ _ _ h.hX
theorem OneM.two (h : OneM w X v av wr) (v' : Int) (av' : Value) : TwoM w X wr.heap.size v av v' av' (wr.alloc (.cells #[.int .i64 v', av'] 24)) :=
  ⟨by rw [Below.heap_alloc _ _ _ (lt_of_block h.hX)]; exact h.hX, heap_alloc_new wr _, h.bel.alloc h.bel.size _⟩
theorem TwoM.below (h : TwoM w X Y v av v' av' wr) (hb : Below wr.heap.size wr w1) : TwoM w X Y v av v' av' w1 :=
  ⟨(hb.block _ (lt_of_block h.hX)).trans h.hX, (hb.block _ (lt_of_block h.hY)).trans h.hY, h.bel.trans (hb.mono h.bel.size)⟩
theorem TwoM.c0 (h : TwoM w X Y v av v' av' wr) : wr.cell? ⟨X, 0, none⟩ = some (.int .i64 v) := cell_of_row wr _ 0 _ _ _ h.hX
theorem TwoM.c1 (h : TwoM w X Y v av v' av' wr) : wr.cell? ⟨X, 1, none⟩ = some av := cell_of_row wr _ 1 _ _ _ h.hX
theorem TwoM.d0 (h : TwoM w X Y v av v' av' wr) : wr.cell? ⟨Y, 0, none⟩ = some (.int .i64 v') := cell_of_row wr _ 0 _ _ _ h.hY
theorem TwoM.d1 (h : TwoM w X Y v av v' av' wr) : wr.cell? ⟨Y, 1, none⟩ = some av' := cell_of_row wr _ 1 _ _ _ h.hY
end

set_option maxRecDepth 20000 in
set_option maxHeartbeats 3200000 in
theorem back_in (v : Int) (a : Option Addr) (c : Nat) (xs : List SegD) (l : List UInt8) (hn : xs.length ≤ 300) (hl : l.length ≤ 3000) (w : World) (hv : Vars w) (ha : SegsIn w a xs) :
    Calls Tryd.prog 5 #[.agg #[.int .i64 v, .slice a xs.length c], .string (bs l)] w fun e w' => e = .returned (.bool true) ∧ Below w.heap.size w w' := by
  have hx := bytesO_len v xs ha.fits
  have hrl := readL_len (bytesO v xs).1
  have hrl2 := readL_len l
  -- what the law asks, in plain words
  have hfirst : ((bytesO v xs).2 = 1) ∨ ((bytesO v xs).2 = 0 ∧ readL (bytesO v xs).1 = (0, v, xs)) := by
    unfold bytesO
    by_cases h : rightB v xs = true
    · rw [if_pos h]; exact .inr ⟨rfl, readL_bytes h ha.fits⟩
    · rw [if_neg h]; exact .inl rfl
  have hlast : (readL l).1 = 0 ∧ bytesO (readL l).2.1 (readL l).2.2 = (l, 0) ∨ ((readL l).1 == 0) = false := by
    by_cases h : (readL l).1 = 0
    · obtain ⟨h1, h2, _⟩ := readL_ok h
      exact .inl ⟨h, by rw [bytesO, if_pos h1, h2]⟩
    · exact .inr (by simpa using h)
  have Ha := Lib.hid ha; clear ha
  have Hv := Lib.hid hv; clear hv
  have HB := Lib.hid (fun (W : World) (h : SegsIn W a xs) => man_Bytes_c W v a c xs (by omega) h)
  have HR := Lib.hid (fun W => man_Read_c W (bytesO v xs).1 (by omega))
  have HR2 := Lib.hid (fun W => man_Read_c W l (by omega))
  have HB2 := Lib.hid (fun (W : World) (a : Option Addr) (c : Nat) (h : SegsIn W a (readL l).2.2) => man_Bytes_c W (readL l).2.1 a c (readL l).2.2 (by omega) h)
  obtain ⟨hr1, hr2⟩ := hrl
  obtain ⟨hr3, hr4⟩ := hrl2
  generalize hX : bytesO v xs = X at *
  obtain ⟨x, e⟩ := X
  simp only at hx hfirst HB HR hr1 hr2
  generalize hY : readL x = Y at *
  obtain ⟨f, v1, xs1⟩ := Y
  generalize hZ : readL l = Z at *
  obtain ⟨g, v2, xs2⟩ := Z
  simp only at hfirst HB HR HR2 HB2 hlast hr1 hr2 hr3 hr4
  generalize hU : bytesO v2 xs2 = U at *
  obtain ⟨y, h⟩ := U
  simp only at HB2 hlast
  have Hr2 := Lib.hid hr2
  have Hr4 := Lib.hid hr4
  clear hX hY hZ hU hr2 hr4
  have q1 : ¬ (300 : Int) < (xs.length : Int) := by omega
  have q2 : ¬ (3000 : Int) < (l.length : Int) := by omega
  have q1' : decide ((300 : Int) < (xs.length : Int)) = false := by simpa using q1
  have q2' : decide ((3000 : Int) < (l.length : Int)) = false := by simpa using q2
  clear q1 q2
  go_enter Tryd.func5, Tryd.ntmps5
  have h0 := OneM.start w v (.slice a xs.length c)
  go_upto_region 6 with (first
    | (go_at_call 11; refine (HR.out _).mono ?_; rintro e w3 ⟨⟨a1, c1, rfl, hs3⟩, hb3⟩; have h3 := h2.below hb3)
    | (go_at_call 8; refine (HB.out _ (Ha.out.below h1.bel)).mono ?_; rintro e w2 ⟨rfl, hb2⟩; have h2 := h1.below hb2)
    | (go_at_call 7; refine (aw _ (Hv.out.below h0.bel)).mono ?_; rintro e w1 ⟨rfl, hb1⟩; have h1 := h0.below hb1; have c0 := h1.c0; have c1 := h1.c1))
  have ht := h3.two v1 (.slice a1 xs1.length c1)
  have hs4 := hs3.below ((Below.refl w3.heap.size w3).alloc (Nat.le_refl _) (.cells #[.int .i64 v1, .slice a1 xs1.length c1] 24))
  clear h0 hb1 h1 c0 hb2 h2 hb3 h3 hs3
  generalize w3.heap.size = M at *
  generalize w3.alloc (.cells #[.int .i64 v1, .slice a1 xs1.length c1] 24) = wr at *
  go_cut [10] (fun s wx => (∃ t : Bool, s = .bool t ∧ (v = v1 → xs = xs1 → t = true)) ∧ Below w.heap.size w wx)
  case first =>
    have hs0 := Lib.hid (Ha.out.below ht.bel)
    have Hs4 := Lib.hid hs4; clear hs4
    have hbel := Lib.hid ht.bel
    have m0 := ht.c0
    have m1 := ht.c1
    have n0 := ht.d0
    have n1 := ht.d1
    clear ht
    have T1 := Lib.hid (fun (W : World) (h : SegsIn W a xs) => law_to W v a c xs (by omega) h)
    have T2 := Lib.hid (fun (W : World) (h : SegsIn W a1 xs1) => law_to W v1 a1 c1 xs1 (by omega) h)
    have test : (fun w' : World => (w'.cell? ⟨w.heap.size, 0, none⟩ = some (.int .i64 v) ∧ w'.cell? ⟨w.heap.size, 1, none⟩ = some (.slice a xs.length c) ∧ w'.cell? ⟨M, 0, none⟩ = some (.int .i64 v1) ∧ w'.cell? ⟨M, 1, none⟩ = some (.slice a1 xs1.length c1)) ∧ Below wr.heap.size wr w') wr.drew := ⟨⟨m0, m1, n0, n1⟩, (Below.refl _ _).drew⟩
    go_region_held3 (fun w' => (w'.cell? ⟨w.heap.size, 0, none⟩ = some (.int .i64 v) ∧ w'.cell? ⟨w.heap.size, 1, none⟩ = some (.slice a xs.length c) ∧ w'.cell? ⟨M, 0, none⟩ = some (.int .i64 v1) ∧ w'.cell? ⟨M, 1, none⟩ = some (.slice a1 xs1.length c1)) ∧ Below wr.heap.size wr w')
      (first
        | go_keep
        | (exact test)
        | (go_split_ands
           have hsz5 : wr.heap.size ≤ _ := Below.size (by assumption)
           refine ⟨⟨?_, ?_, ?_, ?_⟩, (by assumption : Below wr.heap.size wr _).trans (hb5.mono hsz5)⟩ <;> exact keep_cell hb5 (by assumption)))
      (first
        | (go_at_call 13; refine (ref_Same _ v v1 _ _ _ _ xs xs1 (by omega) (by omega) ?_ ?_).mono ?_; (first | exact hsx | exact hsx.below hb6); (first | exact hsy | exact hsy.below hb6); rintro e w7 ⟨⟨t, rfl, hteq⟩, hb5⟩)
        | (go_at_call 10; with_reducible refine Calls.mono (T1.out _ ?_) ?_; (go_split_ands; exact hs0.out.below (by assumption)); rintro e w6 ⟨⟨ax, cx, rfl, hsx⟩, hb5⟩; have hb6 := hb5)
        | (go_at_call 10; with_reducible refine Calls.mono (T2.out _ ?_) ?_; (go_split_ands; exact Hs4.out.below (by assumption)); rintro e w6 ⟨⟨ay, cy, rfl, hsy⟩, hb5⟩; have hb6 := hb5))
    all_goals
      go_split_ands
      have hfin : Below w.heap.size w _ := hbel.out.trans ((by assumption : Below wr.heap.size wr _).mono hbel.out.size)
      go_wp2_with fail
      go_meet
      exact ⟨⟨t, rfl, hteq⟩, hfin⟩
  case rest =>
    obtain ⟨⟨t, rfl, hteq⟩, hwc⟩ := hcut
    clear ht hs4 HR HB
    rcases hfirst with rfl | ⟨rfl, hY2⟩
    · rcases hlast with ⟨rfl, hU2⟩ | hg
      · simp only [Prod.mk.injEq] at hU2
        obtain ⟨rfl, rfl⟩ := hU2
        go_wp2_with (first
          | (go_at_call 8; refine (HB2.out _ _ _ (hs5.below ((Below.refl _ _).alloc (Nat.le_refl _) _))).mono ?_; rintro e w6 ⟨rfl, hb6⟩)
          | (go_at_call 11; refine (HR2.out _).mono ?_; rintro e w5 ⟨⟨a2, c2, rfl, hs5⟩, hb5⟩))
        go_ret
        have hw5 := hwc.trans (hb5.mono hwc.size)
        exact ⟨rfl, (hw5.alloc hw5.size _).trans (hb6.mono (by have := hw5.size; simp; omega))⟩
      · have hg2 : (g != 0) = true := by simpa using hg
        go_wp2_with (first
          | (go_at_call 8; refine (HB2.out _ _ _ (hs5.below ((Below.refl _ _).alloc (Nat.le_refl _) _))).mono ?_; rintro e w6 ⟨rfl, hb6⟩)
          | (go_at_call 11; refine (HR2.out _).mono ?_; rintro e w5 ⟨⟨a2, c2, rfl, hs5⟩, hb5⟩))
        go_ret
        have hw5 := hwc.trans (hb5.mono hwc.size)
        exact ⟨rfl, (hw5.alloc hw5.size _).trans (hb6.mono (by have := hw5.size; simp; omega))⟩
    · simp only [Prod.mk.injEq] at hY2
      obtain ⟨rfl, rfl, rfl⟩ := hY2
      obtain rfl := hteq rfl rfl
      rcases hlast with ⟨rfl, hU2⟩ | hg
      · simp only [Prod.mk.injEq] at hU2
        obtain ⟨rfl, rfl⟩ := hU2
        go_wp2_with (first
          | (go_at_call 8; refine (HB2.out _ _ _ (hs5.below ((Below.refl _ _).alloc (Nat.le_refl _) _))).mono ?_; rintro e w6 ⟨rfl, hb6⟩)
          | (go_at_call 11; refine (HR2.out _).mono ?_; rintro e w5 ⟨⟨a2, c2, rfl, hs5⟩, hb5⟩))
        go_ret
        have hw5 := hwc.trans (hb5.mono hwc.size)
        exact ⟨rfl, (hw5.alloc hw5.size _).trans (hb6.mono (by have := hw5.size; simp; omega))⟩
      · have hg2 : (g != 0) = true := by simpa using hg
        go_wp2_with (first
          | (go_at_call 8; refine (HB2.out _ _ _ (hs5.below ((Below.refl _ _).alloc (Nat.le_refl _) _))).mono ?_; rintro e w6 ⟨rfl, hb6⟩)
          | (go_at_call 11; refine (HR2.out _).mono ?_; rintro e w5 ⟨⟨a2, c2, rfl, hs5⟩, hb5⟩))
        go_ret
        have hw5 := hwc.trans (hb5.mono hwc.size)
        exact ⟨rfl, (hw5.alloc hw5.size _).trans (hb6.mono (by have := hw5.size; simp; omega))⟩

set_option maxRecDepth 20000 in
set_option maxHeartbeats 800000 in
theorem back_out (v : Int) (a : Option Addr) (c : Nat) (xs : List SegD) (l : List UInt8) (h : ¬ (xs.length ≤ 300 ∧ l.length ≤ 3000)) (w : World) (hv : Vars w) :
    Calls Tryd.prog 5 #[.agg #[.int .i64 v, .slice a xs.length c], .string (bs l)] w fun e w' => e = .returned (.bool true) ∧ Below w.heap.size w w' := by
  have Hv := Lib.hid hv; clear hv
  have hcase : decide ((300 : Int) < (xs.length : Int)) = true ∨ (decide ((300 : Int) < (xs.length : Int)) = false ∧ decide ((3000 : Int) < (l.length : Int)) = true) := by
    simp only [decide_eq_true_eq, decide_eq_false_iff_not]; omega
  clear h
  rcases hcase with q1 | ⟨q1, q2⟩
  all_goals
    go_enter Tryd.func5, Tryd.ntmps5
    have h0 := OneM.start w v (.slice a xs.length c)
    go_wp2_with (go_at_call 7; refine (aw _ (Hv.out.below h0.bel)).mono ?_; rintro e w1 ⟨rfl, hb1⟩; have h1 := h0.below hb1; have c0 := h1.c0; have c1 := h1.c1)
    go_ret
    exact ⟨rfl, h1.bel⟩

theorem back_walk (v : Int) (a : Option Addr) (c : Nat) (xs : List SegD) (l : List UInt8) (w : World) (hv : Vars w) (ha : SegsIn w a xs) :
    Calls Tryd.prog 5 #[.agg #[.int .i64 v, .slice a xs.length c], .string (bs l)] w fun e w' => e = .returned (.bool true) ∧ Below w.heap.size w w' := by
  by_cases h : xs.length ≤ 300 ∧ l.length ≤ 3000
  · exact back_in v a c xs l h.1 h.2 w hv ha
  · exact back_out v a c xs l h w hv

set_option maxRecDepth 100000 in
theorem back_lifted (os : Os) (started : os.Started) (H : Type) (enc : TypeId × Value → H) :
    ReturnsInHanded {} Tryd.checked os 5 .any (fun w args => (Rows.manifestBackSpec.pre enc Tryd.prog Tryd.f5 [] false w args ∧ laidMetH Tryd.prog Rows.manifestBackRow.laid w) ∧ sizedMet enc Tryd.prog Tryd.f5 (OpenSpec.ofChange Rows.manifestBackSpec) false w args)
      (Rows.manifestBackSpec.post enc Tryd.prog Tryd.f5 false true false false) := by
  refine returnsInHanded_of_change_and (C := Tryd.checked) (X := fun w _ => laidMetH Tryd.prog Rows.manifestBackRow.laid w) (fun _ _ _ hh h => h.of_heap hh) own started (by kernel_rfl) Tryd.func5
    (ChangeSpec.witness_shaped (enc := enc) (C := Tryd.checked) (os := os) (X := fun w _ => laidMetH Tryd.prog Rows.manifestBackRow.laid w) false (World.doorLaid Tryd.prog 4000 os) #[.agg #[.int .i64 0, .slice none 0 0], .string ⟨#[]⟩] 8 rfl (World.shaped_of_RefB (by kernel_rfl) (by kernel_rfl)) (by kernel_rfl) (by kernel_rfl) (by kernel_rfl) (door_met os _)) ?_
  intro W base args ds gs before hval0 hW _ _ hL _
  have hval : ∀ (j : Nat) t v, Tryd.f5.params[j]? = some t → args[j]? = some v → Value.okWide Tryd.prog W .any base t v := hval0
  have hW' := hW
  obtain ⟨p, q, hA0, hV, rfl, hfz, hnd⟩ := hW
  have hA : DataW.TrodAll enc Tryd.prog W 0 (fun _ => true) true Tryd.f5.params.toList args.toList ds p := hA0
  rw [Tryd.params5] at hA hval
  obtain ⟨v0, vs0, d0, ds0, p0, q0, hargs, rfl, rfl, h0, r0⟩ := trodAll_cons hA
  obtain ⟨v1, vs1, d1, ds1, p1, q1, rfl, rfl, rfl, h1, r1⟩ := trodAll_cons r0
  obtain ⟨rfl, rfl, rfl⟩ := trodAll_nil r1
  obtain rfl : args = #[v0, v1] := by cases args; simp_all
  obtain ⟨rfl, rfl⟩ := trodVars_none hV
  have h0k := h0
  have hlt0 : ∀ x ∈ p0, x.block < W.heap.size := fun x hx => hW'.lt x (by simp [hx])
  obtain ⟨a0, sl0, c0, xs0, rfl, hs0⟩ := open_man (hval 0 24 v0 rfl rfl) h0
  obtain ⟨a1, rfl, rfl, rfl, w1⟩ := Go.ChangeMaps.open_string Tryd.underlying9 (hval 1 9 v1 rfl rfl) h1
  clear hA0 hval0
  simp only [List.append_nil] at hW'
  have hw := back_walk a0 sl0 c0 xs0 a1.data.toList W (vars_of_laid hL) hs0
  rw [← bs_of a1] at hw
  refine hw.mono fun e W' ⟨he, hb⟩ => ?_
  subst he
  exact ⟨_, rfl, post_args (pv := []) hW' (fun _ _ _ => trodAll_cons_mk (shut_bool Tryd.underlying4 _) trodAll_mk0) (trodAll_cons_mk (Below.trod (by kernel_rfl) (by kernel_rfl) (of_decide_eq_true (by kernel_rfl)) h0k hb hlt0) (trodAll_cons_mk (Go.ChangeMaps.shut_string Tryd.underlying9 w1) trodAll_mk0)) rfl (by simp)
    (hb.frame _)⟩

theorem back_holds : Rows.ManifestBackSaid :=
  OpenClaim.holds_of_wide 5 Tryd.f5 rfl rfl rfl rfl rfl rfl rfl ⟨rfl, rfl, rfl, rfl, rfl⟩ rfl rfl rfl rfl rfl (by kernel_rfl) Tryd.func5 (by kernel_rfl)
    (of_decide_eq_true (by kernel_rfl)) (by unfold Func.isWrapper; first | (rw [if_pos (by decide +kernel)]; kernel_rfl) | (rw [if_neg (by decide +kernel)]; exact ⟨rfl, rfl⟩))
    (fun os started H enc _ => back_lifted os started H enc)

theorem back_plain (f : FuncId) (fn : Func) (hf : Tryd.pinned.checked.prog.funcNamed "thwart/thwartlaw12.ManifestBack" = some f) (hfn : Tryd.pinned.checked.prog.funcs[f]? = some fn) :
    true = Tryd.pinned.checked.prog.looks [] ∧ ∀ (j : Nat) t, fn.params[j]? = some t → Tryd.pinned.checked.prog.wantsStandIn t = false := by
  obtain rfl : f = 5 := Option.some.inj ((show Tryd.prog.funcNamed "thwart/thwartlaw12.ManifestBack" = some 5 by kernel_rfl).symm.trans hf) |>.symm
  obtain rfl : fn = Tryd.f5 := (Option.some.inj (Tryd.func5.symm.trans hfn)).symm
  refine ⟨by kernel_rfl, fun j t ht => ?_⟩
  rw [Tryd.params5] at ht
  have hm : t ∈ [24, 9] := by simpa using Array.mem_of_getElem? ht
  have hall : ([24, 9].all fun u => !Tryd.prog.wantsStandIn u) = true := by kernel_rfl
  exact (show Tryd.prog.wantsStandIn t = false by simpa using List.all_eq_true.1 hall t hm)

theorem back_card : Rows.ManifestBackCardSaid :=
  Claim7.holds_tied_plain_at .later [] _ _ _ _ back_holds (fun _ h => by cases h) (by kernel_rfl) (fun _ h => by cases h) manifestBack_row_tie rfl ⟨rfl, rfl⟩ (by kernel_rfl) rfl back_plain (by kernel_rfl)
#print axioms back_card
end Go.Proofs.YtllaflgcladgoaaDoor
