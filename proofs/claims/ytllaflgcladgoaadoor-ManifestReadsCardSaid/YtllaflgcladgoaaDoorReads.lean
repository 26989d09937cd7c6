/- thwartlaw12.ManifestReads returns true for every manifest and every string: its bytes, and the manifest of any bytes, are the document's. Its listed variables hold what the program's text lays; nothing else is asked. -/
import Derived.Test.YtllaflgcladgoaaDoorBack
import Derived.Test.YtllaflgcladgoaaDoorRefRead
namespace Go.Proofs.YtllaflgcladgoaaDoor
open Go Go.ChangeShapes Go.WideShapes Go.ChangeAt Go.RowKit Go.Thw

/-- three boxes -/
structure ThreeM (w : World) (X Y Z : Nat) (v : Int) (av : Value) (v' : Int) (av' : Value) (av2 : Value) (wr : World) : Prop where
  two : TwoM w X Y v av v' av' wr
  hZ : wr.heap[Z]? = some (.cells #[.int .i64 v', av2] 32 (0, 0))
theorem ThreeM.start {w : World} {X Y : Nat} {v v' : Int} {av av' : Value} {wr : World} (h : TwoM w X Y v av v' av' wr) (av2 : Value) : ThreeM w X Y wr.heap.size v av v' av' av2 (wr.alloc (.cells #[.int .i64 v', av2] 32)) :=
  ⟨h.below ((Below.refl _ wr).alloc (Nat.le_refl _) _), heap_alloc_new wr _⟩
theorem TwoM.one {w : World} {X Y : Nat} {v v' : Int} {av av' : Value} {wr : World} (h : TwoM w X Y v av v' av' wr) : OneM w X v av wr := ⟨h.hX, h.bel⟩

set_option maxRecDepth 20000 in
set_option maxHeartbeats 3200000 in
theorem reads_in (v : Int) (a : Option Addr) (c : Nat) (xs : List SegD) (l : List UInt8) (hn : xs.length ≤ 300) (hl : l.length ≤ 3000) (w : World) (hv : Vars w) (ha : SegsIn w a xs) :
    Calls Tryd.prog 3 #[.agg #[.int .i64 v, .slice a xs.length c], .string (bs l)] w fun e w' => e = .returned (.bool true) ∧ Below w.heap.size w w' := by
  have hrl2 := readL_len l
  have Ha := Lib.hid ha; clear ha
  have Hv := Lib.hid hv; clear hv
  have HB := Lib.hid (fun (W : World) (h : SegsIn W a xs) => man_Bytes_c W v a c xs (by omega) h)
  have HRB := Lib.hid (fun (W : World) (a : Option Addr) (c : Nat) (h : SegsIn W a xs) => ref_Bytes_c W v a c xs (by omega) h)
  have HR2 := Lib.hid (fun W => man_Read_c W l (by omega))
  have HR3 := Lib.hid (fun W => (refR_eq l) ▸ ref_Read_c W l hl)
  have HT := Lib.hid (fun (W : World) (h : SegsIn W a xs) => law_to W v a c xs (by omega) h)
  have HM := Lib.hid (fun (W : World) (h : SegsIn W a xs) => man_Right W v a c xs (by omega) h)
  have HN := Lib.hid (fun (W : World) (a : Option Addr) (c : Nat) (h : SegsIn W a xs) => ref_Right W v a c xs (by omega) h)
  obtain ⟨hr3, hr4⟩ := hrl2
  generalize readL l = Z at *
  obtain ⟨g, v2, xs2⟩ := Z
  unfold RrOut at HR3
  simp only at HR2 HR3 hr3 hr4
  clear hr4
  generalize rightB v xs = rb at *
  generalize bytesO v xs = X at *
  obtain ⟨x, e⟩ := X
  simp only at HB HRB
  have q1' : decide ((300 : Int) < (xs.length : Int)) = false := by simp; omega
  have q2' : decide ((3000 : Int) < (l.length : Int)) = false := by simp; omega
  go_enter Tryd.func3, Tryd.ntmps3
  have h0 := OneM.start w v (.slice a xs.length c)
  go_upto_region 8 with (first
    | (go_at_call 12; refine (HR3.out _).mono ?_; rintro e w6 ⟨⟨a3, c3, rfl, hs6⟩, hb6⟩; have h6 := (h5.two _ _).below hb6)
    | (go_at_call 11; refine (HR2.out _).mono ?_; rintro e w5 ⟨⟨a2, c2, rfl, hs5⟩, hb5⟩; have h5 := h4.below hb5)
    | (go_at_call 9; refine (HRB.out _ _ _ hs3).mono ?_; rintro e w4 ⟨rfl, hb4⟩; have h4 := h3.below hb4)
    | (go_at_call 10; refine (HT.out _ (Ha.out.below h2.bel)).mono ?_; rintro e w3 ⟨⟨ax, cx, rfl, hs3⟩, hb3⟩; have h3 := h2.below hb3)
    | (go_at_call 8; refine (HB.out _ (Ha.out.below h1.bel)).mono ?_; rintro e w2 ⟨rfl, hb2⟩; have h2 := h1.below hb2; have d0 := h2.c0; have d1 := h2.c1)
    | (go_at_call 7; refine (aw _ (Hv.out.below h0.bel)).mono ?_; rintro e w1 ⟨rfl, hb1⟩; have h1 := h0.below hb1; have c0 := h1.c0; have c1 := h1.c1))
  have ht := ThreeM.start h6 (.slice a3 xs2.length c3)
  have hs5' := (hs5.below (((Below.refl w5.heap.size w5).alloc (Nat.le_refl _) (.cells #[.int .i64 v2, .slice a2 xs2.length c2] 24)).trans (hb6.mono (by simp)))).below ((Below.refl w6.heap.size w6).alloc (Nat.le_refl _) (.cells #[.int .i64 v2, .slice a3 xs2.length c3] 32))
  have hs6' := hs6.below ((Below.refl w6.heap.size w6).alloc (Nat.le_refl _) (.cells #[.int .i64 v2, .slice a3 xs2.length c3] 32))
  clear h0 hb1 h1 c0 c1 hb2 h2 d0 d1 hb3 hs3 h3 hb4 h4 hb5 hs5 h5 hb6 hs6 h6
  generalize w5.heap.size = M at *
  generalize w6.heap.size = N at *
  generalize w6.alloc (.cells #[.int .i64 v2, .slice a3 xs2.length c3] 32) = wr at *
  go_cut [14] (fun s wx => s = .bool true ∧ OneM w w.heap.size v (.slice a xs.length c) wx)
  case first =>
    have Hs5 := Lib.hid hs5'; clear hs5'
    have Hs6 := Lib.hid hs6'; clear hs6'
    have hone := Lib.hid ht.two.one
    have n0 := ht.two.d0
    have n1 := ht.two.d1
    have z0 : wr.cell? ⟨N, 0, none⟩ = some (.int .i64 v2) := cell_of_row wr _ 0 _ _ _ ht.hZ
    have z1 : wr.cell? ⟨N, 1, none⟩ = some (.slice a3 xs2.length c3) := cell_of_row wr _ 1 _ _ _ ht.hZ
    clear ht
    have T2 := Lib.hid (fun (W : World) (h : SegsIn W a2 xs2) => law_to W v2 a2 c2 xs2 (by omega) h)
    have test : (fun w' : World => (w'.cell? ⟨M, 0, none⟩ = some (.int .i64 v2) ∧ w'.cell? ⟨M, 1, none⟩ = some (.slice a2 xs2.length c2) ∧ w'.cell? ⟨N, 0, none⟩ = some (.int .i64 v2) ∧ w'.cell? ⟨N, 1, none⟩ = some (.slice a3 xs2.length c3)) ∧ Below wr.heap.size wr w') wr.drew := ⟨⟨n0, n1, z0, z1⟩, (Below.refl _ _).drew⟩
    go_region_held3 (fun w' => (w'.cell? ⟨M, 0, none⟩ = some (.int .i64 v2) ∧ w'.cell? ⟨M, 1, none⟩ = some (.slice a2 xs2.length c2) ∧ w'.cell? ⟨N, 0, none⟩ = some (.int .i64 v2) ∧ w'.cell? ⟨N, 1, none⟩ = some (.slice a3 xs2.length c3)) ∧ Below wr.heap.size wr w')
      (first
        | go_keep
        | (exact test)
        | (go_split_ands
           have hsz5 : wr.heap.size ≤ _ := Below.size (by assumption)
           refine ⟨⟨?_, ?_, ?_, ?_⟩, (by assumption : Below wr.heap.size wr _).trans (hb5.mono hsz5)⟩ <;> exact keep_cell hb5 (by assumption)))
      (first
        | (go_at_call 13; refine (ref_Same _ v2 v2 _ _ _ _ xs2 xs2 (by omega) (by omega) hsx ?_).mono ?_; (go_split_ands; exact Hs6.out.below (by assumption)); rintro e w7 ⟨⟨t, rfl, hteq⟩, hb5⟩; obtain rfl := hteq rfl rfl)
        | (go_at_call 10; refine (T2.out _ ?_).mono ?_; (go_split_ands; exact Hs5.out.below (by assumption)); rintro e w6 ⟨⟨ax, cx, rfl, hsx⟩, hb5⟩))
    all_goals
      go_split_ands
      have hfin := hone.out.below (by assumption : Below wr.heap.size wr _)
      go_wp2_with fail
      go_meet
      exact ⟨rfl, hfin⟩
  case rest =>
    obtain ⟨rfl, hone⟩ := hcut
    clear ht hs5' hs6' HB HRB HR2 HR3
    go_wp2_with fail
    have hs0 := Lib.hid (Ha.out.below hone.bel)
    have hbel := Lib.hid hone.bel
    have m0 := hone.c0
    have m1 := hone.c1
    clear hone
    have test : (fun w' : World => (w'.cell? ⟨w.heap.size, 0, none⟩ = some (.int .i64 v) ∧ w'.cell? ⟨w.heap.size, 1, none⟩ = some (.slice a xs.length c)) ∧ Below wc.heap.size wc w') wc.drew := ⟨⟨m0, m1⟩, (Below.refl _ _).drew⟩
    go_region_held3 (fun w' => (w'.cell? ⟨w.heap.size, 0, none⟩ = some (.int .i64 v) ∧ w'.cell? ⟨w.heap.size, 1, none⟩ = some (.slice a xs.length c)) ∧ Below wc.heap.size wc w')
      (first
        | go_keep
        | (exact test)
        | (go_split_ands
           have hsz5 : wc.heap.size ≤ _ := Below.size (by assumption)
           refine ⟨⟨?_, ?_⟩, (by assumption : Below wc.heap.size wc _).trans (hb5.mono hsz5)⟩ <;> exact keep_cell hb5 (by assumption)))
      (first
        | (go_at_call 15; refine (HN.out _ _ _ ?_).mono ?_; (first | exact hsx | exact hsx.below hb6); rintro e w7 ⟨rfl, hb5⟩; have hb6 := hb5)
        | (go_at_call 14; refine (HM.out _ ?_).mono ?_; (go_split_ands; exact hs0.out.below (by assumption)); rintro e w7 ⟨rfl, hb5⟩; have hb6 := hb5)
        | (go_at_call 10; refine (HT.out _ ?_).mono ?_; (go_split_ands; exact hs0.out.below (by assumption)); rintro e w6 ⟨⟨ax, cx, rfl, hsx⟩, hb5⟩; have hb6 := hb5))
    all_goals
      go_split_ands
      have hfin : Below w.heap.size w _ := hbel.out.trans ((by assumption : Below wc.heap.size wc _).mono hbel.out.size)
      go_wp2_with fail
      go_ret
      exact ⟨rfl, hfin⟩

set_option maxRecDepth 20000 in
set_option maxHeartbeats 800000 in
theorem reads_out (v : Int) (a : Option Addr) (c : Nat) (xs : List SegD) (l : List UInt8) (h : ¬ (xs.length ≤ 300 ∧ l.length ≤ 3000)) (w : World) (hv : Vars w) :
    Calls Tryd.prog 3 #[.agg #[.int .i64 v, .slice a xs.length c], .string (bs l)] w fun e w' => e = .returned (.bool true) ∧ Below w.heap.size w w' := by
  have Hv := Lib.hid hv; clear hv
  have hcase : decide ((300 : Int) < (xs.length : Int)) = true ∨ (decide ((300 : Int) < (xs.length : Int)) = false ∧ decide ((3000 : Int) < (l.length : Int)) = true) := by
    simp only [decide_eq_true_eq, decide_eq_false_iff_not]; omega
  clear h
  rcases hcase with q1 | ⟨q1, q2⟩
  all_goals
    go_enter Tryd.func3, Tryd.ntmps3
    have h0 := OneM.start w v (.slice a xs.length c)
    go_wp2_with (go_at_call 7; refine (aw _ (Hv.out.below h0.bel)).mono ?_; rintro e w1 ⟨rfl, hb1⟩; have h1 := h0.below hb1; have c0 := h1.c0; have c1 := h1.c1)
    go_ret
    exact ⟨rfl, h1.bel⟩

theorem reads_walk (v : Int) (a : Option Addr) (c : Nat) (xs : List SegD) (l : List UInt8) (w : World) (hv : Vars w) (ha : SegsIn w a xs) :
    Calls Tryd.prog 3 #[.agg #[.int .i64 v, .slice a xs.length c], .string (bs l)] w fun e w' => e = .returned (.bool true) ∧ Below w.heap.size w w' := by
  by_cases h : xs.length ≤ 300 ∧ l.length ≤ 3000
  · exact reads_in v a c xs l h.1 h.2 w hv ha
  · exact reads_out v a c xs l h w hv

set_option maxRecDepth 100000 in
theorem reads_lifted (os : Os) (started : os.Started) (H : Type) (enc : TypeId × Value → H) :
    ReturnsInHanded {} Tryd.checked os 3 .any (fun w args => (Rows.manifestReadsSpec.pre enc Tryd.prog Tryd.f3 [] false w args ∧ laidMetH Tryd.prog Rows.manifestReadsRow.laid w) ∧ sizedMet enc Tryd.prog Tryd.f3 (OpenSpec.ofChange Rows.manifestReadsSpec) false w args)
      (Rows.manifestReadsSpec.post enc Tryd.prog Tryd.f3 false true false false) := by
  refine returnsInHanded_of_change_and (C := Tryd.checked) (X := fun w _ => laidMetH Tryd.prog Rows.manifestReadsRow.laid w) (fun _ _ _ hh h => h.of_heap hh) own started (by kernel_rfl) Tryd.func3
    (ChangeSpec.witness_shaped (enc := enc) (C := Tryd.checked) (os := os) (X := fun w _ => laidMetH Tryd.prog Rows.manifestReadsRow.laid w) false (World.doorLaid Tryd.prog 4000 os) #[.agg #[.int .i64 0, .slice none 0 0], .string ⟨#[]⟩] 8 rfl (World.shaped_of_RefB (by kernel_rfl) (by kernel_rfl)) (by kernel_rfl) (by kernel_rfl) (by kernel_rfl) (door_met os _)) ?_
  intro W base args ds gs before hval0 hW _ _ hL _
  have hval : ∀ (j : Nat) t v, Tryd.f3.params[j]? = some t → args[j]? = some v → Value.okWide Tryd.prog W .any base t v := hval0
  have hW' := hW
  obtain ⟨p, q, hA0, hV, rfl, hfz, hnd⟩ := hW
  have hA : DataW.TrodAll enc Tryd.prog W 0 (fun _ => true) true Tryd.f3.params.toList args.toList ds p := hA0
  rw [Tryd.params3] at hA hval
  obtain ⟨v0, vs0, d0, ds0, p0, q0, hargs, rfl, rfl, h0, r0⟩ := trodAll_cons hA
  obtain ⟨v1, vs1, d1, ds1, p1, q1, rfl, rfl, rfl, h1, r1⟩ := trodAll_cons r0
  obtain ⟨rfl, rfl, rfl⟩ := trodAll_nil r1
  obtain rfl : args = #[v0, v1] := by cases args; simp_all
  obtain ⟨rfl, rfl⟩ := trodVars_none hV
  have h0k := h0
  have hlt0 : ∀ x ∈ p0, x.block < W.heap.size := fun x hx => hW'.lt x (by simp [hx])
  obtain ⟨a0, sl0, c0, xs0, rfl, hs0⟩ := open_man (hval 0 24 v0 rfl rfl) h0
  obtain ⟨a1, rfl, rfl, rfl, w1⟩ := Go.ChangeMaps.open_string Tryd.underlying9 (hval 1 9 v1 rfl rfl) h1
  clear hA0 hval0
  simp only [List.append_nil] at hW'
  have hw := reads_walk a0 sl0 c0 xs0 a1.data.toList W (vars_of_laid hL) hs0
  rw [← bs_of a1] at hw
  refine hw.mono fun e W' ⟨he, hb⟩ => ?_
  subst he
  exact ⟨_, rfl, post_args (pv := []) hW' (fun _ _ _ => trodAll_cons_mk (shut_bool Tryd.underlying4 _) trodAll_mk0) (trodAll_cons_mk (Below.trod (by kernel_rfl) (by kernel_rfl) (of_decide_eq_true (by kernel_rfl)) h0k hb hlt0) (trodAll_cons_mk (Go.ChangeMaps.shut_string Tryd.underlying9 w1) trodAll_mk0)) rfl (by simp)
    (hb.frame _)⟩

theorem reads_holds : Rows.ManifestReadsSaid :=
  OpenClaim.holds_of_wide 3 Tryd.f3 rfl rfl rfl rfl rfl rfl rfl ⟨rfl, rfl, rfl, rfl, rfl⟩ rfl rfl rfl rfl rfl (by kernel_rfl) Tryd.func3 (by kernel_rfl)
    (of_decide_eq_true (by kernel_rfl)) (by unfold Func.isWrapper; first | (rw [if_pos (by decide +kernel)]; kernel_rfl) | (rw [if_neg (by decide +kernel)]; exact ⟨rfl, rfl⟩))
    (fun os started H enc _ => reads_lifted os started H enc)

theorem reads_plain (f : FuncId) (fn : Func) (hf : Tryd.pinned.checked.prog.funcNamed "thwart/thwartlaw12.ManifestReads" = some f) (hfn : Tryd.pinned.checked.prog.funcs[f]? = some fn) :
    true = Tryd.pinned.checked.prog.looks [] ∧ ∀ (j : Nat) t, fn.params[j]? = some t → Tryd.pinned.checked.prog.wantsStandIn t = false := by
  obtain rfl : f = 3 := Option.some.inj ((show Tryd.prog.funcNamed "thwart/thwartlaw12.ManifestReads" = some 3 by kernel_rfl).symm.trans hf) |>.symm
  obtain rfl : fn = Tryd.f3 := (Option.some.inj (Tryd.func3.symm.trans hfn)).symm
  refine ⟨by kernel_rfl, fun j t ht => ?_⟩
  rw [Tryd.params3] at ht
  have hm : t ∈ [24, 9] := by simpa using Array.mem_of_getElem? ht
  have hall : ([24, 9].all fun u => !Tryd.prog.wantsStandIn u) = true := by kernel_rfl
  exact (show Tryd.prog.wantsStandIn t = false by simpa using List.all_eq_true.1 hall t hm)

theorem reads_card : Rows.ManifestReadsCardSaid :=
  Claim7.holds_tied_plain_at .later [] _ _ _ _ reads_holds (fun _ h => by cases h) (by kernel_rfl) (fun _ h => by cases h) manifestReads_row_tie rfl ⟨rfl, rfl⟩ (by kernel_rfl) rfl reads_plain (by kernel_rfl)
#print axioms reads_card
end Go.Proofs.YtllaflgcladgoaaDoor
