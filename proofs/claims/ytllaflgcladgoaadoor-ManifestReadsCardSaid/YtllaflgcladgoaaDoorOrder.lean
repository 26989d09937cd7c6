/- thwartlaw12.ManifestOrder returns true for every two integers: names of versions are ordered as these are. Its listed variables hold what the program's text lays; nothing else is asked. -/
import Derived.Test.YtllaflgcladgoaaDoorLaws
import Derived.Test.YtllaflgcladgoaaDoorAwake
namespace Go.Proofs.YtllaflgcladgoaaDoor
open Go Go.ChangeShapes Go.WideShapes Go.ChangeAt Go.RowKit Go.Thw

/-- a version's name, a segment's name -/
def verS (n : Int) : List UInt8 := if 1 ≤ n ∧ n ≤ 999999 then nameL 109 n.toNat else []
def objS (n : Int) : List UInt8 := if 0 ≤ n ∧ n ≤ 999999 then nameL 111 n.toNat else []
theorem man_Name_c (n : Int) (w : World) (hv : Vars w) : Calls Tryd.prog 20 #[.int .i64 n] w fun e w' => e = .returned (.string (bs (verS n))) ∧ Below w.heap.size w w' := by
  unfold verS
  by_cases h : 1 ≤ n ∧ n ≤ 999999
  · rw [if_pos h]
    obtain ⟨k, rfl⟩ : ∃ k : Nat, n = k := ⟨n.toNat, by omega⟩
    exact man_Name_ok k (by omega) (by omega) w hv
  · rw [if_neg h]
    refine (man_Name_no n (by omega) w).mono ?_
    rintro e w' ⟨rfl, rfl⟩
    exact ⟨rfl, Below.refl _ _⟩
theorem man_Object_c (n : Int) (w : World) (hv : Vars w) : Calls Tryd.prog 22 #[.int .i64 n] w fun e w' => e = .returned (.string (bs (objS n))) ∧ Below w.heap.size w w' := by
  unfold objS
  by_cases h : 0 ≤ n ∧ n ≤ 999999
  · rw [if_pos h]
    obtain ⟨k, rfl⟩ : ∃ k : Nat, n = k := ⟨n.toNat, by omega⟩
    exact man_Object_ok k (by omega) w hv
  · rw [if_neg h]
    refine (man_Object_no n (by omega) w).mono ?_
    rintro e w' ⟨rfl, rfl⟩
    exact ⟨rfl, Below.refl _ _⟩
theorem objS_len (n : Int) : (objS n).length ≤ 7 := by
  unfold objS
  split
  · rw [nameL_len]; omega
  · simp
theorem man_Version_obj (n : Int) (w : World) (hv : Vars w) : Calls Tryd.prog 16 #[.string (bs (objS n))] w fun e w' => e = .returned (.tuple #[.int .i64 0, .bool false]) ∧ Below w.heap.size w w' := by
  refine man_Version_no _ (by have := objS_len n; omega) (fun k _ _ e => ?_) w hv
  unfold objS at e
  split at e
  · simp [nameL] at e
  · simp [nameL] at e
theorem man_Version_ver (n : Int) (h : 1 ≤ n ∧ n ≤ 999999) (w : World) (hv : Vars w) : Calls Tryd.prog 16 #[.string (bs (verS n))] w fun e w' => e = .returned (.tuple #[.int .i64 n, .bool true]) ∧ Below w.heap.size w w' := by
  obtain ⟨k, rfl⟩ : ∃ k : Nat, n = k := ⟨n.toNat, by omega⟩
  rw [verS, if_pos h]
  exact man_Version_ok k (by omega) (by omega) w hv
theorem man_Version_nover (n : Int) (h : ¬ (1 ≤ n ∧ n ≤ 999999)) (w : World) (hv : Vars w) : Calls Tryd.prog 16 #[.string (bs (verS n))] w fun e w' => e = .returned (.tuple #[.int .i64 0, .bool false]) ∧ Below w.heap.size w w' := by
  rw [verS, if_neg h]
  exact man_Version_no [] (by simp) (fun k _ _ e => by simp [nameL] at e) w hv

set_option maxRecDepth 20000 in
set_option maxHeartbeats 1600000 in
theorem order_in (a b : Int) (ha : 1 ≤ a ∧ a ≤ 999999) (hb : 1 ≤ b ∧ b ≤ 999999) (w : World) (hv : Vars w) :
    Calls Tryd.prog 6 #[.int .i64 a, .int .i64 b] w fun e w' => e = .returned (.bool true) ∧ Below w.heap.size w w' := by
  have hls : Op.bytesLess (verS a) (verS b) = decide (a < b) := by
    rw [verS, verS, if_pos ha, if_pos hb, less_name _ _ _ (by omega) (by omega)]
    exact decide_eq_decide.2 (by omega)
  have hle : (verS a).length = 7 := by rw [verS, if_pos ha, nameL_len]
  have Hv := Lib.hid hv; clear hv
  have HV := Lib.hid (man_Version_ver a ha)
  obtain ⟨a1, a2⟩ := ha
  obtain ⟨b1, b2⟩ := hb
  have q1 : decide (a < 1) = false := by simpa using a1
  have q2 : decide (b < 1) = false := by simpa using b1
  have q3 : decide (999999 < a) = false := by simpa using a2
  have q4 : decide (999999 < b) = false := by simpa using b2
  clear a1 a2 b1 b2
  go_enter Tryd.func6, Tryd.ntmps6
  go_wp2_with (first
    | (go_at_call 16; refine (man_Version_obj b _ (Hv.out.below hb5)).mono ?_; rintro e w6 ⟨rfl, hb6⟩)
    | (go_at_call 22; refine (man_Object_c b _ (Hv.out.below hb4)).mono ?_; rintro e w5 ⟨rfl, hx5⟩; have hb5 := hb4.trans (hx5.mono hb4.size))
    | (go_at_call 16; refine (HV.out _ (Hv.out.below hb3)).mono ?_; rintro e w4 ⟨rfl, hx4⟩; have hb4 := hb3.trans (hx4.mono hb3.size))
    | (go_at_call 20; refine (man_Name_c b _ (Hv.out.below hb2)).mono ?_; rintro e w3 ⟨rfl, hx3⟩; have hb3 := hb2.trans (hx3.mono hb2.size))
    | (go_at_call 20; refine (man_Name_c a _ (Hv.out.below hb1)).mono ?_; rintro e w2 ⟨rfl, hx2⟩; have hb2 := hb1.trans (hx2.mono hb1.size))
    | (go_at_call 7; refine (aw _ Hv.out).mono ?_; rintro e w1 ⟨rfl, hb1⟩))
  go_ret
  exact ⟨rfl, hb5.trans (hb6.mono hb5.size)⟩

theorem man_Version_any (n : Int) : ∃ (k : Int) (t : Bool), ∀ (w : World), Vars w → Calls Tryd.prog 16 #[.string (bs (verS n))] w fun e w' => e = .returned (.tuple #[.int .i64 k, .bool t]) ∧ Below w.heap.size w w' := by
  by_cases h : 1 ≤ n ∧ n ≤ 999999
  · exact ⟨_, _, man_Version_ver n h⟩
  · exact ⟨_, _, man_Version_nover n h⟩
set_option maxRecDepth 20000 in
set_option maxHeartbeats 3200000 in
theorem order_out (a b : Int) (h : ¬ ((1 ≤ a ∧ a ≤ 999999) ∧ (1 ≤ b ∧ b ≤ 999999))) (w : World) (hv : Vars w) :
    Calls Tryd.prog 6 #[.int .i64 a, .int .i64 b] w fun e w' => e = .returned (.bool true) ∧ Below w.heap.size w w' := by
  have Hv := Lib.hid hv; clear hv
  obtain ⟨k, t, hV⟩ := man_Version_any a
  have HV := Lib.hid hV; clear hV
  have hcase : decide (a < 1) = true ∨ (decide (a < 1) = false ∧ decide (b < 1) = true) ∨ (decide (a < 1) = false ∧ decide (b < 1) = false ∧ decide (999999 < a) = true) ∨ (decide (a < 1) = false ∧ decide (b < 1) = false ∧ decide (999999 < a) = false ∧ decide (999999 < b) = true) := by
    simp only [decide_eq_true_eq, decide_eq_false_iff_not]
    omega
  clear h
  rcases hcase with q1 | ⟨q1, q2⟩ | ⟨q1, q2, q3⟩ | ⟨q1, q2, q3, q4⟩
  all_goals
    go_enter Tryd.func6, Tryd.ntmps6
    go_wp2_with (first
      | (go_at_call 16; refine (man_Version_obj b _ (Hv.out.below hb5)).mono ?_; rintro e w6 ⟨rfl, hb6⟩)
      | (go_at_call 22; refine (man_Object_c b _ (Hv.out.below hb4)).mono ?_; rintro e w5 ⟨rfl, hx5⟩; have hb5 := hb4.trans (hx5.mono hb4.size))
      | (go_at_call 16; refine (HV.out _ (Hv.out.below hb3)).mono ?_; rintro e w4 ⟨rfl, hx4⟩; have hb4 := hb3.trans (hx4.mono hb3.size))
      | (go_at_call 20; refine (man_Name_c b _ (Hv.out.below hb2)).mono ?_; rintro e w3 ⟨rfl, hx3⟩; have hb3 := hb2.trans (hx3.mono hb2.size))
      | (go_at_call 20; refine (man_Name_c a _ (Hv.out.below hb1)).mono ?_; rintro e w2 ⟨rfl, hx2⟩; have hb2 := hb1.trans (hx2.mono hb1.size))
      | (go_at_call 7; refine (aw _ Hv.out).mono ?_; rintro e w1 ⟨rfl, hb1⟩))
    go_ret
    exact ⟨rfl, hb5.trans (hb6.mono hb5.size)⟩

theorem order_walk (a b : Int) (w : World) (hv : Vars w) :
    Calls Tryd.prog 6 #[.int .i64 a, .int .i64 b] w fun e w' => e = .returned (.bool true) ∧ Below w.heap.size w w' := by
  by_cases h : (1 ≤ a ∧ a ≤ 999999) ∧ (1 ≤ b ∧ b ≤ 999999)
  · exact order_in a b h.1 h.2 w hv
  · exact order_out a b h w hv

set_option maxRecDepth 100000 in
theorem order_lifted (os : Os) (started : os.Started) (H : Type) (enc : TypeId × Value → H) :
    ReturnsInHanded {} Tryd.checked os 6 .any (fun w args => (Rows.manifestOrderSpec.pre enc Tryd.prog Tryd.f6 [] false w args ∧ laidMetH Tryd.prog Rows.manifestOrderRow.laid w) ∧ sizedMet enc Tryd.prog Tryd.f6 (OpenSpec.ofChange Rows.manifestOrderSpec) false w args)
      (Rows.manifestOrderSpec.post enc Tryd.prog Tryd.f6 false true false false) := by
  refine returnsInHanded_of_change_and (C := Tryd.checked) (X := fun w _ => laidMetH Tryd.prog Rows.manifestOrderRow.laid w) (fun _ _ _ hh h => h.of_heap hh) own started (by kernel_rfl) Tryd.func6
    (ChangeSpec.witness_shaped (enc := enc) (C := Tryd.checked) (os := os) (X := fun w _ => laidMetH Tryd.prog Rows.manifestOrderRow.laid w) false (World.doorLaid Tryd.prog 4000 os) #[.int .i64 0, .int .i64 0] 8 rfl (World.shaped_of_RefB (by kernel_rfl) (by kernel_rfl)) (by kernel_rfl) (by kernel_rfl) (by kernel_rfl) (door_met os _)) ?_
  intro W base args ds gs before hval0 hW _ _ hL _
  have hval : ∀ (j : Nat) t v, Tryd.f6.params[j]? = some t → args[j]? = some v → Value.okWide Tryd.prog W .any base t v := hval0
  have hW' := hW
  obtain ⟨p, q, hA0, hV, rfl, hfz, hnd⟩ := hW
  have hA : DataW.TrodAll enc Tryd.prog W 0 (fun _ => true) true Tryd.f6.params.toList args.toList ds p := hA0
  rw [Tryd.params6] at hA hval
  obtain ⟨v0, vs0, d0, ds0, p0, q0, hargs, rfl, rfl, h0, r0⟩ := trodAll_cons hA
  obtain ⟨v1, vs1, d1, ds1, p1, q1, rfl, rfl, rfl, h1, r1⟩ := trodAll_cons r0
  obtain ⟨rfl, rfl, rfl⟩ := trodAll_nil r1
  obtain rfl : args = #[v0, v1] := by cases args; simp_all
  obtain ⟨rfl, rfl⟩ := trodVars_none hV
  obtain ⟨a0, rfl, rfl, rfl, w0⟩ := open_int Tryd.underlying3 (hval 0 3 v0 rfl rfl) h0
  obtain ⟨a1, rfl, rfl, rfl, w1⟩ := open_int Tryd.underlying3 (hval 1 3 v1 rfl rfl) h1
  clear hA0 hval0
  simp only [List.append_nil] at hW'
  refine (order_walk a0 a1 W (vars_of_laid hL)).mono fun e W' ⟨he, hb⟩ => ?_
  subst he
  exact ⟨_, rfl, post_law (pa := []) (pv := []) hW' (fun _ _ _ => trodAll_cons_mk (shut_bool Tryd.underlying4 _) trodAll_mk0) (fun sp _ => trodAll_cons_mk (shut_int Tryd.underlying3 w0) (trodAll_cons_mk (shut_int Tryd.underlying3 w1) trodAll_mk0)) (fun _ _ => rfl) rfl
    (hb.frame _)⟩

theorem order_holds : Rows.ManifestOrderSaid :=
  OpenClaim.holds_of_wide 6 Tryd.f6 rfl rfl rfl rfl rfl rfl rfl ⟨rfl, rfl, rfl, rfl, rfl⟩ rfl rfl rfl rfl rfl (by kernel_rfl) Tryd.func6 (by kernel_rfl)
    (of_decide_eq_true (by kernel_rfl)) (by unfold Func.isWrapper; first | (rw [if_pos (by decide +kernel)]; kernel_rfl) | (rw [if_neg (by decide +kernel)]; exact ⟨rfl, rfl⟩))
    (fun os started H enc _ => order_lifted os started H enc)

theorem order_plain (f : FuncId) (fn : Func) (hf : Tryd.pinned.checked.prog.funcNamed "thwart/thwartlaw12.ManifestOrder" = some f) (hfn : Tryd.pinned.checked.prog.funcs[f]? = some fn) :
    true = Tryd.pinned.checked.prog.looks [] ∧ ∀ (j : Nat) t, fn.params[j]? = some t → Tryd.pinned.checked.prog.wantsStandIn t = false := by
  obtain rfl : f = 6 := Option.some.inj ((show Tryd.prog.funcNamed "thwart/thwartlaw12.ManifestOrder" = some 6 by kernel_rfl).symm.trans hf) |>.symm
  obtain rfl : fn = Tryd.f6 := (Option.some.inj (Tryd.func6.symm.trans hfn)).symm
  refine ⟨by kernel_rfl, fun j t ht => ?_⟩
  rw [Tryd.params6] at ht
  have hm : t ∈ [3] := by simpa using Array.mem_of_getElem? ht
  have hall : ([3].all fun u => !Tryd.prog.wantsStandIn u) = true := by kernel_rfl
  exact (show Tryd.prog.wantsStandIn t = false by simpa using List.all_eq_true.1 hall t hm)

theorem order_card : Rows.ManifestOrderCardSaid :=
  Claim7.holds_tied_plain_at .later [] _ _ _ _ order_holds (fun _ h => by cases h) (by kernel_rfl) (fun _ h => by cases h) manifestOrder_row_tie rfl ⟨rfl, rfl⟩ (by kernel_rfl) rfl order_plain (by kernel_rfl)
#print axioms order_card
end Go.Proofs.YtllaflgcladgoaaDoor
