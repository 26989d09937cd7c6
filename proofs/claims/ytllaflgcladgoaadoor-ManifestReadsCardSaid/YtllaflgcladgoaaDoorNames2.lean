/- thwartlaw12.ManifestNames returns true for every integer and every two strings: names, the version of a name, and what is known of bytes are the document's. Its listed variables hold what the program's text lays; nothing else is asked. -/
import Derived.Test.YtllaflgcladgoaaDoorOrder
import Derived.ChangeMaps5
namespace Go.Proofs.YtllaflgcladgoaaDoor
open Go Go.ChangeShapes Go.WideShapes Go.ChangeAt Go.RowKit Go.Thw

theorem ref_Name_c (n : Int) (w : World) : Calls Tryd.prog 21 #[.int .i64 n] w fun e w' => e = .returned (.string (bs (verS n))) ∧ Below w.heap.size w w' := by
  unfold verS
  by_cases h : 1 ≤ n ∧ n ≤ 999999
  · rw [if_pos h]
    obtain ⟨k, rfl⟩ : ∃ k : Nat, n = k := ⟨n.toNat, by omega⟩
    exact ref_Name_ok k (by omega) (by omega) w
  · rw [if_neg h]
    refine (ref_Name_no n (by omega) w).mono ?_
    rintro e w' ⟨rfl, rfl⟩
    exact ⟨rfl, Below.refl _ _⟩
theorem ref_Object_c (n : Int) (w : World) : Calls Tryd.prog 23 #[.int .i64 n] w fun e w' => e = .returned (.string (bs (objS n))) ∧ Below w.heap.size w w' := by
  unfold objS
  by_cases h : 0 ≤ n ∧ n ≤ 999999
  · rw [if_pos h]
    obtain ⟨k, rfl⟩ : ∃ k : Nat, n = k := ⟨n.toNat, by omega⟩
    exact ref_Object_ok k (by omega) w
  · rw [if_neg h]
    refine (ref_Object_no n (by omega) w).mono ?_
    rintro e w' ⟨rfl, rfl⟩
    exact ⟨rfl, Below.refl _ _⟩
/-- both Versions answer alike -/
theorem version_both (l : List UInt8) (hl : l.length ≤ 140737488351232) : ∃ (n : Int) (t : Bool),
    (∀ w, Vars w → Calls Tryd.prog 16 #[.string (bs l)] w fun e w' => e = .returned (.tuple #[.int .i64 n, .bool t]) ∧ Below w.heap.size w w') ∧
    (∀ w, Calls Tryd.prog 17 #[.string (bs l)] w fun e w' => e = .returned (.tuple #[.int .i64 n, .bool t]) ∧ Below w.heap.size w w') := by
  by_cases h : ∃ m : Nat, 1 ≤ m ∧ m ≤ 999999 ∧ l = nameL 109 m
  · obtain ⟨m, h1, h2, rfl⟩ := h
    exact ⟨m, true, fun w hv => man_Version_ok m h1 h2 w hv, fun w => ref_Version _ hl m true w (.inl ⟨rfl, m, rfl, h1, h2, rfl⟩)⟩
  · have hno : ∀ m : Nat, 1 ≤ m → m ≤ 999999 → l ≠ nameL 109 m := fun m h1 h2 e => h ⟨m, h1, h2, e⟩
    exact ⟨0, false, fun w hv => man_Version_no l hl hno w hv, fun w => ref_Version l hl 0 false w (.inr ⟨rfl, rfl, hno⟩)⟩

/-- the two segments' blocks -/
structure NamW (w : World) (X Y : Nat) (s : SegD) (wr : World) : Prop where
  hX : wr.heap[X]? = some (.cells #[.int .i64 s.N, .int .i64 s.Size, .int .u32 (s.Sum : Int)] 46 (0, 0))
  hY : wr.heap[Y]? = some (.cells #[.int .i64 s.N, .int .i64 s.Size, .int .u32 (s.Sum : Int)] 48 (0, 0))
  bel : Below w.heap.size w wr
theorem NamW.below {w : World} {X Y : Nat} {s : SegD} {wr w1 : World} (h : NamW w X Y s wr) (hb : Below wr.heap.size wr w1) : NamW w X Y s w1 :=
  ⟨(hb.block _ (lt_of_block h.hX)).trans h.hX, (hb.block _ (lt_of_block h.hY)).trans h.hY, h.bel.trans (hb.mono h.bel.size)⟩
theorem NamW.start {w w4 w5 : World} {s : SegD} (h4 : Below w.heap.size w w4) (h5 : Below (w4.alloc (.cells #[.int .i64 s.N, .int .i64 s.Size, .int .u32 (s.Sum : Int)] 46)).heap.size (w4.alloc (.cells #[.int .i64 s.N, .int .i64 s.Size, .int .u32 (s.Sum : Int)] 46)) w5) :
    NamW w w4.heap.size w5.heap.size s (w5.alloc (.cells #[.int .i64 s.N, .int .i64 s.Size, .int .u32 (s.Sum : Int)] 48)) := by
  have e4 : w5.heap[w4.heap.size]? = some (.cells #[.int .i64 s.N, .int .i64 s.Size, .int .u32 (s.Sum : Int)] 46 (0, 0)) := (h5.block _ (by simp)).trans (heap_alloc_new w4 _)
  have hs : w4.heap.size < w5.heap.size := lt_of_block e4
  refine ⟨?_, heap_alloc_new w5 _, ?_⟩
  · rw [Below.heap_alloc _ _ _ hs]; exact e4
  · exact ((h4.alloc h4.size _).trans (h5.mono (by have := h4.size; simp; omega))).alloc (by have := h4.size; omega) _

set_option maxRecDepth 20000 in
set_option maxHeartbeats 3200000 in
theorem names_in (n : Int) (l m : List UInt8) (hl : l.length ≤ 100) (hm : m.length ≤ 1000) (w : World) (hv : Vars w) :
    Calls Tryd.prog 4 #[.int .i64 n, .string (bs l), .string (bs m)] w fun e w' => e = .returned (.bool true) ∧ Below w.heap.size w w' := by
  have Hv := Lib.hid hv; clear hv
  obtain ⟨k, t, hV, hR⟩ := version_both l (by omega)
  have HV := Lib.hid hV
  have HR := Lib.hid hR
  clear hV hR
  have HM := Lib.hid (man_Of n m (by omega))
  have HO := Lib.hid (ref_Of n m (by omega))
  have q1 : decide ((100 : Int) < (l.length : Int)) = false := by simp; omega
  have q2 : decide ((1000 : Int) < (m.length : Int)) = false := by simp; omega
  unfold SegV at HM HO
  generalize ofL n m = s at *
  go_enter Tryd.func4, Tryd.ntmps4
  go_wp2_with (first
    | (go_at_call 23; refine (ref_Object_c n _).mono ?_; rintro e w9 ⟨rfl, hx9⟩; have h9 := h8.below hx9; have c0 := cell_of_row w9 _ 0 _ _ _ h9.hX; have c1 := cell_of_row w9 _ 1 _ _ _ h9.hX; have c2 := cell_of_row w9 _ 2 _ _ _ h9.hX; have d0 := cell_of_row w9 _ 0 _ _ _ h9.hY; have d1 := cell_of_row w9 _ 1 _ _ _ h9.hY; have d2 := cell_of_row w9 _ 2 _ _ _ h9.hY)
    | (go_at_call 22; refine (man_Object_c n _ (Hv.out.below h7.bel)).mono ?_; rintro e w8 ⟨rfl, hx8⟩; have h8 := h7.below hx8)
    | (go_at_call 21; refine (ref_Name_c n _).mono ?_; rintro e w7 ⟨rfl, hx7⟩; have h7 := h6.below hx7)
    | (go_at_call 20; refine (man_Name_c n _ (Hv.out.below h5.bel)).mono ?_; rintro e w6 ⟨rfl, hx6⟩; have h6 := h5.below hx6)
    | (go_at_call 19; refine (HO.out _).mono ?_; rintro e w5 ⟨rfl, hx5⟩; have h5 := NamW.start hb4 hx5)
    | (go_at_call 18; refine (HM.out _).mono ?_; rintro e w4 ⟨rfl, hx4⟩; have hb4 := hb3.trans (hx4.mono hb3.size))
    | (go_at_call 17; refine (HR.out _).mono ?_; rintro e w3 ⟨rfl, hx3⟩; have hb3 := hb2.trans (hx3.mono hb2.size))
    | (go_at_call 16; refine (HV.out _ (Hv.out.below hb1)).mono ?_; rintro e w2 ⟨rfl, hx2⟩; have hb2 := hb1.trans (hx2.mono hb1.size))
    | (go_at_call 7; refine (aw _ Hv.out).mono ?_; rintro e w1 ⟨rfl, hb1⟩))
  go_ret
  exact ⟨rfl, h9.bel⟩

set_option maxRecDepth 20000 in
set_option maxHeartbeats 800000 in
theorem names_out (n : Int) (l m : List UInt8) (h : ¬ (l.length ≤ 100 ∧ m.length ≤ 1000)) (w : World) (hv : Vars w) :
    Calls Tryd.prog 4 #[.int .i64 n, .string (bs l), .string (bs m)] w fun e w' => e = .returned (.bool true) ∧ Below w.heap.size w w' := by
  have Hv := Lib.hid hv; clear hv
  have hcase : decide ((100 : Int) < (l.length : Int)) = true ∨ (decide ((100 : Int) < (l.length : Int)) = false ∧ decide ((1000 : Int) < (m.length : Int)) = true) := by
    simp only [decide_eq_true_eq, decide_eq_false_iff_not]; omega
  clear h
  rcases hcase with q1 | ⟨q1, q2⟩
  all_goals
    go_enter Tryd.func4, Tryd.ntmps4
    go_wp2_with (go_at_call 7; refine (aw _ Hv.out).mono ?_; rintro e w1 ⟨rfl, hb1⟩)
    go_ret
    exact ⟨rfl, hb1⟩

theorem names_walk (n : Int) (l m : List UInt8) (w : World) (hv : Vars w) :
    Calls Tryd.prog 4 #[.int .i64 n, .string (bs l), .string (bs m)] w fun e w' => e = .returned (.bool true) ∧ Below w.heap.size w w' := by
  by_cases h : l.length ≤ 100 ∧ m.length ≤ 1000
  · exact names_in n l m h.1 h.2 w hv
  · exact names_out n l m h w hv

set_option maxRecDepth 100000 in
theorem names_lifted (os : Os) (started : os.Started) (H : Type) (enc : TypeId × Value → H) :
    ReturnsInHanded {} Tryd.checked os 4 .any (fun w args => (Rows.manifestNamesSpec.pre enc Tryd.prog Tryd.f4 [] false w args ∧ laidMetH Tryd.prog Rows.manifestNamesRow.laid w) ∧ sizedMet enc Tryd.prog Tryd.f4 (OpenSpec.ofChange Rows.manifestNamesSpec) false w args)
      (Rows.manifestNamesSpec.post enc Tryd.prog Tryd.f4 false true false false) := by
  refine returnsInHanded_of_change_and (C := Tryd.checked) (X := fun w _ => laidMetH Tryd.prog Rows.manifestNamesRow.laid w) (fun _ _ _ hh h => h.of_heap hh) own started (by kernel_rfl) Tryd.func4
    (ChangeSpec.witness_shaped (enc := enc) (C := Tryd.checked) (os := os) (X := fun w _ => laidMetH Tryd.prog Rows.manifestNamesRow.laid w) false (World.doorLaid Tryd.prog 4000 os) #[.int .i64 0, .string ⟨#[]⟩, .string ⟨#[]⟩] 8 rfl (World.shaped_of_RefB (by kernel_rfl) (by kernel_rfl)) (by kernel_rfl) (by kernel_rfl) (by kernel_rfl) (door_met os _)) ?_
  intro W base args ds gs before hval0 hW _ _ hL _
  have hval : ∀ (j : Nat) t v, Tryd.f4.params[j]? = some t → args[j]? = some v → Value.okWide Tryd.prog W .any base t v := hval0
  have hW' := hW
  obtain ⟨p, q, hA0, hV, rfl, hfz, hnd⟩ := hW
  have hA : DataW.TrodAll enc Tryd.prog W 0 (fun _ => true) true Tryd.f4.params.toList args.toList ds p := hA0
  rw [Tryd.params4] at hA hval
  obtain ⟨v0, vs0, d0, ds0, p0, q0, hargs, rfl, rfl, h0, r0⟩ := trodAll_cons hA
  obtain ⟨v1, vs1, d1, ds1, p1, q1, rfl, rfl, rfl, h1, r1⟩ := trodAll_cons r0
  obtain ⟨v2, vs2, d2, ds2, p2, q2, rfl, rfl, rfl, h2, r2⟩ := trodAll_cons r1
  obtain ⟨rfl, rfl, rfl⟩ := trodAll_nil r2
  obtain rfl : args = #[v0, v1, v2] := by cases args; simp_all
  obtain ⟨rfl, rfl⟩ := trodVars_none hV
  obtain ⟨a0, rfl, rfl, rfl, w0⟩ := open_int Tryd.underlying3 (hval 0 3 v0 rfl rfl) h0
  obtain ⟨a1, rfl, rfl, rfl, w1⟩ := Go.ChangeMaps.open_string Tryd.underlying9 (hval 1 9 v1 rfl rfl) h1
  obtain ⟨a2, rfl, rfl, rfl, w2⟩ := Go.ChangeMaps.open_string Tryd.underlying9 (hval 2 9 v2 rfl rfl) h2
  clear hA0 hval0
  simp only [List.append_nil] at hW'
  have hw := names_walk a0 a1.data.toList a2.data.toList W (vars_of_laid hL)
  rw [← bs_of a1, ← bs_of a2] at hw
  refine hw.mono fun e W' ⟨he, hb⟩ => ?_
  subst he
  exact ⟨_, rfl, post_law (pa := []) (pv := []) hW' (fun _ _ _ => trodAll_cons_mk (shut_bool Tryd.underlying4 _) trodAll_mk0) (fun sp _ => trodAll_cons_mk (shut_int Tryd.underlying3 w0) (trodAll_cons_mk (Go.ChangeMaps.shut_string Tryd.underlying9 w1) (trodAll_cons_mk (Go.ChangeMaps.shut_string Tryd.underlying9 w2) trodAll_mk0))) (fun _ _ => rfl) rfl
    (hb.frame _)⟩

theorem names_holds : Rows.ManifestNamesSaid :=
  OpenClaim.holds_of_wide 4 Tryd.f4 rfl rfl rfl rfl rfl rfl rfl ⟨rfl, rfl, rfl, rfl, rfl⟩ rfl rfl rfl rfl rfl (by kernel_rfl) Tryd.func4 (by kernel_rfl)
    (of_decide_eq_true (by kernel_rfl)) (by unfold Func.isWrapper; first | (rw [if_pos (by decide +kernel)]; kernel_rfl) | (rw [if_neg (by decide +kernel)]; exact ⟨rfl, rfl⟩))
    (fun os started H enc _ => names_lifted os started H enc)

theorem names_plain (f : FuncId) (fn : Func) (hf : Tryd.pinned.checked.prog.funcNamed "thwart/thwartlaw12.ManifestNames" = some f) (hfn : Tryd.pinned.checked.prog.funcs[f]? = some fn) :
    true = Tryd.pinned.checked.prog.looks [] ∧ ∀ (j : Nat) t, fn.params[j]? = some t → Tryd.pinned.checked.prog.wantsStandIn t = false := by
  obtain rfl : f = 4 := Option.some.inj ((show Tryd.prog.funcNamed "thwart/thwartlaw12.ManifestNames" = some 4 by kernel_rfl).symm.trans hf) |>.symm
  obtain rfl : fn = Tryd.f4 := (Option.some.inj (Tryd.func4.symm.trans hfn)).symm
  refine ⟨by kernel_rfl, fun j t ht => ?_⟩
  rw [Tryd.params4] at ht
  have hm : t ∈ [3, 9] := by simpa using Array.mem_of_getElem? ht
  have hall : ([3, 9].all fun u => !Tryd.prog.wantsStandIn u) = true := by kernel_rfl
  exact (show Tryd.prog.wantsStandIn t = false by simpa using List.all_eq_true.1 hall t hm)

theorem names_card : Rows.ManifestNamesCardSaid :=
  Claim7.holds_tied_plain_at .later [] _ _ _ _ names_holds (fun _ h => by cases h) (by kernel_rfl) (fun _ h => by cases h) manifestNames_row_tie rfl ⟨rfl, rfl⟩ (by kernel_rfl) rfl names_plain (by kernel_rfl)
#print axioms names_card
end Go.Proofs.YtllaflgcladgoaaDoor
