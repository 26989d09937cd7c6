/- keydir: Put, Get, Len, Cap, New, Far -/
import Derived.Test.YtdllmflhgbponaaKdG
namespace Go.Proofs.Ytdllmflhgbponaa
open Go Go.RowKit Go.Thw

set_option maxRecDepth 20000 in
set_option maxHeartbeats 1600000 in
theorem kd_put_grow (k : List UInt8) (l : LocD) (hk : k.length ≤ 140737488351232) (w : World) (d S : Nat) (T : List Slot) (M : List Ent) (h : DirW w d S T M.length) (hT : TabOf T M) (hle : T.length ≤ 536870912) (hkeys : ∀ x ∈ M, x.1.length ≤ 140737488351232)
    (hi : (tat T (findT T k)).is = false) (hr : T.length < 2 * (M.length + 1)) :
    Calls Try.prog 8 #[.pointer (some ⟨d, 0, none⟩), .string (bs k), .agg #[.int .i64 l.seg, .int .i64 l.off, .int .i64 l.len, .int .u64 l.seq]] w fun e w' => e = .returned (.tuple #[]) ∧ GrownOut w d (M.length + 1) (2 * T.length) (insM k l M) w' ∧ Frm (fun b => b = d) w w' := by
  have HF := Lib.hid (fun W (hW : DirW W d S T M.length) => kd_find k hk W d S T M.length hW (TabOf.n hT (by omega)) hT.empty)
  have HGr := Lib.hid (fun W (hW : DirW W d S T (M.length + 1)) => kd_grow W d S T (M.length + 1) M hW hT hle hkeys)
  have HF2 := Lib.hid (fun W S' T' (hW : DirW W d S' T' (M.length + 1)) (hT' : TabOf T' M) (hl : T'.length = 2 * T.length) => kd_find k hk W d S' T' (M.length + 1) hW (TabOf.n hT' (by omega)) hT'.empty)
  have hil : findT T k < T.length := let ⟨e, he, hs⟩ := hT.empty; (find_stop he hs k).1
  have hb0 := (Below.refl _ w).alloc (Nat.le_refl _) (.cells #[.int .i64 l.seg, .int .i64 l.off, .int .i64 l.len, .int .u64 l.seq] 29)
  have q1 : decide ((T.length : Int) < 2 * ((M.length : Int) + 1)) = true := by simp; omega
  have hroom := hT.room
  have h8 := hT.eight
  generalize findT T k = i at *
  go_enter Try.func8, Try.ntmps8
  go_wp2_with (go_at_call 14; refine (HF.out _ (h.below hb0)).mono ?_; rintro e w1 ⟨rfl, hb⟩; have hD := (h.below hb0).below hb; have c0 := hD.c0; have c1 := hD.c1; have f1 := hD.f1; have s5 := (hD.slot hil).c5; rw [hi] at s5)
  have hD2 := hD.setMany (M.length + 1)
  rw [show ((M.length + 1 : Nat) : Int) = (M.length : Int) + 1 from rfl] at hD2
  have B : ∀ j, j < 4 → (w1.setCell ⟨d, 1, none⟩ (.int .i64 ((M.length : Int) + 1))).cell? ⟨w.heap.size, j, none⟩ = #[Value.int .i64 l.seg, .int .i64 l.off, .int .i64 l.len, .int .u64 l.seq][j]? := fun j hj => by
    refine (cell_set_off (by intro e; have := lt_of_block h.hd; simp at e; omega)).trans ?_
    exact keep_cell hb (World.cell?_alloc_new w _ 29 j) (by simp; omega)
  have hF2 : Frm (fun b => b = d) w (w1.setCell ⟨d, 1, none⟩ (.int .i64 ((M.length : Int) + 1))) := ((Frm.of_below (F := fun b => b = d) hb0).then_below hb).set _ _ (fun _ => rfl)
  generalize w1.setCell ⟨d, 1, none⟩ (.int .i64 ((M.length : Int) + 1)) = w2 at *
  have d0 := hD2.c0
  have d1 := hD2.c1
  rw [show ((M.length + 1 : Nat) : Int) = (M.length : Int) + 1 from rfl] at d1
  have hdl := lt_of_block h.hd
  clear c0 c1 f1 s5 hD hb hil hi
  go_quiet (fail)
  have B' : ∀ j, j < 4 → ∀ w3, Frm (fun b => b = d) (w2.drewN nq) w3 → w3.cell? ⟨w.heap.size, j, none⟩ = #[Value.int .i64 l.seg, .int .i64 l.off, .int .i64 l.len, .int .u64 l.seq][j]? := fun j hj w3 hf => by
    have hb : (w2.drewN nq).cell? ⟨w.heap.size, j, none⟩ = some (#[Value.int .i64 l.seg, .int .i64 l.off, .int .i64 l.len, .int .u64 l.seq][j]'(by simp; omega)) := (B j hj).trans (by rw [Array.getElem?_eq_getElem])
    rw [hf.cell hb (by simp; omega), Array.getElem?_eq_getElem]
  have HB := Lib.hid B'
  clear B' B
  go_wp2_with (first
    | (go_at_call 14; refine (HF2.out _ S' T' hD3 hT' HL.out).mono ?_; rintro e w4 ⟨rfl, hb4⟩)
    | (go_at_call 16; refine (HGr.out _ (hD2.below (below_drewN (Below.refl _ _) nq))).mono ?_; rintro e w3 ⟨rfl, ⟨S', T', hS', hD3, hT', hl'⟩, hf3⟩; have HL := Lib.hid hl'; clear hl'))
  have hf4 := hf3.then_below hb4
  have hD4 := hD3.below hb4
  have hst : findT T' k < T'.length ∧ TabOf (T'.set (findT T' k) ⟨k, l, true⟩) (insM k l M) := ⟨let ⟨e, he, hs⟩ := hT'.empty; (find_stop he hs k).1, hT'.put k l (fun _ => by have := HL.out; omega)⟩
  obtain ⟨hil, hT''⟩ := hst
  have HT := Lib.hid hT''
  clear hT''
  generalize findT T' k = i at *
  have e0 := Amid.cell hD4.c0
  have b0 := Amid.cell (HB.out 0 (by omega) _ hf4)
  have b1 := Amid.cell (HB.out 1 (by omega) _ hf4)
  have b2 := Amid.cell (HB.out 2 (by omega) _ hf4)
  have b3 := Amid.cell (HB.out 3 (by omega) _ hf4)
  refine wp_amid_tail 9 (by kernel_rfl) (by kernel_rfl) ?_
  simp only [List.take_succ_cons, List.take_zero, List.drop_succ_cons, List.drop_zero]
  repeat (quiet_step (fail))
  refine wpQuiet_nil ?_
  rintro _ ⟨p, rfl⟩
  have hP := hD4.below p.h
  have fs := hP.fS
  obtain ⟨s0, s1, s2, s3, s4, s5'⟩ := hP.slot hil
  go_wp2_with fail
  go_end0
  have hsz := hF2.size
  refine ⟨rfl, ⟨S', _, by simp at hS'; omega, hP.store hil ⟨k, l, true⟩, HT.out, by simp [HL.out]⟩, Frm.store (F := fun b => b = d) ((hF2.tr ((Frm.refl _ _).drewN nq)).tr (hf4.then_below p.h)) (fun hx => by simp at hS'; omega) i ⟨k, l, true⟩⟩

/-- a Dir at d, whose slots lie in block S, of these sorted entries; so many places -/
def DirAt (w : World) (d S : Nat) (M : List Ent) (N : Nat) : Prop := ∃ T, DirW w d S T M.length ∧ TabOf T M ∧ T.length = N ∧ ∀ x ∈ M, x.1.length ≤ 140737488351232
section
variable {w w' : World} {d S N : Nat} {M : List Ent}
theorem DirAt.below (h : DirAt w d S M N) (hb : Below w.heap.size w w') : DirAt w' d S M N := let ⟨T, h1, h2⟩ := h; ⟨T, h1.below hb, h2⟩
theorem DirAt.frm {F : Nat → Prop} (h : DirAt w d S M N) (hf : Frm F w w') (h1 : ¬ F d) (h2 : ¬ F S) : DirAt w' d S M N := let ⟨T, g1, g2⟩ := h; ⟨T, g1.frm hf h1 h2, g2⟩
theorem DirAt.lt (h : DirAt w d S M N) : d < w.heap.size := let ⟨_, h1, _⟩ := h; lt_of_block h1.hd
theorem DirAt.ltS (h : DirAt w d S M N) : S < w.heap.size := let ⟨_, h1, _⟩ := h; lt_of_block h1.hs
theorem DirAt.room (h : DirAt w d S M N) : 2 * M.length ≤ N ∧ 8 ≤ N := let ⟨_, _, h2, h3, _⟩ := h; ⟨h3 ▸ h2.room, h3 ▸ h2.eight⟩
theorem DirAt.sorted (h : DirAt w d S M N) : SortedM M := let ⟨_, _, h2, _⟩ := h; h2.sorted
end
theorem insM_len (k : List UInt8) (l : LocD) (M : List Ent) : (insM k l M).length ≤ M.length + 1 := by
  induction M with
  | nil => simp [insM]
  | cons x r ih =>
    unfold insM
    split
    · simp
    · split
      · simp
      · simp only [List.length_cons]; omega
theorem insM_len_none {k : List UInt8} {l : LocD} {M : List Ent} (hs : SortedM M) (h : getM k M = none) : (insM k l M).length = M.length + 1 := by
  rw [(insM_perm hs).length_eq, delM_none h]; rfl
theorem insM_len_some {T : List Slot} {k : List UInt8} {l l' : LocD} {M : List Ent} (hT : TabOf T M) (h : getM k M = some l') (ht : tat T (findT T k) = ⟨k, l', true⟩) : (insM k l M).length = M.length := by
  have h1 := hT.put k l (fun h0 => by rw [h] at h0; cases h0)
  have h2 := h1.perm.length_eq
  have hlt := tat_is_lt (T := T) (i := findT T k) (by rw [ht])
  obtain ⟨R, p1, p2⟩ := ents_over T _ hlt (by rw [ht]) k l
  have := p1.length_eq
  have := p2.length_eq
  have := hT.perm.length_eq
  simp only [List.length_cons] at *
  omega

def PutOut (w : World) (d S N : Nat) (k : List UInt8) (l : LocD) (M : List Ent) (w' : World) : Prop := ∃ S' N', DirAt w' d S' (insM k l M) N' ∧ (N' ≤ N ∨ N' < 4 * (M.length + 1)) ∧ (S' = S ∨ w.heap.size ≤ S')
theorem kd_Put (k : List UInt8) (l : LocD) (hk : k.length ≤ 140737488351232) (w : World) (d S N : Nat) (M : List Ent) (h : DirAt w d S M N) (hN : N ≤ 536870912) :
    Calls Try.prog 8 #[.pointer (some ⟨d, 0, none⟩), .string (bs k), .agg #[.int .i64 l.seg, .int .i64 l.off, .int .i64 l.len, .int .u64 l.seq]] w fun e w' => e = .returned (.tuple #[]) ∧ PutOut w d S N k l M w' ∧ Frm (fun b => b = d ∨ b = S) w w' := by
  obtain ⟨T, hD, hT, rfl, hkeys⟩ := h
  have hkeys' : ∀ x ∈ insM k l M, x.1.length ≤ 140737488351232 := fun x hx => by
    rcases insM_mem hx with rfl | hx
    · exact hk
    · exact hkeys x hx
  rcases hT.look k with ⟨h1, h2⟩ | ⟨l', h1, h2⟩
  · have hi : (tat T (findT T k)).is = false := by rw [h2]; rfl
    by_cases hr : 2 * (M.length + 1) ≤ T.length
    · refine (kd_put_room k l hk w d S T M hD hT (by omega) hi hr).mono ?_
      rintro e w' ⟨rfl, g1, g2⟩
      exact ⟨rfl, ⟨S, _, ⟨_, by rw [insM_len_none hT.sorted h1]; exact g1, hT.put k l (fun _ => hr), rfl, hkeys'⟩, Or.inl (by simp), Or.inl rfl⟩, g2⟩
    · refine (kd_put_grow k l hk w d S T M hD hT (by omega) hkeys hi (by omega)).mono ?_
      rintro e w' ⟨rfl, ⟨S', T', g1, g2, g3, g4⟩, g5⟩
      exact ⟨rfl, ⟨S', _, ⟨T', by rw [insM_len_none hT.sorted h1]; exact g2, g3, rfl, hkeys'⟩, Or.inr (by omega), Or.inr g1⟩, g5.mono fun _ _ e => Or.inl e⟩
  · have hi : (tat T (findT T k)).is = true := by rw [h2]
    refine (kd_put_over k l hk w d S T M hD hT (by omega) hi).mono ?_
    rintro e w' ⟨rfl, g1, g2⟩
    exact ⟨rfl, ⟨S, _, ⟨_, by rw [insM_len_some hT h1 h2]; exact g1, hT.put k l (fun h0 => by rw [h1] at h0; cases h0), rfl, hkeys'⟩, Or.inl (by simp), Or.inl rfl⟩, g2.mono fun _ _ e => Or.inr e⟩

theorem kd_Len (w : World) (d S N : Nat) (M : List Ent) (h : DirAt w d S M N) : Calls Try.prog 11 #[.pointer (some ⟨d, 0, none⟩)] w fun e w' => e = .returned (.int .i64 M.length) ∧ w = w' := by
  obtain ⟨T, hD, hT, rfl, _⟩ := h
  have c1 := hD.c1
  go_enter Try.func11, Try.ntmps11
  go_wp2_with fail
  go_ret
  exact ⟨rfl, rfl⟩
theorem kd_Cap (w : World) (d S N : Nat) (M : List Ent) (h : DirAt w d S M N) (hN : N ≤ 1073741824) : Calls Try.prog 10 #[.pointer (some ⟨d, 0, none⟩)] w fun e w' => e = .returned (.int .i64 N) ∧ w = w' := by
  obtain ⟨T, hD, hT, rfl, _⟩ := h
  have c0 := hD.c0
  go_enter Try.func10, Try.ntmps10
  go_wp2_with fail
  go_ret
  exact ⟨rfl, rfl⟩
theorem kd_New (w : World) : Calls Try.prog 6 #[] w fun e w' => e = .returned (.pointer (some ⟨w.heap.size + 1, 0, none⟩)) ∧ DirAt w' (w.heap.size + 1) w.heap.size [] 8 ∧ Below w.heap.size w w' := by
  have hmk : ∀ W : World, (Instr.makeSlice 43 (.int .i64 8) (.int .i64 8)).run Try.prog W = .ok (.slice (some ⟨W.heap.size, 0, none⟩) 8 8) (W.alloc (.cells (flatS (List.replicate 8 Slot.zero)).toArray 48)) := fun W => run_make_slots W 8 (by omega)
  go_enter Try.func6, Try.ntmps6
  go_wp2_with fail
  go_ret
  refine ⟨rfl, ⟨List.replicate 8 Slot.zero, ⟨?_, ?_⟩, TabOf.new, by simp, fun x hx => by cases hx⟩, ((Below.refl _ w).alloc (Nat.le_refl _) _).alloc (by simp) _⟩
  · have := heap_alloc_new (w.alloc (.cells (flatS (List.replicate 8 Slot.zero)).toArray 48)) (.cells #[.slice (some ⟨w.heap.size, 0, none⟩) 8 8, .int .i64 0] 45)
    simpa using this
  · rw [Below.heap_alloc _ _ _ (by simp)]; exact heap_alloc_new w _

def FarOut (M : List Ent) (N : Nat) (k : List UInt8) (e : Ending) : Prop :=
  (getM k M = none ∧ e = .returned (.tuple #[.int .i64 0, .bool false])) ∨ (getM k M ≠ none ∧ ∃ n : Nat, n < N ∧ n < M.length ∧ e = .returned (.tuple #[.int .i64 n, .bool true]))

theorem far_eq {N h n p m : Nat} (hN : N = 2 ^ m) (hm : m < 60) (hh : h < N) (hn : n < N) (hp : p = (h + n) % N) : bits .and .i64 ((p : Int) - (h : Int)) ((N : Int) - 1) = (n : Int) := by
  have := i64_mask ((p : Int) - (h : Int)) m hm
  rw [← hN] at this
  rw [this, hp]
  clear this
  rcases Nat.lt_or_ge (h + n) N with hl | hl
  · rw [Nat.mod_eq_of_lt hl, show (((h + n : Nat)) : Int) - h = n by omega]
    exact Int.emod_eq_of_lt (by omega) (by omega)
  · rw [Nat.mod_eq_sub_mod hl, Nat.mod_eq_of_lt (by omega), show (((h + n - N : Nat)) : Int) - h = (n : Int) - N by omega, ← Int.add_emod_right, show (n : Int) - N + N = n by omega]
    exact Int.emod_eq_of_lt (by omega) (by omega)
set_option maxRecDepth 20000 in
set_option maxHeartbeats 800000 in
theorem kd_Far (k : List UInt8) (hk : k.length ≤ 140737488351232) (w : World) (d S N : Nat) (M : List Ent) (h : DirAt w d S M N) (hN : N ≤ 1073741824) :
    Calls Try.prog 9 #[.pointer (some ⟨d, 0, none⟩), .string (bs k)] w fun e w' => FarOut M N k e ∧ Below w.heap.size w w' := by
  obtain ⟨T, hD, hT, rfl, hkeys⟩ := h
  have hTN := TabOf.n hT hN
  obtain ⟨e0, he0, hs0⟩ := hT.empty
  obtain ⟨n, hw⟩ := way_ex k he0 hs0
  have hil := (find_stop he0 hs0 k).1
  have hlook := hT.look k
  obtain ⟨m, hm, hpow⟩ := hTN.pow
  have hfar := far_eq hpow hm (homeN_lt k hTN.pos) hw.lt hw.find
  have hlen : (tat T (findT T k)).is = true → n < M.length := fun hi => by
    have := hw.far (by rw [← hw.find]; exact hi)
    rwa [hT.perm.length_eq] at this
  have hnlt := hw.lt
  have HF := Lib.hid (fun W (hW : DirW W d S T M.length) => kd_find k hk W d S T M.length hW hTN hT.empty)
  have HP := Lib.hid (hash_Place k hk T.length hTN.pos hTN.le ⟨m, hpow⟩)
  have Hfar := Lib.hid hfar
  clear hs0 hw he0 hpow hfar hTN
  have hh0 := homeN_lt k (show 0 < T.length by omega)
  generalize homeN k T.length = hm0 at *
  generalize findT T k = i at *
  rcases hlook with ⟨h1, h2⟩ | ⟨l', h1, h2⟩
  · have H1 := Lib.hid h1
    have hi : (tat T i).is = false := by rw [h2]; rfl
    clear h1 h2 hlen
    go_enter Try.func9, Try.ntmps9
    go_wp2_with (go_at_call 14; refine (HF.out _ hD).mono ?_; rintro e w1 ⟨rfl, hb⟩; have hD1 := hD.below hb; have c0 := hD1.c0; have s5 := (hD1.slot hil).c5; rw [hi] at s5)
    go_ret2
    exact ⟨Or.inl ⟨H1.out, rfl⟩, hb⟩
  · have H1 := Lib.hid h1
    have hi : (tat T i).is = true := by rw [h2]
    have HL := Lib.hid (hlen hi)
    have q1 : IntKind.i64.wrap ((i : Int) - (hm0 : Int)) = (i : Int) - (hm0 : Int) := IntWalk.i64_in _ (by omega)
    have q2 : IntKind.i64.wrap ((T.length : Int) - 1) = (T.length : Int) - 1 := IntWalk.i64_in _ (by omega)
    clear h1 h2 hlen
    go_enter Try.func9, Try.ntmps9
    go_wp2_with (go_at_call 14; refine (HF.out _ hD).mono ?_; rintro e w1 ⟨rfl, hb⟩; have hD1 := hD.below hb; have c0 := hD1.c0; have s5 := (hD1.slot hil).c5; rw [hi] at s5)
    have e0 := Amid.cell c0
    refine wp_amid (by kernel_rfl) (by kernel_rfl) ?_
    repeat (quiet_step ((go_at_call 17; exact Amid.call (HP.out _))))
    refine wpQuiet_nil ?_
    rintro _ ⟨p, rfl⟩
    go_wp2_with fail
    go_ret2
    refine ⟨Or.inr ⟨by rw [H1.out]; simp, n, hnlt, HL.out, ?_⟩, hb.trans (p.h.mono hb.size)⟩
    rw [← Hfar.out]
    rfl
end Go.Proofs.Ytdllmflhgbponaa
