/- keydir: Delete -/
import Derived.Test.YtdllmflhgbponaaKdE
namespace Go.Proofs.Ytdllmflhgbponaa
open Go Go.RowKit Go.Thw

theorem DelSt.mem {T T' : List Slot} {i0 c a : Nat} {M : List Ent} (g : DelSt T i0 c a T') (h : DelB T i0 c) (hT : TabOf T M) {j : Nat} (hj : (tat T' j).is = true) : ((tat T' j).key, (tat T' j).loc) ∈ M := by
  have h1 : ((tat T' j).key, (tat T' j).loc) ∈ ents T' := mem_ents.2 ⟨j, hj, rfl, rfl⟩
  have p := ents_empty T i0 h.lt h.is Slot.zero rfl
  exact hT.perm.subset (p.symm.subset (List.mem_cons_of_mem _ (g.perm.subset h1)))

def DelRel (w : World) (d S : Nat) (T : List Slot) (i0 c m1 : Nat) (g : Nat) (iv : Value) (wr : World) : Prop :=
  ∃ (a : Nat) (T' : List Slot), 1 ≤ a ∧ a + g = c ∧ iv = .int .i64 ((i0 + a) % T.length : Nat) ∧ DelSt T i0 c a T' ∧ DirW wr d S T' m1 ∧ Frm (fun b => b = d ∨ b = S) w wr

set_option maxRecDepth 20000 in
set_option maxHeartbeats 1600000 in
theorem kd_del_yes (k : List UInt8) (hk : k.length ≤ 140737488351232) (w : World) (d S : Nat) (T : List Slot) (M : List Ent) (m1 : Nat) (hm1 : M.length = m1 + 1) (h : DirW w d S T M.length) (hT : TabOf T M) (hle : T.length ≤ 1073741824) (hkeys : ∀ x ∈ M, x.1.length ≤ 140737488351232)
    (hi : (tat T (findT T k)).is = true) (c : Nat) (hB : DelB T (findT T k) c) :
    Calls Try.prog 7 #[.pointer (some ⟨d, 0, none⟩), .string (bs k)] w fun e w' => e = .returned (.bool true) ∧ (∃ T', DelSt T (findT T k) c c T' ∧ DirW w' d S T' m1) ∧ Frm (fun b => b = d ∨ b = S) w w' := by
  have hTN := TabOf.n hT hle
  have HF := Lib.hid (fun W (hW : DirW W d S T M.length) => kd_find k hk W d S T M.length hW hTN hT.empty)
  have hil := hB.lt
  have hmr := hT.room
  have HTN := Lib.hid (fun (T' : List Slot) (hl : T'.length = T.length) => (⟨by rw [hl]; exact hTN.pow, by rw [hl]; exact hTN.pos, by rw [hl]; exact hTN.le⟩ : TabN T'))
  have HN1 := Lib.hid (fun W T' (hW : DirW W d S T' m1) (hl : T'.length = T.length) i (hi : i < T.length) => hl ▸ kd_next W d S T' m1 hW (HTN.out T' hl) i (by rw [hl]; exact hi))
  have HM := Lib.hid hm1
  generalize hi0 : findT T k = i0 at *
  clear hi0 hTN
  have hb1 : (i0 + 0) % T.length = i0 := by rw [Nat.add_zero]; exact Nat.mod_eq_of_lt hil
  have q1 : (M.length : Int) - 1 = (m1 : Int) := by omega
  have Q1 := Lib.hid q1
  have hmp : 1 ≤ M.length := by omega
  clear hm1 q1 hb1
  go_enter Try.func7, Try.ntmps7
  go_wp2_with (first
    | (go_at_call 14; refine (HF.out _ h).mono ?_; rintro e w1 ⟨rfl, hb⟩; have hD := h.below hb; have c0 := hD.c0; have c1 := hD.c1; have f1 := hD.f1; have fS := hD.fS; obtain ⟨s0, s1, s2, s3, s4, s5⟩ := hD.slot hil; rw [hi] at s5; have hne := hD.ne))
  have hD2 : DirW (((((((w1.setCell ⟨S, i0 * 6, none⟩ (.string ⟨#[]⟩)).setCell ⟨S, i0 * 6 + 1, none⟩ (.int .i64 0)).setCell ⟨S, i0 * 6 + 2, none⟩ (.int .i64 0)).setCell ⟨S, i0 * 6 + 3, none⟩ (.int .i64 0)).setCell ⟨S, i0 * 6 + 4, none⟩ (.int .u64 0)).setCell ⟨S, i0 * 6 + 5, none⟩ (.bool false)).setCell ⟨d, 1, none⟩ (.int .i64 ((M.length : Int) - 1))) d S (T.set i0 Slot.zero) m1 := by
    rw [Q1.out]
    exact (hD.store hil Slot.zero).setMany m1
  have hF2 : Frm (fun b => b = d ∨ b = S) w (((((((w1.setCell ⟨S, i0 * 6, none⟩ (.string ⟨#[]⟩)).setCell ⟨S, i0 * 6 + 1, none⟩ (.int .i64 0)).setCell ⟨S, i0 * 6 + 2, none⟩ (.int .i64 0)).setCell ⟨S, i0 * 6 + 3, none⟩ (.int .i64 0)).setCell ⟨S, i0 * 6 + 4, none⟩ (.int .u64 0)).setCell ⟨S, i0 * 6 + 5, none⟩ (.bool false)).setCell ⟨d, 1, none⟩ (.int .i64 ((M.length : Int) - 1))) :=
    (Frm.store (F := fun b => b = d ∨ b = S) (Frm.of_below hb) (fun _ => Or.inr rfl) i0 Slot.zero).set ⟨d, 1, none⟩ _ (fun _ => Or.inl rfl)
  clear c0 c1 f1 fS s0 s1 s2 s3 s4 s5 hD hb
  generalize (((((((w1.setCell ⟨S, i0 * 6, none⟩ (.string ⟨#[]⟩)).setCell ⟨S, i0 * 6 + 1, none⟩ (.int .i64 0)).setCell ⟨S, i0 * 6 + 2, none⟩ (.int .i64 0)).setCell ⟨S, i0 * 6 + 3, none⟩ (.int .i64 0)).setCell ⟨S, i0 * 6 + 4, none⟩ (.int .u64 0)).setCell ⟨S, i0 * 6 + 5, none⟩ (.bool false)).setCell ⟨d, 1, none⟩ (.int .i64 ((M.length : Int) - 1))) = w2 at *
  refine (HN1.out _ _ hD2 (by simp) i0 hil).mono ?_
  rintro e w2' ⟨rfl, rfl⟩
  have hpos := hB.pos
  have Hbeg := Lib.hid hB.begin
  have HB := Lib.hid hB
  clear hi hB
  go_wp2_with fail
  go_loopg [5] (c - 1) (DelRel w d S T i0 c m1)
  case atStart => exact ⟨1, _, by omega, by omega, rfl, Hbeg.out, hD2, hF2⟩
  case round =>
    clear hD2 hF2 Hbeg
    obtain ⟨a, T', ha1, hac, rfl, hg, hD, hF⟩ := hrel
    have hN : 0 < T.length := by omega
    have hil2 : (i0 + a) % T.length < T.length := Nat.mod_lt _ hN
    have hlen : T'.length = T.length := hg.len
    have hat := hg.at_ HB.out (by omega)
    rcases Nat.eq_zero_or_pos gk with hgk | hgk
    · obtain rfl : a = c := by omega
      have c0 := hD.c0
      rw [hlen] at c0
      have s5 := (hD.slot (i := (i0 + a) % T.length) (by omega)).c5
      rw [hat] at s5
      have Hg := Lib.hid hg
      have Hlen := Lib.hid hlen
      clear hg hlen hat
      generalize (i0 + a) % T.length = i at *
      go_wp2_with fail
      go_ret
      exact ⟨rfl, ⟨T', Hg.out, hD⟩, hF⟩
    · have hlt : a < c := by omega
      have hstep := hg.step HB.out ha1 hlt
      have hmem := hkeys _ (DelSt.mem hg HB.out hT (j := (i0 + a) % T.length) (by rw [hat]; simp [hlt]))
      simp only at hmem
      rw [show decide (a < c) = true by simp [hlt]] at hat
      have c0 := hD.c0
      rw [hlen] at c0
      have hil3 : (i0 + a) % T.length < T'.length := by omega
      obtain ⟨s0, s1, s2, s3, s4, s5⟩ := hD.slot hil3
      rw [hat] at s5
      have hsz := hD.store hil3 Slot.zero
      have hFz := Frm.store (F := fun b => b = d ∨ b = S) hF (fun _ => Or.inr rfl) ((i0 + a) % T.length) Slot.zero
      have hnxt := HN1.out
      have hes : tat T' ((i0 + a) % T.length) = ⟨(tat T' ((i0 + a) % T.length)).key, (tat T' ((i0 + a) % T.length)).loc, true⟩ := by
        generalize tat T' ((i0 + a) % T.length) = s at *
        cases s; simp only at hat; subst hat; rfl
      have hne2 : ((i0 + a) % T.length + 1) % T.length = (i0 + (a + 1)) % T.length := by rw [Nat.mod_add_mod, Nat.add_assoc]
      have HNe := Lib.hid hne2
      clear hg hne2 hnxt hat
      generalize hT2 : T'.set ((i0 + a) % T.length) Slot.zero = T2 at *
      have hT2l : T2.length = T.length := by rw [← hT2, List.length_set]; exact hlen
      have hE2 : ∃ e, e < T2.length ∧ (tat T2 e).is = false := ⟨(i0 + a) % T.length, by omega, by rw [← hT2, tat_set _ _ _ _ hil3, if_pos rfl]; rfl⟩
      have HFi := Lib.hid (fun W (hW : DirW W d S T2 m1) => kd_find (tat T' ((i0 + a) % T.length)).key hmem W d S T2 m1 hW (HTN.out T2 hT2l) hE2)
      obtain ⟨hpl, hst⟩ := hstep
      have Hst := Lib.hid hst
      have HT2l := Lib.hid hT2l
      have Hlen := Lib.hid hlen
      have fS := hD.fS
      have hdl := lt_of_block hD.hd
      have hSl := lt_of_block hD.hs
      clear hst hT2l hlen hT2 hE2 hmem
      generalize tat T' ((i0 + a) % T.length) = s at *
      obtain ⟨key, l, b⟩ := s
      simp only [Slot.mk.injEq, true_and] at hes
      subst hes
      simp only at *
      generalize findT T2 key = pp at *
      generalize hi : (i0 + a) % T.length = i at *
      have Hi := Lib.hid hi
      clear hi
      go_wp2_with fail
      have hDA : DirW (((((((wr.setCell ⟨S, i * 6, none⟩ (.string ⟨#[]⟩)).setCell ⟨S, i * 6 + 1, none⟩ (.int .i64 0)).setCell ⟨S, i * 6 + 2, none⟩ (.int .i64 0)).setCell ⟨S, i * 6 + 3, none⟩ (.int .i64 0)).setCell ⟨S, i * 6 + 4, none⟩ (.int .u64 0)).setCell ⟨S, i * 6 + 5, none⟩ (.bool false)).alloc (.cells #[.string (bs key), .int .i64 l.seg, .int .i64 l.off, .int .i64 l.len, .int .u64 l.seq, .bool true] 48)) d S T2 m1 := DirW.below hsz ((Below.refl _ _).alloc (Nat.le_refl _) _)
      have hFA : Frm (fun b => b = d ∨ b = S) w (((((((wr.setCell ⟨S, i * 6, none⟩ (.string ⟨#[]⟩)).setCell ⟨S, i * 6 + 1, none⟩ (.int .i64 0)).setCell ⟨S, i * 6 + 2, none⟩ (.int .i64 0)).setCell ⟨S, i * 6 + 3, none⟩ (.int .i64 0)).setCell ⟨S, i * 6 + 4, none⟩ (.int .u64 0)).setCell ⟨S, i * 6 + 5, none⟩ (.bool false)).alloc (.cells #[.string (bs key), .int .i64 l.seg, .int .i64 l.off, .int .i64 l.len, .int .u64 l.seq, .bool true] 48)) := Frm.alloc hFz _
      have hbx := Box6.new (w := ((((((wr.setCell ⟨S, i * 6, none⟩ (.string ⟨#[]⟩)).setCell ⟨S, i * 6 + 1, none⟩ (.int .i64 0)).setCell ⟨S, i * 6 + 2, none⟩ (.int .i64 0)).setCell ⟨S, i * 6 + 3, none⟩ (.int .i64 0)).setCell ⟨S, i * 6 + 4, none⟩ (.int .u64 0)).setCell ⟨S, i * 6 + 5, none⟩ (.bool false))) (t := 48) (s := ⟨key, l, true⟩) (Below.refl _ _)
      rw [show (((((((wr.setCell ⟨S, i * 6, none⟩ (.string ⟨#[]⟩)).setCell ⟨S, i * 6 + 1, none⟩ (.int .i64 0)).setCell ⟨S, i * 6 + 2, none⟩ (.int .i64 0)).setCell ⟨S, i * 6 + 3, none⟩ (.int .i64 0)).setCell ⟨S, i * 6 + 4, none⟩ (.int .u64 0)).setCell ⟨S, i * 6 + 5, none⟩ (.bool false))).heap.size = wr.heap.size by simp] at hbx
      unfold Slot.vals at hbx
      clear hsz hFz c0 s0 s1 s2 s3 s4 s5 fS
      generalize (((((((wr.setCell ⟨S, i * 6, none⟩ (.string ⟨#[]⟩)).setCell ⟨S, i * 6 + 1, none⟩ (.int .i64 0)).setCell ⟨S, i * 6 + 2, none⟩ (.int .i64 0)).setCell ⟨S, i * 6 + 3, none⟩ (.int .i64 0)).setCell ⟨S, i * 6 + 4, none⟩ (.int .u64 0)).setCell ⟨S, i * 6 + 5, none⟩ (.bool false)).alloc (.cells #[.string (bs key), .int .i64 l.seg, .int .i64 l.off, .int .i64 l.len, .int .u64 l.seq, .bool true] 48)) = wB at *
      obtain ⟨b0, b1, b2, b3, b4, b5⟩ := hbx
      have c0 := hDA.c0
      rw [HT2l.out] at c0
      have e0 := Amid.cell c0
      have e1 := Amid.cell b0; have e2 := Amid.cell b1; have e3 := Amid.cell b2; have e4 := Amid.cell b3; have e5 := Amid.cell b4; have e6 := Amid.cell b5
      have HDA := Lib.hid hDA
      clear b0 b1 b2 b3 b4 b5 c0 hDA
      refine wp_amid_tail 10 (by kernel_rfl) (by kernel_rfl) ?_
      simp only [List.take_succ_cons, List.take_zero, List.drop_succ_cons, List.drop_zero]
      repeat (quiet_step ((go_at_call 14; exact Amid.call (HFi.out _ (HDA.out.below (Amid.h _))))))
      refine wpQuiet_nil ?_
      rintro _ ⟨p, rfl⟩
      have hP := HDA.out.below p.h
      have hpl2 : pp < T2.length := by rw [HT2l.out]; exact hpl
      have fs := hP.fS
      obtain ⟨t0, t1, t2, t3, t4, t5⟩ := hP.slot hpl2
      have hPs := hP.store hpl2 ⟨key, l, true⟩
      have hFs := Frm.store (F := fun b => b = d ∨ b = S) (hFA.then_below p.h) (fun _ => Or.inr rfl) pp ⟨key, l, true⟩
      have hnx := HN1.out _ _ hPs (by rw [List.length_set]; exact HT2l.out) i hil2
      rw [HNe.out] at hnx
      simp only at hnx
      have Hnx := Lib.hid hnx
      clear hnx
      go_wp2_with (go_at_call 15; refine Hnx.out.mono ?_; rintro e w5 ⟨rfl, rfl⟩)
      go_roundg (gk - 1)
      case rel => exact ⟨a + 1, _, by omega, by omega, rfl, Hst.out, hPs, hFs⟩
      case measure => omega

theorem kd_del_no (k : List UInt8) (hk : k.length ≤ 140737488351232) (w : World) (d S : Nat) (T : List Slot) (M : List Ent) (h : DirW w d S T M.length) (hT : TabOf T M) (hle : T.length ≤ 1073741824)
    (hi : (tat T (findT T k)).is = false) :
    Calls Try.prog 7 #[.pointer (some ⟨d, 0, none⟩), .string (bs k)] w fun e w' => e = .returned (.bool false) ∧ Below w.heap.size w w' := by
  have hTN := TabOf.n hT hle
  have HF := Lib.hid (fun W (hW : DirW W d S T M.length) => kd_find k hk W d S T M.length hW hTN hT.empty)
  have hil : findT T k < T.length := let ⟨e, he, hs⟩ := hT.empty; (find_stop he hs k).1
  generalize findT T k = i at *
  go_enter Try.func7, Try.ntmps7
  go_wp2_with (first
    | (go_at_call 14; refine (HF.out _ h).mono ?_; rintro e w1 ⟨rfl, hb⟩; have hD := h.below hb; have c0 := hD.c0; have s5 := (hD.slot hil).c5; rw [hi] at s5))
  go_ret
  exact ⟨rfl, hb⟩

theorem kd_Delete (k : List UInt8) (hk : k.length ≤ 140737488351232) (w : World) (d S N : Nat) (M : List Ent) (h : DirAt w d S M N) (hN : N ≤ 1073741824) :
    Calls Try.prog 7 #[.pointer (some ⟨d, 0, none⟩), .string (bs k)] w fun e w' => e = .returned (.bool (getM k M).isSome) ∧ DirAt w' d S (delM k M) N ∧ Frm (fun b => b = d ∨ b = S) w w' := by
  obtain ⟨T, hD, hT, rfl, hkeys⟩ := h
  rcases hT.look k with ⟨h1, h2⟩ | ⟨l', h1, h2⟩
  · refine (kd_del_no k hk w d S T M hD hT hN (by rw [h2]; rfl)).mono ?_
    rintro e w' ⟨rfl, hb⟩
    rw [h1, delM_none h1]
    exact ⟨rfl, ⟨T, hD.below hb, hT, rfl, hkeys⟩, Frm.of_below hb⟩
  · have hi : (tat T (findT T k)).is = true := by rw [h2]
    obtain ⟨c, hB⟩ := DelB.start hT hi
    have hp := ents_empty T _ hB.lt hB.is Slot.zero rfl
    have hl := hp.length_eq
    have hl2 := hT.perm.length_eq
    simp only [List.length_cons] at hl
    refine (kd_del_yes k hk w d S T M ((ents (T.set (findT T k) Slot.zero)).length) (by omega) hD hT hN hkeys hi c hB).mono ?_
    rintro e w' ⟨rfl, ⟨T', g1, g2⟩, g3⟩
    have ht := g1.tab hB hT (by rw [h2])
    have hl3 := ht.perm.length_eq
    have hl4 := g1.perm.length_eq
    rw [h1]
    exact ⟨rfl, ⟨T', by rw [← hl3, hl4]; exact g2, ht, g1.len, fun x hx => hkeys x ((List.mem_filter.1 hx).1)⟩, g3⟩
end Go.Proofs.Ytdllmflhgbponaa
