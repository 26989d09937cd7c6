/- keydir: Put, Get, Len, Cap, New, Far -/
import Derived.Test.YtdllmflhgbponaaKdW
import Derived.Test.YtdllmflhgbponaaFrm
import Derived.BigRegion
namespace Go.Proofs.Ytdllmflhgbponaa
open Go Go.RowKit Go.Thw

theorem TabOf.n {T : List Slot} {M : List Ent} (h : TabOf T M) (hle : T.length ≤ 1073741824) : TabN T := by
  obtain ⟨m, hm⟩ := h.pow
  refine ⟨⟨m, ?_, hm⟩, by have := h.eight; omega, hle⟩
  refine Nat.lt_of_not_le fun h60 => ?_
  have h1 : 2 ^ 60 ≤ 2 ^ m := Nat.pow_le_pow_right (by omega) h60
  have h3 : (2 : Nat) ^ 60 = 1152921504606846976 := by decide
  omega

theorem flatS_set (T : List Slot) (i : Nat) (h : i < T.length) (s : Slot) :
    ((((((flatS T).set (i * 6) (.string (bs s.key))).set (i * 6 + 1) (.int .i64 s.loc.seg)).set (i * 6 + 2) (.int .i64 s.loc.off)).set (i * 6 + 3) (.int .i64 s.loc.len)).set (i * 6 + 4) (.int .u64 s.loc.seq)).set (i * 6 + 5) (.bool s.is) = flatS (T.set i s) := by
  induction T generalizing i with
  | nil => simp at h
  | cons x r ih =>
    rcases i with _ | i
    · simp [flatS, Slot.vals]
    · have := ih i (by simpa using h)
      have e : ∀ (j : Nat) (v : Value) (l : List Value), (x.vals ++ l).set ((i + 1) * 6 + j) v = x.vals ++ l.set (i * 6 + j) v := fun j v l => by
        rw [List.set_append_right _ _ (by simp [Slot.vals]; omega)]
        congr 2; simp [Slot.vals]; omega
      show ((((((x.vals ++ flatS r).set ((i + 1) * 6 + 0) _).set _ _).set _ _).set _ _).set _ _).set _ _ = x.vals ++ flatS (r.set i s)
      rw [e, e, e, e, e, e, ← this]
      rfl
section
variable {w w' : World} {d S : Nat} {T : List Slot} {many : Nat}
theorem DirW.ne (h : DirW w d S T many) : d ≠ S := fun e => by
  subst e
  have := h.hd.symm.trans h.hs
  simp at this
theorem DirW.frm {F : Nat → Prop} (h : DirW w d S T many) (hf : Frm F w w') (h1 : ¬ F d) (h2 : ¬ F S) : DirW w' d S T many := ⟨hf.blk h.hd h1, hf.blk h.hs h2⟩
theorem DirW.store (h : DirW w d S T many) {i : Nat} (hi : i < T.length) (s : Slot) :
    DirW ((((((w.setCell ⟨S, i * 6, none⟩ (.string (bs s.key))).setCell ⟨S, i * 6 + 1, none⟩ (.int .i64 s.loc.seg)).setCell ⟨S, i * 6 + 2, none⟩ (.int .i64 s.loc.off)).setCell ⟨S, i * 6 + 3, none⟩ (.int .i64 s.loc.len)).setCell
      ⟨S, i * 6 + 4, none⟩ (.int .u64 s.loc.seq)).setCell ⟨S, i * 6 + 5, none⟩ (.bool s.is)) d S (T.set i s) many := by
  refine ⟨?_, ?_⟩
  · rw [List.length_set]
    have hne := h.ne
    repeat rw [Below.heap_setCell _ _ _ _ (by exact hne)]
    exact h.hd
  · have := heap_set_cell (off := i * 6 + 5) (v := .bool s.is) (heap_set_cell (off := i * 6 + 4) (v := .int .u64 s.loc.seq) (heap_set_cell (off := i * 6 + 3) (v := .int .i64 s.loc.len) (heap_set_cell (off := i * 6 + 2) (v := .int .i64 s.loc.off)
      (heap_set_cell (off := i * 6 + 1) (v := .int .i64 s.loc.seg) (heap_set_cell (off := i * 6) (v := .string (bs s.key)) h.hs)))))
    rw [this, ← flatS_set T i hi s]
    simp only [List.setIfInBounds_toArray]
theorem Frm.store {F : Nat → Prop} (h : Frm F w w') (hS : S < w.heap.size → F S) (i : Nat) (s : Slot) :
    Frm F w ((((((w'.setCell ⟨S, i * 6, none⟩ (.string (bs s.key))).setCell ⟨S, i * 6 + 1, none⟩ (.int .i64 s.loc.seg)).setCell ⟨S, i * 6 + 2, none⟩ (.int .i64 s.loc.off)).setCell ⟨S, i * 6 + 3, none⟩ (.int .i64 s.loc.len)).setCell
      ⟨S, i * 6 + 4, none⟩ (.int .u64 s.loc.seq)).setCell ⟨S, i * 6 + 5, none⟩ (.bool s.is)) :=
  (((((h.set _ _ hS).set _ _ hS).set _ _ hS).set _ _ hS).set _ _ hS).set _ _ hS
theorem DirW.setMany (h : DirW w d S T many) (n : Nat) : DirW (w.setCell ⟨d, 1, none⟩ (.int .i64 n)) d S T n := by
  refine ⟨?_, ?_⟩
  · rw [heap_set_cell h.hd]; rfl
  · rw [Below.heap_setCell _ _ _ _ (by exact fun e => h.ne e.symm)]; exact h.hs
end

set_option maxRecDepth 20000 in
set_option maxHeartbeats 800000 in
theorem kd_put_over (k : List UInt8) (l : LocD) (hk : k.length ≤ 140737488351232) (w : World) (d S : Nat) (T : List Slot) (M : List Ent) (h : DirW w d S T M.length) (hT : TabOf T M) (hle : T.length ≤ 1073741824)
    (hi : (tat T (findT T k)).is = true) :
    Calls Try.prog 8 #[.pointer (some ⟨d, 0, none⟩), .string (bs k), .agg #[.int .i64 l.seg, .int .i64 l.off, .int .i64 l.len, .int .u64 l.seq]] w fun e w' => e = .returned (.tuple #[]) ∧ DirW w' d S (T.set (findT T k) ⟨k, l, true⟩) M.length ∧ Frm (fun b => b = S) w w' := by
  have HF := Lib.hid (fun W (hW : DirW W d S T M.length) => kd_find k hk W d S T M.length hW (TabOf.n hT hle) hT.empty)
  have hil := tat_is_lt hi
  have hb0 := (Below.refl _ w).alloc (Nat.le_refl _) (.cells #[.int .i64 l.seg, .int .i64 l.off, .int .i64 l.len, .int .u64 l.seq] 29)
  generalize findT T k = i at *
  go_enter Try.func8, Try.ntmps8
  go_wp2_with (go_at_call 14; refine (HF.out _ (h.below hb0)).mono ?_; rintro e w1 ⟨rfl, hb⟩; have hD := (h.below hb0).below hb; have c0 := hD.c0; have s5 := (hD.slot hil).c5; rw [hi] at s5)
  have e0 := Amid.cell c0
  have b0 := Amid.cell (keep_cell hb (World.cell?_alloc_new w #[.int .i64 l.seg, .int .i64 l.off, .int .i64 l.len, .int .u64 l.seq] 29 0))
  have b1 := Amid.cell (keep_cell hb (World.cell?_alloc_new w #[.int .i64 l.seg, .int .i64 l.off, .int .i64 l.len, .int .u64 l.seq] 29 1))
  have b2 := Amid.cell (keep_cell hb (World.cell?_alloc_new w #[.int .i64 l.seg, .int .i64 l.off, .int .i64 l.len, .int .u64 l.seq] 29 2))
  have b3 := Amid.cell (keep_cell hb (World.cell?_alloc_new w #[.int .i64 l.seg, .int .i64 l.off, .int .i64 l.len, .int .u64 l.seq] 29 3))
  refine wp_amid_tail 9 (by kernel_rfl) (by kernel_rfl) ?_
  simp only [List.take_succ_cons, List.take_zero, List.drop_succ_cons, List.drop_zero]
  repeat (quiet_step (fail))
  refine wpQuiet_nil ?_
  rintro _ ⟨p, rfl⟩
  have hP := hD.below p.h
  have fs := hP.fS
  obtain ⟨s0, s1, s2, s3, s4, s5'⟩ := hP.slot hil
  go_wp2_with fail
  go_end0
  exact ⟨rfl, hP.store hil ⟨k, l, true⟩, Frm.store (F := fun b => b = S) (((Frm.of_below hb0).then_below hb).then_below p.h) (fun _ => rfl) i ⟨k, l, true⟩⟩

set_option maxRecDepth 20000 in
set_option maxHeartbeats 800000 in
theorem kd_put_room (k : List UInt8) (l : LocD) (hk : k.length ≤ 140737488351232) (w : World) (d S : Nat) (T : List Slot) (M : List Ent) (h : DirW w d S T M.length) (hT : TabOf T M) (hle : T.length ≤ 1073741824)
    (hi : (tat T (findT T k)).is = false) (hr : 2 * (M.length + 1) ≤ T.length) :
    Calls Try.prog 8 #[.pointer (some ⟨d, 0, none⟩), .string (bs k), .agg #[.int .i64 l.seg, .int .i64 l.off, .int .i64 l.len, .int .u64 l.seq]] w fun e w' => e = .returned (.tuple #[]) ∧ DirW w' d S (T.set (findT T k) ⟨k, l, true⟩) (M.length + 1) ∧ Frm (fun b => b = d ∨ b = S) w w' := by
  have HF := Lib.hid (fun W (hW : DirW W d S T M.length) => kd_find k hk W d S T M.length hW (TabOf.n hT hle) hT.empty)
  have hil : findT T k < T.length := let ⟨e, he, hs⟩ := hT.empty; (find_stop he hs k).1
  have hb0 := (Below.refl _ w).alloc (Nat.le_refl _) (.cells #[.int .i64 l.seg, .int .i64 l.off, .int .i64 l.len, .int .u64 l.seq] 29)
  have q1 : decide ((T.length : Int) < 2 * ((M.length : Int) + 1)) = false := by simp; omega
  generalize findT T k = i at *
  go_enter Try.func8, Try.ntmps8
  go_wp2_with (go_at_call 14; refine (HF.out _ (h.below hb0)).mono ?_; rintro e w1 ⟨rfl, hb⟩; have hD := (h.below hb0).below hb; have c0 := hD.c0; have c1 := hD.c1; have f1 := hD.f1; have s5 := (hD.slot hil).c5; rw [hi] at s5)
  have hD2 := hD.setMany (M.length + 1)
  rw [show ((M.length + 1 : Nat) : Int) = (M.length : Int) + 1 from rfl] at hD2
  have B : ∀ j, j < 4 → (w1.setCell ⟨d, 1, none⟩ (.int .i64 ((M.length : Int) + 1))).cell? ⟨w.heap.size, j, none⟩ = #[Value.int .i64 l.seg, .int .i64 l.off, .int .i64 l.len, .int .u64 l.seq][j]? := fun j hj => by
    refine (cell_set_off (by intro e; have := lt_of_block h.hd; simp at e; omega)).trans ?_
    exact keep_cell hb (World.cell?_alloc_new w _ 29 j) (by simp; omega)
  have hF2 : Frm (fun b => b = d ∨ b = S) w (w1.setCell ⟨d, 1, none⟩ (.int .i64 ((M.length : Int) + 1))) := ((Frm.of_below hb0).then_below hb).set _ _ (fun _ => Or.inl rfl)
  generalize w1.setCell ⟨d, 1, none⟩ (.int .i64 ((M.length : Int) + 1)) = w2 at *
  have d0 := hD2.c0
  have d1 := hD2.c1
  rw [show ((M.length + 1 : Nat) : Int) = (M.length : Int) + 1 from rfl] at d1
  clear c0 c1 f1 s5 hD hb
  go_quiet (fail)
  go_wp2_with fail
  have e0 := Amid.cell (w := w2.drewN nq) d0
  have b0 := Amid.cell (w := w2.drewN nq) (B 0 (by omega))
  have b1 := Amid.cell (w := w2.drewN nq) (B 1 (by omega))
  have b2 := Amid.cell (w := w2.drewN nq) (B 2 (by omega))
  have b3 := Amid.cell (w := w2.drewN nq) (B 3 (by omega))
  refine wp_amid_tail 9 (by kernel_rfl) (by kernel_rfl) ?_
  simp only [List.take_succ_cons, List.take_zero, List.drop_succ_cons, List.drop_zero]
  repeat (quiet_step (fail))
  refine wpQuiet_nil ?_
  rintro _ ⟨p, rfl⟩
  have hp0 : Below w2.heap.size w2 p.at_ := (below_drewN (Below.refl _ _) nq).trans p.h
  have hP := hD2.below hp0
  have fs := hP.fS
  obtain ⟨s0, s1, s2, s3, s4, s5'⟩ := hP.slot hil
  go_wp2_with fail
  go_end0
  exact ⟨rfl, hP.store hil ⟨k, l, true⟩, Frm.store (F := fun b => b = d ∨ b = S) (hF2.then_below hp0) (fun _ => Or.inr rfl) i ⟨k, l, true⟩⟩
end Go.Proofs.Ytdllmflhgbponaa
