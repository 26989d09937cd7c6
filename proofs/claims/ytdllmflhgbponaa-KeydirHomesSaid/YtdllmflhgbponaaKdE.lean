/- keydir: Get, Delete -/
import Derived.Test.YtdllmflhgbponaaKdQ
import Derived.Test.YtdllmflhgbponaaCalm
import Derived.RegionTactic
namespace Go.Proofs.Ytdllmflhgbponaa
open Go Go.RowKit Go.Thw

/-- a box of a slot's own, as a block -/
structure Box6S (w : World) (b : Nat) (s : Slot) : Prop where
  h : w.heap[b]? = some (.cells s.vals.toArray 48 (0, 0))
theorem Box6S.of {w : World} {b : Nat} (h : w.heap[b]? = some (.cells #[.string (bs []), .int .i64 0, .int .i64 0, .int .i64 0, .int .u64 0, .bool false] 48 (0, 0))) : Box6S w b Slot.zero := ⟨h⟩
theorem Box6S.cells {w : World} {b : Nat} {s : Slot} (h : Box6S w b s) : Box6 w b s :=
  ⟨cell_of_row w b 0 _ _ _ h.h, cell_of_row w b 1 _ _ _ h.h, cell_of_row w b 2 _ _ _ h.h, cell_of_row w b 3 _ _ _ h.h, cell_of_row w b 4 _ _ _ h.h, cell_of_row w b 5 _ _ _ h.h⟩
theorem Box6S.frz {w : World} {b : Nat} {s : Slot} (h : Box6S w b s) (i : Nat) : w.frozen? ⟨b, i, none⟩ = false := frozen_of_row w _ i _ _ h.h
theorem Box6S.store {w : World} {b : Nat} {s0 : Slot} (h : Box6S w b s0) (s : Slot) :
    Box6S ((((((w.setCell ⟨b, 0, none⟩ (.string (bs s.key))).setCell ⟨b, 1, none⟩ (.int .i64 s.loc.seg)).setCell ⟨b, 2, none⟩ (.int .i64 s.loc.off)).setCell ⟨b, 3, none⟩ (.int .i64 s.loc.len)).setCell
      ⟨b, 4, none⟩ (.int .u64 s.loc.seq)).setCell ⟨b, 5, none⟩ (.bool s.is)) b s := by
  refine ⟨?_⟩
  rw [heap_set_cell (heap_set_cell (heap_set_cell (heap_set_cell (heap_set_cell (heap_set_cell h.h)))))]
  rfl
theorem blk_set6 {w : World} {B c : Nat} {o : Obj} (s : Slot) (hne : c ≠ B) (h : w.heap[c]? = some o) :
    ((((((w.setCell ⟨B, 0, none⟩ (.string (bs s.key))).setCell ⟨B, 1, none⟩ (.int .i64 s.loc.seg)).setCell ⟨B, 2, none⟩ (.int .i64 s.loc.off)).setCell ⟨B, 3, none⟩ (.int .i64 s.loc.len)).setCell
      ⟨B, 4, none⟩ (.int .u64 s.loc.seq)).setCell ⟨B, 5, none⟩ (.bool s.is)).heap[c]? = some o := by
  repeat rw [Below.heap_setCell _ _ _ _ (by exact hne)]
  exact h
theorem Frm.box6 {F : Nat → Prop} {w w' : World} (h : Frm F w w') (B : Nat) (s : Slot) (hB : B < w.heap.size → F B) :
    Frm F w ((((((w'.setCell ⟨B, 0, none⟩ (.string (bs s.key))).setCell ⟨B, 1, none⟩ (.int .i64 s.loc.seg)).setCell ⟨B, 2, none⟩ (.int .i64 s.loc.off)).setCell ⟨B, 3, none⟩ (.int .i64 s.loc.len)).setCell
      ⟨B, 4, none⟩ (.int .u64 s.loc.seq)).setCell ⟨B, 5, none⟩ (.bool s.is)) :=
  (((((h.set _ _ hB).set _ _ hB).set _ _ hB).set _ _ hB).set _ _ hB).set _ _ hB

def GetV (o : Option LocD) : Value := .tuple #[.agg #[.int .i64 (o.getD LocD.zero).seg, .int .i64 (o.getD LocD.zero).off, .int .i64 (o.getD LocD.zero).len, .int .u64 (o.getD LocD.zero).seq], .bool o.isSome]

set_option maxRecDepth 20000 in
set_option maxHeartbeats 1600000 in
theorem kd_Get (k : List UInt8) (hk : k.length ≤ 140737488351232) (w : World) (d S N : Nat) (M : List Ent) (h : DirAt w d S M N) (hN : N ≤ 1073741824) :
    Calls Try.prog 12 #[.pointer (some ⟨d, 0, none⟩), .string (bs k)] w fun e w' => e = .returned (GetV (getM k M)) ∧ Below w.heap.size w w' := by
  obtain ⟨T, hD, hT, rfl, hkeys⟩ := h
  have hTN := TabOf.n hT hN
  obtain ⟨e0, he0, hs0⟩ := hT.empty
  have hil := (find_stop he0 hs0 k).1
  have hs : ∃ b, tat T (findT T k) = ⟨(tat T (findT T k)).key, (getM k M).getD LocD.zero, b⟩ ∧ b = (getM k M).isSome := by
    rcases hT.look k with ⟨h1, h2⟩ | ⟨l', h1, h2⟩
    · exact ⟨false, by rw [h2, h1]; rfl, by rw [h1]; rfl⟩
    · exact ⟨true, by rw [h2, h1]; rfl, by rw [h1]; rfl⟩
  obtain ⟨b, hs, hb⟩ := hs
  have HF := Lib.hid (fun W (hW : DirW W d S T M.length) => kd_find k hk W d S T M.length hW hTN hT.empty)
  unfold GetV
  rw [← hb]
  generalize (getM k M).getD LocD.zero = l at *
  generalize findT T k = i at *
  generalize (tat T i).key = key at hs
  clear hs0 he0 hb hTN
  go_enter Try.func12, Try.ntmps12
  go_wp2_with fail
  have hbA := (Below.refl w.heap.size w).alloc (Nat.le_refl _) (.cells #[.int .i64 0, .int .i64 0, .int .i64 0, .int .u64 0] 29)
  have hDA := hD.below hbA
  have c0 := hDA.c0
  obtain ⟨s0, s1, s2, s3, s4, s5⟩ := hDA.slot hil
  rw [hs] at s0 s1 s2 s3 s4 s5
  have HDA := Lib.hid hDA
  have HbA := Lib.hid hbA
  clear hbA hDA hD
  have hsz : w.heap.size < (w.alloc (.cells #[.int .i64 0, .int .i64 0, .int .i64 0, .int .u64 0] 29)).heap.size := by simp
  have hR := heap_alloc_new w (.cells #[.int .i64 0, .int .i64 0, .int .i64 0, .int .u64 0] 29)
  generalize w.alloc (.cells #[.int .i64 0, .int .i64 0, .int .i64 0, .int .u64 0] 29) = wA at *
  simp only at s0 s1 s2 s3 s4 s5
  clear hs
  have hdl := lt_of_block HDA.out.hd
  have hSl := lt_of_block HDA.out.hs
  have e0 := Amid.cell c0; have e1 := Amid.cell s0; have e2 := Amid.cell s1; have e3 := Amid.cell s2; have e4 := Amid.cell s3; have e5 := Amid.cell s4; have e6 := Amid.cell s5
  refine wp_calm_made 9 _ (.cells #[.string (bs []), .int .i64 0, .int .i64 0, .int .i64 0, .int .u64 0, .bool false] 48) (by kernel_rfl) (by kernel_rfl) rfl (fun _ _ => by kernel_rfl) ?_
  simp only [List.take_succ_cons, List.take_zero, List.drop_succ_cons, List.drop_zero]
  repeat (refine wpCalm_step (fun K hK => ?_); go_simp; first | (refine hK _ ?_; clear hK K) | (apply Exists.intro; refine ⟨fun _ => ?_, hK _ ?_⟩; (go_at_call 14; exact HF.out _ (HDA.out.below (Amid.h _))); clear hK K))
  refine wpCalm_nil ?_
  intro p b' hb' hob
  have hBS := Box6S.of hob
  obtain ⟨b0, b1, b2, b3, b4, b5⟩ := hBS.cells
  have fb := hBS.frz
  go_wp2_with fail
  have hst := hBS.store ⟨key, l, b⟩
  have hRb := (p.h.block _ hsz).trans hR
  have hRs := blk_set6 (B := b') ⟨key, l, b⟩ (by omega) hRb
  have hFr := Frm.box6 (F := fun _ => False) (w := w) (w' := p.at_) ((Frm.of_below HbA.out).then_below (p.h)) b' ⟨key, l, b⟩ (fun h => by omega)
  simp only at hst hRs hFr
  generalize (((((p.at_.setCell ⟨b', 0, none⟩ (.string (bs key))).setCell ⟨b', 1, none⟩ (.int .i64 l.seg)).setCell ⟨b', 2, none⟩ (.int .i64 l.off)).setCell ⟨b', 3, none⟩ (.int .i64 l.len)).setCell ⟨b', 4, none⟩ (.int .u64 l.seq)).setCell ⟨b', 5, none⟩ (.bool b) = w2 at *
  obtain ⟨t0, t1, t2, t3, t4, t5⟩ := hst.cells
  have r0 := cell_of_row w2 _ 0 _ _ _ hRs
  have r1 := cell_of_row w2 _ 1 _ _ _ hRs
  have r2 := cell_of_row w2 _ 2 _ _ _ hRs
  have r3 := cell_of_row w2 _ 3 _ _ _ hRs
  have fr : ∀ i, w2.frozen? ⟨w.heap.size, i, none⟩ = false := fun i => frozen_of_row w2 _ i _ _ hRs
  have HRs := Lib.hid hRs
  have hne : b' ≠ w.heap.size := by omega
  clear hRs e0 e1 e2 e3 e4 e5 e6 b0 b1 b2 b3 b4 b5 fb hRb hob hBS c0 s0 s1 s2 s3 s4 s5 hst
  go_region
  all_goals
    go_wp2_with fail
    have h3 := heap_set_cell (off := 3) (v := .int .u64 l.seq) (heap_set_cell (off := 2) (v := .int .i64 l.len) (heap_set_cell (off := 1) (v := .int .i64 l.off) (heap_set_cell (off := 0) (v := .int .i64 l.seg) HRs.out)))
    have hF3 := ((((hFr.below (Nat.le_refl _) (fun _ _ h => h)).setCell (p := ⟨w.heap.size, 0, none⟩) (Nat.le_refl _) (.int .i64 l.seg)).setCell (p := ⟨w.heap.size, 1, none⟩) (Nat.le_refl _) (.int .i64 l.off)).setCell (p := ⟨w.heap.size, 2, none⟩) (Nat.le_refl _) (.int .i64 l.len)).setCell (p := ⟨w.heap.size, 3, none⟩) (Nat.le_refl _) (.int .u64 l.seq)
    clear r0 r1 r2 r3 fr t0 t1 t2 t3 t4 t5
    generalize (((w2.setCell ⟨w.heap.size, 0, none⟩ (.int .i64 l.seg)).setCell ⟨w.heap.size, 1, none⟩ (.int .i64 l.off)).setCell ⟨w.heap.size, 2, none⟩ (.int .i64 l.len)).setCell ⟨w.heap.size, 3, none⟩ (.int .u64 l.seq) = w3 at *
    have a0 := cell_of_row w3 _ 0 _ _ _ h3
    have a1 := cell_of_row w3 _ 1 _ _ _ h3
    have a2 := cell_of_row w3 _ 2 _ _ _ h3
    have a3 := cell_of_row w3 _ 3 _ _ _ h3
    simp at a0 a1 a2 a3
    exact bodyPost_ret (v := .tuple #[.agg #[.int .i64 l.seg, .int .i64 l.off, .int .i64 l.len, .int .u64 l.seq], .bool b]) (by simp [results, Try.results12, go_sem, a0, a1, a2, a3]) rfl ⟨rfl, hF3.drew⟩
end Go.Proofs.Ytdllmflhgbponaa
