/- thwartlaw12.to -/
import Derived.Test.YtllaflgcladgoaaDoorReadW
import Derived.Deep.RegionHeld3
import Derived.Deep.AppendLies
import Derived.Deep.DeepCutAuto
namespace Go.Proofs.YtllaflgcladgoaaDoor
open Go Go.RowKit Go.Thw

structure ToW (w : World) (v : Int) (av sv : Value) (ys : List SegD) (wr : World) : Prop where
  hB : wr.heap[w.heap.size]? = some (.cells #[.int .i64 v, av] 24 (0, 0))
  hR : wr.heap[w.heap.size + 1]? = some (.cells #[.int .i64 0, .slice none 0 0] 32 (0, 0))
  hO : wr.heap[w.heap.size + 2]? = some (.cells #[.int .i64 v, sv] 32 (0, 0))
  own : wr.ownsRow (w.heap.size + 3) 48 3 sv ys.length (ys.flatMap SegD.vals)
  bel : Below w.heap.size w wr
section
variable {w : World} {v : Int} {av sv : Value} {ys : List SegD} {wr : World}
theorem ToW.start : ToW w v av (.slice none 0 0) [] (((w.alloc (.cells #[.int .i64 v, av] 24)).alloc (.cells #[.int .i64 0, .slice none 0 0] 32)).alloc (.cells #[.int .i64 v, .slice none 0 0] 32)) := by
  have hs1 : (w.alloc (.cells #[.int .i64 v, av] 24)).heap.size = w.heap.size + 1 := by simp
  have hs2 : ((w.alloc (.cells #[.int .i64 v, av] 24)).alloc (.cells #[.int .i64 0, .slice none 0 0] 32)).heap.size = w.heap.size + 2 := by simp
  refine ⟨?_, ?_, ?_, World.ownsRow_nil _ _ _ _, (((Below.refl _ w).alloc (Nat.le_refl _) _).alloc (by simp) _).alloc (by simp; omega) _⟩
  · rw [Below.heap_alloc _ _ _ (by omega), Below.heap_alloc _ _ _ (by omega)]; exact heap_alloc_new w _
  · rw [Below.heap_alloc _ _ _ (by omega), ← hs1]; exact heap_alloc_new _ _
  · rw [← hs2]; exact heap_alloc_new _ _
theorem ToW.app (h : ToW w v av sv ys wr) {w1 : World} {v' : Value} {ys' : List SegD} (ho : w1.ownsRow (w.heap.size + 3) 48 3 v' ys'.length (ys'.flatMap SegD.vals)) (hg : wr.grownBy w1 sv.ownBlock) :
    ToW w v av v' ys' (w1.setCell ⟨w.heap.size + 2, 1, none⟩ v') ∧ w1.cell? ⟨w.heap.size + 2, 1, none⟩ = some sv ∧ w1.frozen? ⟨w.heap.size + 2, 1, none⟩ = false := by
  have hlt := lt_of_block h.hO
  have hne : ∀ k, k < w.heap.size + 3 → some k ≠ sv.ownBlock := fun k hk e => by have := (h.own.lt k e.symm).1; omega
  have b0 := (hg.block w.heap.size (by omega) (hne _ (by omega))).trans h.hB
  have b1 := (hg.block (w.heap.size + 1) (by omega) (hne _ (by omega))).trans h.hR
  have b2 := (hg.block (w.heap.size + 2) (by omega) (hne _ (by omega))).trans h.hO
  refine ⟨⟨?_, ?_, (heap_set_two b2).2, ownsRow_setCell_below ho (by simp) _, (h.bel.grown hg (by omega) (fun k hk => by have := (h.own.lt k hk).1; omega)).setCell (by simp) _⟩, cell_of_row w1 _ 1 _ _ _ b2, frozen_of_row w1 _ 1 _ _ b2⟩
  · rw [Below.heap_setCell _ _ _ _ (by simp)]; exact b0
  · rw [Below.heap_setCell _ _ _ _ (by simp)]; exact b1
theorem ToW.below {w1 : World} (h : ToW w v av sv ys wr) (hb : Below wr.heap.size wr w1) : ToW w v av sv ys w1 := by
  refine ⟨(hb.block _ (lt_of_block h.hB)).trans h.hB, (hb.block _ (lt_of_block h.hR)).trans h.hR, (hb.block _ (lt_of_block h.hO)).trans h.hO, ?_, h.bel.trans (hb.mono h.bel.size)⟩
  obtain ⟨h1, h2⟩ := h.own
  refine ⟨h1, ?_⟩
  rcases h2 with h2 | ⟨g, cap, cur, hv, hg, hh, r⟩
  · exact Or.inl h2
  · exact Or.inr ⟨g, cap, cur, hv, hg, (hb.block _ (lt_of_block hh)).trans hh, r⟩
theorem ToW.alloc (h : ToW w v av sv ys wr) (o : Obj) : ToW w v av sv ys (wr.alloc o) := h.below ((Below.refl _ _).alloc (Nat.le_refl _) o)
theorem ToW.drew (h : ToW w v av sv ys wr) : ToW w v av sv ys wr.drew := h.below (Below.refl _ _).drew
theorem ToW.form (h : ToW w v av sv ys wr) : ∃ a c, sv = .slice a ys.length c := by
  rcases h.own.2 with ⟨h1, h2⟩ | ⟨g, cap, cur, hv, _⟩
  · rw [h2]; exact ⟨_, _, h1⟩
  · exact ⟨_, _, hv⟩
end
theorem segs_ofOwn {W : World} {base : Nat} {e : TypeId} {a : Option Addr} {c : Nat} {xs : List SegD} (h : W.ownsRow base e 3 (.slice a xs.length c) xs.length (xs.flatMap SegD.vals)) (hf : ∀ s ∈ xs, s.fits) : SegsIn W a xs := by
  refine ⟨fun i hi => ?_, hf⟩
  rcases h.2 with ⟨_, h2⟩ | ⟨g, cap, cur, hv, hg, hh, _⟩
  · omega
  · simp only [Value.slice.injEq] at hv
    obtain ⟨rfl, _, _⟩ := hv
    have hc := h.cells (g := g) rfl
    obtain ⟨f1, f2, f3⟩ := flat_at xs i hi
    have hz : ∀ j, (⟨g, 0, none⟩ : Addr).add j = ⟨g, 0 + j, none⟩ := fun j => by unfold Addr.add; split <;> simp_all
    have q1 := hc _ _ f1
    have q2 := hc _ _ f2
    have q3 := hc _ _ f3
    rw [hz] at q1 q2 q3
    exact ⟨g, 0, rfl, lt_of_block hh, q1, q2, q3⟩

theorem rseg_info : (Tryd.prog.info? 48).map (fun i => (i.zero, i.size, i.bytes)) = some (some (.agg #[.int .i64 0, .int .i64 0, .int .u32 0]), 3, 24) := by kernel_rfl

def ToRel (w : World) (v : Int) (av : Value) (xs : List SegD) (iv : Value) (wr : World) : Prop :=
  ∃ (k : Nat) (sv : Value), iv = .int .i64 k ∧ k ≤ xs.length ∧ ToW w v av sv (xs.take k) wr

set_option maxRecDepth 20000 in
set_option maxHeartbeats 3200000 in
theorem law_to (w : World) (v : Int) (a : Option Addr) (c : Nat) (xs : List SegD) (hn : xs.length ≤ 1000) (ha : SegsIn w a xs) :
    Calls Tryd.prog 10 #[.agg #[.int .i64 v, .slice a xs.length c]] w fun e w' => (∃ a' c', e = .returned (.agg #[.int .i64 v, .slice a' xs.length c']) ∧ SegsIn w' a' xs) ∧ Below w.heap.size w w' := by
  have Ha := Lib.hid ha; clear ha
  go_enter Tryd.func10, Tryd.ntmps10
  go_wp2_with fail
  go_loopw [4] (ToRel w v (.slice a xs.length c) xs) (fun i _ => xs.length - (intOf i).toNat)
  case atStart => exact ⟨0, _, rfl, by omega, by simpa using ToW.start⟩
  case round =>
    obtain ⟨k, sv, rfl, hk, ht⟩ := hrel
    have cB := cell_of_row wr _ 1 _ _ _ ht.hB
    have cO := cell_of_row wr _ 1 _ _ _ ht.hO
    simp only [List.getElem?_toArray, List.getElem?_cons_succ, List.getElem?_cons_zero] at cB cO
    have cO' : wr.cell? ⟨w.heap.size + 1 + 1, 1, none⟩ = some sv := cO
    by_cases h : k < xs.length
    · obtain ⟨b, o, rfl, hlt, e1, e2, e3⟩ := (Ha.out.below ht.bel).at_ k h
      obtain ⟨f1, f2, f3⟩ := Ha.out.fits _ (List.getElem_mem h)
      have htk : (xs.take (k + 1)) = xs.take k ++ [xs[k]] := List.take_succ_eq_append_getElem h
      have Htk := Lib.hid htk; clear htk
      generalize hxk : xs[k] = x at *
      obtain ⟨i0, hi, hz0, hz1, hz2⟩ := info_parts rseg_info
      go_upto_region 5 with (fail)
      have L3 := lt_of_block ht.hO
      have hown := ht.own
      rw [List.length_take, Nat.min_eq_left hk] at hown
      have hbel := ht.bel
      have hlt' : b < w.heap.size := by
        obtain ⟨b2, o2, e, h2, _⟩ := Ha.out.at_ k h
        cases e; exact h2
      have ak : ∀ j, j < w.heap.size + 3 → sv.ownBlock ≠ some j := fun j hj e => by have := (ht.own.lt j e).1; omega
      have Ak := Lib.hid ak; clear ak
      have hk1 : (0 : Int) ≤ (k : Int) := Int.natCast_nonneg _
      have hk2 : (k : Int) < (xs.length : Int) := by omega
      refine wp_region_held_drew (S := (fun w' => w'.cell? ⟨w.heap.size, 1, none⟩ = some (.slice (some ⟨b, o, none⟩) xs.length c) ∧ w'.cell? ⟨b, o + k * 3, none⟩ = some (.int .i64 x.N) ∧ w'.cell? ⟨b, o + k * 3 + 1, none⟩ = some (.int .i64 x.Size) ∧ w'.cell? ⟨b, o + k * 3 + 2, none⟩ = some (.int .u32 (x.Sum : Int)))) (by kernel_rfl) ⟨cB, e1, e2, e3⟩ (fun hHeld => ?_)
      refine wpAnyH_take (i := 0) (v := ?_) rfl (by kernel_rfl) (by kernel_rfl) (by kernel_rfl) (fun _ _ _ h => h) (Or.inl ⟨by rfl, ?_⟩) (by assumption) ?_
      rotate_left
      · (intro wz hSw; (try dsimp only at hSw); go_simp; try (with_reducible rfl))
      try simp only [Act.put]
      refine wpAnyH_take (i := 2) (v := ?_) rfl (by kernel_rfl) (by kernel_rfl) (by kernel_rfl) (fun _ _ _ h => h) (Or.inl ⟨by rfl, ?_⟩) (by assumption) ?_
      rotate_left
      · (intro wz hSw; (try dsimp only at hSw); go_simp; try (with_reducible rfl))
      try simp only [Act.put]
      refine wpAnyH_take (i := 3) (v := ?_) rfl (by kernel_rfl) (by kernel_rfl) (by kernel_rfl) (fun _ _ _ h => h) (Or.inl ⟨by rfl, ?_⟩) (by assumption) ?_
      rotate_left
      · (intro wz hSw; (try dsimp only at hSw); go_simp; try (with_reducible rfl))
      try simp only [Act.put]
      refine wpAnyH_take (i := 4) (v := ?_) rfl (by kernel_rfl) (by kernel_rfl) (by kernel_rfl) (fun _ _ _ h => h) (Or.inl ⟨by rfl, ?_⟩) (by assumption) ?_
      rotate_left
      · (intro wz hSw; (try dsimp only at hSw); go_simp; try (with_reducible rfl))
      try simp only [Act.put]
      refine wpAnyH_take (i := 5) (v := ?_) rfl (by kernel_rfl) (by kernel_rfl) (by kernel_rfl) (fun _ _ _ h => h) (Or.inl ⟨by rfl, ?_⟩) (by assumption) ?_
      rotate_left
      · (intro wz hSw; (try dsimp only at hSw); go_simp; try (with_reducible rfl))
      try simp only [Act.put]
      refine wpAnyH_take (i := 6) (v := ?_) rfl (by kernel_rfl) (by kernel_rfl) (by kernel_rfl) (fun _ _ _ h => h) (Or.inl ⟨by rfl, ?_⟩) (by assumption) ?_
      rotate_left
      · (intro wz hSw; (try dsimp only at hSw); go_simp; try (with_reducible rfl))
      try simp only [Act.put]
      refine wpAnyH_take (i := 7) (v := ?_) rfl (by kernel_rfl) (by kernel_rfl) (by kernel_rfl) (fun _ _ _ h => h) (Or.inl ⟨by rfl, ?_⟩) (by assumption) ?_
      rotate_left
      · (intro wz hSw; (try dsimp only at hSw); go_simp; try (with_reducible rfl))
      try simp only [Act.put]
      refine wpAnyH_take (i := 8) (v := ?_) rfl (by kernel_rfl) (by kernel_rfl) (by kernel_rfl) (fun _ _ _ h => h) (Or.inl ⟨by rfl, ?_⟩) (by assumption) ?_
      rotate_left
      · (intro wz hSw; (try dsimp only at hSw); go_simp; try (with_reducible rfl))
      try simp only [Act.put]
      refine wpAnyH_take (i := 9) (v := ?_) rfl (by kernel_rfl) (by kernel_rfl) (by kernel_rfl) (fun _ _ _ h => h) (Or.inl ⟨by rfl, ?_⟩) (by assumption) ?_
      rotate_left
      · (intro wz hSw; (try dsimp only at hSw); go_simp; try (with_reducible rfl))
      try simp only [Act.put]
      refine wpAnyH_take (i := 10) (v := ?_) rfl (by kernel_rfl) (by kernel_rfl) (by kernel_rfl) (fun _ _ _ h => h) (Or.inl ⟨by rfl, ?_⟩) (by assumption) ?_
      rotate_left
      · (intro wz hSw; (try dsimp only at hSw); go_simp; try (with_reducible rfl))
      try simp only [Act.put]
      refine wpAnyH_take (i := 11) (v := ?_) rfl (by kernel_rfl) (by kernel_rfl) (by kernel_rfl) (fun _ _ _ h => h) (Or.inl ⟨by rfl, ?_⟩) (by assumption) ?_
      rotate_left
      · (intro wz hSw; (try dsimp only at hSw); go_simp; try (with_reducible rfl))
      try simp only [Act.put]
      refine wpAnyH_take (i := 12) (v := ?_) rfl (by kernel_rfl) (by kernel_rfl) (by kernel_rfl) (fun _ _ _ h => h) (Or.inl ⟨by rfl, ?_⟩) (by assumption) ?_
      rotate_left
      · (intro wz hSw; (try dsimp only at hSw); go_simp; try (with_reducible rfl))
      try simp only [Act.put]
      refine wpAnyH_take (i := 13) (v := ?_) rfl (by kernel_rfl) (by kernel_rfl) (by kernel_rfl) (fun _ _ _ h => h) (Or.inl ⟨by rfl, ?_⟩) (by assumption) ?_
      rotate_left
      · (intro wz hSw; (try dsimp only at hSw); go_simp; try (with_reducible rfl))
      try simp only [Act.put]
      refine wpAnyH_take (i := 14) (v := ?_) rfl (by kernel_rfl) (by kernel_rfl) (by kernel_rfl) (fun _ _ _ h => h) (Or.inl ⟨by rfl, ?_⟩) (by assumption) ?_
      rotate_left
      · (intro wz hSw; (try dsimp only at hSw); go_simp; try (with_reducible rfl))
      try simp only [Act.put]
      refine wpAnyH_take (i := 15) (v := ?_) rfl (by kernel_rfl) (by kernel_rfl) (by kernel_rfl) (fun _ _ _ h => h) (Or.inl ⟨by rfl, ?_⟩) (by assumption) ?_
      rotate_left
      · (intro wz hSw; (try dsimp only at hSw); go_simp; try (with_reducible rfl))
      try simp only [Act.put]
      refine wpAnyH_take (i := 16) (v := ?_) rfl (by kernel_rfl) (by kernel_rfl) (by kernel_rfl) (fun _ _ _ h => h) (Or.inl ⟨by rfl, ?_⟩) (by assumption) ?_
      rotate_left
      · (intro wz hSw; (try dsimp only at hSw); go_simp; try (with_reducible rfl))
      try simp only [Act.put]
      refine wpAnyH_take (i := 17) (v := ?_) rfl (by kernel_rfl) (by kernel_rfl) (by kernel_rfl) (fun _ _ _ h => h) (Or.inl ⟨by rfl, ?_⟩) (by assumption) ?_
      rotate_left
      · (intro wz hSw; (try dsimp only at hSw); go_simp; try (with_reducible rfl))
      try simp only [Act.put]
      refine wpAnyH_take (i := 18) (v := ?_) rfl (by kernel_rfl) (by kernel_rfl) (by kernel_rfl) (fun _ _ _ h => h) (Or.inl ⟨by rfl, ?_⟩) (by assumption) ?_
      rotate_left
      · (intro wz hSw; (try dsimp only at hSw); go_simp; try (with_reducible rfl))
      try simp only [Act.put]
      refine wpAnyH_take (i := 19) (v := ?_) rfl (by kernel_rfl) (by kernel_rfl) (by kernel_rfl) (fun _ _ _ h => h) (Or.inl ⟨by rfl, ?_⟩) (by assumption) ?_
      rotate_left
      · (intro wz hSw; (try dsimp only at hSw); go_simp; try (with_reducible rfl))
      try simp only [Act.put]
      refine wpAnyH_take (i := 20) (v := ?_) rfl (by kernel_rfl) (by kernel_rfl) (by kernel_rfl) (fun _ _ _ h => h) (Or.inl ⟨by rfl, ?_⟩) (by assumption) ?_
      rotate_left
      · (intro wz hSw; (try dsimp only at hSw); go_simp; try (with_reducible rfl))
      try simp only [Act.put]
      refine wpAnyH_ready (rs := [1, 21]) (by kernel_rfl) (by simp) ?_
      refine AllReadyH.cons rfl (fun K hK => ?_) (AllReadyH.cons rfl (fun K hK => ?_) AllReadyH.nil)
      · go_simp
        refine hK.out _ _ hHeld (fun hHeld => ?_)
        clear hK K
        try simp only [Act.put]
        refine wpAnyH_ready (rs := [21]) (by kernel_rfl) (by simp) ?_
        refine AllReadyH.cons rfl (fun K hK => ?_) AllReadyH.nil
        go_simp
        refine hK.out _ _ ?_ (fun hHeld => ?_)
        · go_keep
        clear hK K
        try simp only [Act.put]
        refine wpAnyH_ready (rs := [22]) (by kernel_rfl) (by simp) ?_
        refine AllReadyH.cons rfl (fun K hK => ?_) AllReadyH.nil
        refine step_append_lies _ (by rfl) _ _ _ (by rfl) (w.heap.size + 3) 48 i0 _ 3 24 Tryd.underlying30 hi hz0 hz1 hz2 rfl (by omega) sv k _ (by rfl) ((hown.alloc _).drew)
          ⟨wr.heap.size, 0, none⟩ 1 1 [.int .i64 x.N, .int .i64 x.Size, .int .u32 (x.Sum : Int)] (by rfl) (by rfl) (World.news_of_block (cs := #[.int .i64 x.N, .int .i64 x.Size, .int .u32 (x.Sum : Int)]) (t := 48) (fr := (0, 0)) (heap_alloc_new wr _)) (by simp [Value.oneCell'])
          (by omega) (by unfold maxLen; omega) (by omega) (by simp; omega) (wr.heap.size + 1) (by simp) ?_
        intro gg cap w1 hown1 hgrow hat hlt1
        have hfar : ∀ (q : Addr) (u : Value), q.block < w.heap.size + 2 → wr.cell? q = some u → w1.cell? q = some u := fun q u hq hu => (hgrow.cell_far _ (by simp; omega) (fun e => Ak.out q.block (by omega) e.symm)).trans ((((Below.refl wr.heap.size wr).alloc (Nat.le_refl _) _).drew.cell (p := q) (by omega)).trans hu)
        refine hK.out _ _ ⟨hfar _ _ (by simp) cB, hfar _ _ (by simp; omega) e1, hfar _ _ (by simp; omega) e2, hfar _ _ (by simp; omega) e3⟩ (fun hHeld => ?_)
        clear hK K
        try simp only [Act.put]
        obtain ⟨hnew, hs1, hs2⟩ := (ht.alloc (.cells #[.int .i64 x.N, .int .i64 x.Size, .int .u32 (x.Sum : Int)] 48)).drew.app (ys' := xs.take (k + 1)) (v' := .slice (some ⟨gg, 0, none⟩) (k + 1) cap) (w1 := w1) (by rw [Htk.out]; simpa [SegD.vals, hk] using hown1) hgrow
        have hs1' : w1.cell? ⟨w.heap.size + 1 + 1, 1, none⟩ = some sv := hs1
        have hs2' : w1.frozen? ⟨w.heap.size + 1 + 1, 1, none⟩ = false := hs2
        refine wpAnyH_take (i := 23) (v := ?_) rfl (by kernel_rfl) (by kernel_rfl) (by kernel_rfl) (fun _ _ _ h => h) (Or.inl ⟨by rfl, ?_⟩) (by assumption) ?_
        rotate_left
        · (intro wz hSw; (try dsimp only at hSw); go_simp; try (with_reducible rfl))
        try simp only [Act.put]
        refine wpAnyH_ready (rs := [24]) (by kernel_rfl) (by simp) ?_
        refine AllReadyH.cons rfl (fun K hK => ?_) AllReadyH.nil
        go_simp
        refine hK.out _ _ ?_ (fun hHeld => ?_)
        · obtain ⟨z1, z2, z3, z4⟩ := hHeld
          exact ⟨(World.cell?_setCell_other _ _ _ _ (by simp)).trans z1, (World.cell?_setCell_other _ _ _ _ (by simp <;> omega)).trans z2, (World.cell?_setCell_other _ _ _ _ (by simp <;> omega)).trans z3, (World.cell?_setCell_other _ _ _ _ (by simp <;> omega)).trans z4⟩
        clear hK K
        try simp only [Act.put]
        refine wpAnyH_done (by kernel_rfl) ?_ _
        go_wp2_with fail
        go_roundw
        case rel => exact ⟨k + 1, _, by go_num, by omega, hnew⟩
        case measure => simp [intOf]; omega
      · go_simp
        refine hK.out _ _ ?_ (fun hHeld => ?_)
        · go_keep
        clear hK K
        try simp only [Act.put]
        refine wpAnyH_ready (rs := [1]) (by kernel_rfl) (by simp) ?_
        refine AllReadyH.cons rfl (fun K hK => ?_) AllReadyH.nil
        go_simp
        refine hK.out _ _ hHeld (fun hHeld => ?_)
        clear hK K
        try simp only [Act.put]
        refine wpAnyH_ready (rs := [22]) (by kernel_rfl) (by simp) ?_
        refine AllReadyH.cons rfl (fun K hK => ?_) AllReadyH.nil
        refine step_append_lies _ (by rfl) _ _ _ (by rfl) (w.heap.size + 3) 48 i0 _ 3 24 Tryd.underlying30 hi hz0 hz1 hz2 rfl (by omega) sv k _ (by rfl) ((hown.alloc _).drew)
          ⟨wr.heap.size, 0, none⟩ 1 1 [.int .i64 x.N, .int .i64 x.Size, .int .u32 (x.Sum : Int)] (by rfl) (by rfl) (World.news_of_block (cs := #[.int .i64 x.N, .int .i64 x.Size, .int .u32 (x.Sum : Int)]) (t := 48) (fr := (0, 0)) (heap_alloc_new wr _)) (by simp [Value.oneCell'])
          (by omega) (by unfold maxLen; omega) (by omega) (by simp; omega) (wr.heap.size + 1) (by simp) ?_
        intro gg cap w1 hown1 hgrow hat hlt1
        have hfar : ∀ (q : Addr) (u : Value), q.block < w.heap.size + 2 → wr.cell? q = some u → w1.cell? q = some u := fun q u hq hu => (hgrow.cell_far _ (by simp; omega) (fun e => Ak.out q.block (by omega) e.symm)).trans ((((Below.refl wr.heap.size wr).alloc (Nat.le_refl _) _).drew.cell (p := q) (by omega)).trans hu)
        refine hK.out _ _ ⟨hfar _ _ (by simp) cB, hfar _ _ (by simp; omega) e1, hfar _ _ (by simp; omega) e2, hfar _ _ (by simp; omega) e3⟩ (fun hHeld => ?_)
        clear hK K
        try simp only [Act.put]
        obtain ⟨hnew, hs1, hs2⟩ := (ht.alloc (.cells #[.int .i64 x.N, .int .i64 x.Size, .int .u32 (x.Sum : Int)] 48)).drew.app (ys' := xs.take (k + 1)) (v' := .slice (some ⟨gg, 0, none⟩) (k + 1) cap) (w1 := w1) (by rw [Htk.out]; simpa [SegD.vals, hk] using hown1) hgrow
        have hs1' : w1.cell? ⟨w.heap.size + 1 + 1, 1, none⟩ = some sv := hs1
        have hs2' : w1.frozen? ⟨w.heap.size + 1 + 1, 1, none⟩ = false := hs2
        refine wpAnyH_take (i := 23) (v := ?_) rfl (by kernel_rfl) (by kernel_rfl) (by kernel_rfl) (fun _ _ _ h => h) (Or.inl ⟨by rfl, ?_⟩) (by assumption) ?_
        rotate_left
        · (intro wz hSw; (try dsimp only at hSw); go_simp; try (with_reducible rfl))
        try simp only [Act.put]
        refine wpAnyH_ready (rs := [24]) (by kernel_rfl) (by simp) ?_
        refine AllReadyH.cons rfl (fun K hK => ?_) AllReadyH.nil
        go_simp
        refine hK.out _ _ ?_ (fun hHeld => ?_)
        · obtain ⟨z1, z2, z3, z4⟩ := hHeld
          exact ⟨(World.cell?_setCell_other _ _ _ _ (by simp)).trans z1, (World.cell?_setCell_other _ _ _ _ (by simp <;> omega)).trans z2, (World.cell?_setCell_other _ _ _ _ (by simp <;> omega)).trans z3, (World.cell?_setCell_other _ _ _ _ (by simp <;> omega)).trans z4⟩
        clear hK K
        try simp only [Act.put]
        refine wpAnyH_done (by kernel_rfl) ?_ _
        go_wp2_with fail
        go_roundw
        case rel => exact ⟨k + 1, _, by go_num, by omega, hnew⟩
        case measure => simp [intOf]; omega
    · obtain rfl : k = xs.length := by omega
      rw [List.take_length] at ht
      obtain ⟨a', c', rfl⟩ := ht.form
      have cO0 : wr.cell? ⟨w.heap.size + 1 + 1, 0, none⟩ = some (.int .i64 v) := cell_of_row wr _ 0 _ _ _ ht.hO
      have cO1 : wr.cell? ⟨w.heap.size + 1 + 1, 1, none⟩ = some (.slice a' xs.length c') := cell_of_row wr _ 1 _ _ _ ht.hO
      have cR0 : wr.cell? ⟨w.heap.size + 1, 0, none⟩ = some (.int .i64 0) := cell_of_row wr _ 0 _ _ _ ht.hR
      have cR1 : wr.cell? ⟨w.heap.size + 1, 1, none⟩ = some (.slice none 0 0) := cell_of_row wr _ 1 _ _ _ ht.hR
      have fR0 : wr.frozen? ⟨w.heap.size + 1, 0, none⟩ = false := frozen_of_row wr _ 0 _ _ ht.hR
      have fR1 : wr.frozen? ⟨w.heap.size + 1, 1, none⟩ = false := frozen_of_row wr _ 1 _ _ ht.hR
      go_wp2_with fail
      refine bodyPost_ret (v := .agg #[.int .i64 v, .slice a' xs.length c']) ?_ rfl ⟨⟨a', c', rfl, ?_⟩, (ht.bel.setCell (by simp) _).setCell (by simp) _⟩
      · simp [results, Tryd.results10, go_sem, cR0, cR1]
      · exact segs_ofOwn (ownsRow_setCell_below (ownsRow_setCell_below ht.own (by simp) _) (by simp) _) Ha.out.fits
end Go.Proofs.YtllaflgcladgoaaDoor
