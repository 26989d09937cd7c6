/- the laws of layer 10: keys, light, awake -/
import Derived.Test.YtdllmflhgbponaaKdI
namespace Go.Thw
open Go Go.RowKit
theorem run_equalIn_func_nil {P : Program} (w : World) (n : Nat) (t : TypeId) {a b c} (h : P.underlying t = some (.func a b c)) (f : Fn) (x y : Array Value) : (Op.equalIn (n + 1) t (.func f x y) .nilFunc).run P w = .ok false w := by
  simp [Op.equalIn, run_underlying h]
theorem run_eql_func_nil {P : Program} (w : World) (t : TypeId) {a b c} (h : P.underlying t = some (.func a b c)) (f : Fn) (x y : Array Value) : (binOp .eql t (.func f x y) .nilFunc).run P w = .ok (.bool false) w := by
  simp only [binOp]
  simp [Op.equal, Op.maxDepth, run_equalIn_func_nil w 9999 t h f x y]
theorem heap_alloc_if (w : World) (o : Obj) (k : Nat) : (w.alloc o).heap[k]? = if k = w.heap.size then some o else w.heap[k]? := by
  show (w.heap.push o)[k]? = _
  rw [Array.getElem?_push]
theorem cells_new (w : World) (n : Nat) (hn : w.heap.size = n) (cs : List Value) (t : TypeId) : ∀ j u, cs[j]? = some u → (w.alloc (.cells cs.toArray t)).cell? ((⟨n, 0, none⟩ : Addr).add j) = some u := by
  intro j u hu
  subst hn
  have e : (⟨w.heap.size, 0, none⟩ : Addr).add j = ⟨w.heap.size, j, none⟩ := by unfold Addr.add; split <;> simp_all
  rw [e, World.cell?_alloc_new]
  simpa using hu
theorem heap_keep {V w1 : World} {b : Nat} {o : Obj} (hb : Below V.heap.size V w1) (h : V.heap[b]? = some o) : w1.heap[b]? = some o := (hb.block _ (lt_of_block h)).trans h
end Go.Thw
namespace Go.Proofs.Ytdllmflhgbponaa
open Go Go.RowKit Go.Thw Go.Shelf

attribute [local go_sem] Oper.semAt_some

structure KeyW (w : World) (n : Nat) (V : World) : Prop where
  b : Below w.heap.size w V
  sz : w.heap.size + 6 ≤ V.heap.size
  r0 : V.heap[w.heap.size]? = some (.cells #[.slice none 0 0] 39 (0, 0))
  r1 : V.heap[w.heap.size + 1]? = some (.cells #[.slice none 0 0] 40 (0, 0))
  o : ∃ s c, (n = 0 → s = none ∧ c = 0) ∧ V.heap[w.heap.size + 2]? = some (.cells #[.slice s n c] 39 (0, 0))
  l : ∃ s c, (n = 0 → s = none ∧ c = 0) ∧ V.heap[w.heap.size + 3]? = some (.cells #[.slice s n c] 40 (0, 0))
theorem KeyW.frm {w V V' : World} {n : Nat} {F : Nat → Prop} (h : KeyW w n V) (hF : Frm F V V') (hn : ∀ k, F k → w.heap.size + 4 ≤ k) : KeyW w n V' := by
  obtain ⟨s, c, h1, h2⟩ := h.o
  obtain ⟨s', c', h3, h4⟩ := h.l
  exact ⟨h.b.trans (hF.below h.b.size (fun k hk e => by have := hn k e; omega)), Nat.le_trans h.sz hF.size, hF.blk h.r0 (fun e => by have := hn _ e; omega), hF.blk h.r1 (fun e => by have := hn _ e; omega), ⟨s, c, h1, hF.blk h2 (fun e => by have := hn _ e; omega)⟩, ⟨s', c', h3, hF.blk h4 (fun e => by have := hn _ e; omega)⟩⟩

theorem str_info : (Try.prog.info? 9).map (fun i => (i.zero, i.size, i.bytes)) = some (some (.string ⟨#[]⟩), 1, 16) := by kernel_rfl
theorem loc_info : (Try.prog.info? 29).map (fun i => (i.zero, i.size, i.bytes)) = some (some (.agg #[.int .i64 0, .int .i64 0, .int .i64 0, .int .u64 0]), 4, 32) := by kernel_rfl

theorem keys_end {w W : World} {s : Option Addr} {c : Nat} {v1 : Value} {t : Array Value} (h4 : t[4]? = some (.pointer (some ⟨w.heap.size, 0, none⟩))) (h5 : t[5]? = some (.pointer (some ⟨w.heap.size + 1, 0, none⟩)))
    (c0 : W.cell? ⟨w.heap.size, 0, none⟩ = some (.slice s 1 c)) (c1 : W.cell? ⟨w.heap.size + 1, 0, none⟩ = some v1) (hb : Below w.heap.size w W) :
    LeavesInM Fence.wide 0 Try.prog Try.f13 t (fun e w' => (∃ s c v, e = .returned (.tuple #[.slice s 1 c, v])) ∧ Below w.heap.size w w') [] .returning W := by
  refine ⟨.tuple #[.slice s 1 c, v1], ?_, ⟨_, _, _, rfl⟩, hb⟩
  simp [results, Try.results13, go_sem, h4, h5, c0, c1]

set_option maxRecDepth 100000 in
set_option maxHeartbeats 4000000 in
theorem law_keys (d S N : Nat) (k : List UInt8) (M : List Ent) (x : Ent) (w : World) (hN : N ≤ 1073741824) (hD : DirAt w d S M N) (hM : fromM k M = [x]) :
    Calls Try.prog 13 #[.pointer (some ⟨d, 0, none⟩), .string (bs k)] w fun e w' => (∃ s c v, e = .returned (.tuple #[.slice s 1 c, v])) ∧ Below w.heap.size w w' := by
  have hq := fun W f x y => run_eql_func_nil (P := Try.prog) W 52 Try.underlying52 f x y
  have hdl := hD.lt
  have hSl := hD.ltS
  refine (callsIn_wide (n := 0)).1 ?_
  refine callsIn_of_wp_marks Try.func13 rfl trivial ?_
  simp only [Try.ntmps13, List.size_toArray, List.length_cons, List.length_nil, Nat.reduceAdd, Nat.reduceSub, Array.replicate_succ, Array.replicate_zero, List.push_toArray, List.append_toArray, List.nil_append, List.cons_append]
  gi_wp2_with (refine ⟨trivial, rfl, ?_⟩; gi_at_call 18; refine (callsIn_wide.2 (kd_From d k _)).mono ?_; rintro e w2 ⟨rfl, rfl⟩)
  obtain ⟨W, hW⟩ : ∃ W, ((((((w.alloc (.cells #[.slice none 0 0] 39)).alloc (.cells #[.slice none 0 0] 40)).alloc (.cells #[.slice none 0 0] 39)).alloc (.cells #[.slice none 0 0] 40)).alloc (.cells #[.pointer (some ⟨d, 0, none⟩)] 25)).alloc (.cells #[.string (bs k)] 9)) = W := ⟨_, rfl⟩
  have hWs : W.heap.size = w.heap.size + 6 := by rw [← hW]; simp
  have hK0 : KeyW w 0 W := by
    subst hW
    refine ⟨((((((Below.refl w.heap.size w).alloc (Nat.le_refl _) _).alloc (by simp) _).alloc (by simp; omega) _).alloc (by simp; omega) _).alloc (by simp; omega) _).alloc (by simp; omega) _, by simp, ?_, ?_, ⟨none, 0, fun _ => ⟨rfl, rfl⟩, ?_⟩, ⟨none, 0, fun _ => ⟨rfl, rfl⟩, ?_⟩⟩ <;> (simp only [heap_alloc_if]; simp)
    rw [if_neg (by omega), if_neg (by omega), if_neg (by omega)]
  have hBd : W.heap[w.heap.size + 4]? = some (.cells #[.pointer (some ⟨d, 0, none⟩)] 25 (0, 0)) := by
    subst hW; simp only [heap_alloc_if]; simp
  have hBk : W.heap[w.heap.size + 5]? = some (.cells #[.string (bs k)] 9 (0, 0)) := by
    subst hW; simp only [heap_alloc_if]; simp
  rw [hW]
  simp only [Nat.add_assoc, Nat.reduceAdd]
  refine wp_range (encs := pairEnc) (R := fun j => j = w.heap.size + 4 ∨ j = w.heap.size + 5 ∨ j = d ∨ j = S) (E := [x]) (w0 := W) rfl (fun _ _ => rfl) ?_ (hM ▸ kd_From_gives (w.heap.size + 4) (w.heap.size + 5) d S N k M W hN hBd hBk (hD.below hK0.b)) (Below.refl _ _) (fun _ => rfl)
    (fun pre St V => St (w.heap.size + 2) ∧ St (w.heap.size + 3) ∧ KeyW w pre.length V)
    (fun _ _ _ _ => False) ?_ ?_ (fun j => j = w.heap.size + 2 ∨ j = w.heap.size + 3) ?_ ?_
    (fun x a' St V => ∃ b, St b ∧ w.heap.size + 6 ≤ b ∧ V.heap[b]? = some (.cells #[.int .i64 x.2.seg, .int .i64 x.2.off, .int .i64 x.2.len, .int .u64 x.2.seq] 29 (0, 0)) ∧ ∃ v0 v1 v2 v3 v8 v11 v12 v13 v14 v15 v16 v17 v18, a' = ⟨#[v0, v1, v2, v3, .pointer (some ⟨w.heap.size, 0, none⟩), .pointer (some ⟨w.heap.size + 1, 0, none⟩), .pointer (some ⟨w.heap.size + 2, 0, none⟩), .pointer (some ⟨w.heap.size + 3, 0, none⟩), v8, .string (bs x.1), .pointer (some ⟨b, 0, none⟩), v11, v12, v13, v14, v15, v16, v17, v18, undef, undef, undef, undef, undef, undef, undef, undef, undef, undef, undef, undef, undef], []⟩) ?_ ?_ ?_ ?_ ?_
  · rintro j (rfl | rfl | rfl | rfl) <;> omega
  · rintro pre S1 A C G ⟨h1, h2, h3⟩ hG hk
    exact ⟨h1, h2, h3.frm hG (fun j e => by have := (hk j e).1; omega)⟩
  · exact fun _ _ _ _ _ _ h => h.elim
  · rintro j (rfl | rfl)
    · refine ⟨by omega, ?_⟩; rintro (h | h | h | h) <;> omega
    · refine ⟨by omega, ?_⟩; rintro (h | h | h | h) <;> omega
  · exact ⟨.inl rfl, .inr rfl, hK0⟩
  · rintro x a' u S1 A C G ⟨b, h1, h2, h3, h4⟩ hG hk
    exact ⟨b, h1, h2, hG.blk h3 (fun e => (hk _ e).2 h1), h4⟩
  · rintro l' pre x S1 V K ⟨h1, h2, h3⟩ hK
    have hVb := (Below.refl V.heap.size V).alloc (Nat.le_refl _) (.cells #[.int .i64 x.2.seg, .int .i64 x.2.off, .int .i64 x.2.len, .int .u64 x.2.seq] 29)
    have hbz := h3.sz
    have hK2 := Lib.hid (fun a' => hK a' (fun j => S1 j ∨ j = V.heap.size) _ (Frm.of_below hVb) (fun j hj e => e.resolve_right (by omega)) ⟨.inl h1, .inl h2, h3.frm (F := fun _ => False) (Frm.of_below hVb) (fun _ h => h.elim)⟩)
    clear hK
    unfold pairEnc
    gi_wp2
    exact hK2.out _ ⟨V.heap.size, .inr rfl, by omega, heap_alloc_new _ _, _, _, _, _, _, _, _, _, _, _, _, _, _, rfl⟩
  · rintro l' pre y rest a' S1 V hM ⟨h1, h2, h3⟩ ⟨b, hb, hbz, hbc, v0, v1, v2, v3, v8, v11, v12, v13, v14, v15, v16, v17, v18, rfl⟩
    obtain ⟨rfl, rfl, rfl⟩ : pre = [] ∧ x = y ∧ rest = [] := by cases pre <;> simp_all
    obtain ⟨i0, hi, hz0, hz1, hz2⟩ := info_parts str_info
    obtain ⟨j0, hj, hj0, hj1, hj2⟩ := info_parts loc_info
    obtain ⟨s, c, hs, ho⟩ := h3.o
    obtain ⟨rfl, rfl⟩ := hs rfl
    obtain ⟨s, c, hs, hlc⟩ := h3.l
    obtain ⟨rfl, rfl⟩ := hs rfl
    have hbz := h3.sz
    have q0 : V.cell? ⟨w.heap.size + 2, 0, none⟩ = some (.slice none 0 0) := cell_of_one ho
    have q1 : V.cell? ⟨w.heap.size + 3, 0, none⟩ = some (.slice none 0 0) := cell_of_one hlc
    obtain ⟨d0, d1, d2, d3⟩ : V.cell? ⟨b, 0, none⟩ = some (.int .i64 x.2.seg) ∧ V.cell? ⟨b, 1, none⟩ = some (.int .i64 x.2.off) ∧ V.cell? ⟨b, 2, none⟩ = some (.int .i64 x.2.len) ∧ V.cell? ⟨b, 3, none⟩ = some (.int .u64 x.2.seq) := ⟨cell_of_row V b 0 _ _ _ hbc, cell_of_row V b 1 _ _ _ hbc, cell_of_row V b 2 _ _ _ hbc, cell_of_row V b 3 _ _ _ hbc⟩
    generalize hQ : bodyOut _ _ _ _ _ = Q
    have HQ := Lib.hid hQ
    clear hQ
    gi_wp2_with (first
      | (gi_at_builtin; refine wpListIn_append_own _ rfl _ _ 39 rfl w.heap.size 9 i0 (.string ⟨#[]⟩) 1 16 Try.underlying39 hi hz0 hz1 hz2 rfl (by decide) _ 0 [] rfl ⟨rfl, .inl ⟨rfl, rfl⟩⟩ ⟨V.heap.size, 0, none⟩ 1 1 [.string (bs x.1)] rfl rfl (cell_one_new _ _ _) (by simp [Value.oneCell']) (by decide) (by decide) (by simp; omega) ?_; intro vo w1 ho1 hg1 hn1
         have hb1 : Below V.heap.size V w1 := ((Below.refl V.heap.size V).alloc (Nat.le_refl _) _).grown hg1 (by simp) (fun k hk => by cases hk)
         have hz1 := hb1.size
         have p2 := heap_keep hb1 ho; have p3 := heap_keep hb1 hlc; have pb := heap_keep hb1 hbc
         have q2 : w1.cell? ⟨w.heap.size + 2, 0, none⟩ = some (.slice none 0 0) := cell_of_one p2; have q3 : w1.cell? ⟨w.heap.size + 3, 0, none⟩ = some (.slice none 0 0) := cell_of_one p3
         have f2 := frozen_of_row w1 _ 0 _ _ p2
         obtain ⟨e0, e1, e2, e3⟩ : w1.cell? ⟨b, 0, none⟩ = some (.int .i64 x.2.seg) ∧ w1.cell? ⟨b, 1, none⟩ = some (.int .i64 x.2.off) ∧ w1.cell? ⟨b, 2, none⟩ = some (.int .i64 x.2.len) ∧ w1.cell? ⟨b, 3, none⟩ = some (.int .u64 x.2.seq) := ⟨cell_of_row w1 b 0 _ _ _ pb, cell_of_row w1 b 1 _ _ _ pb, cell_of_row w1 b 2 _ _ _ pb, cell_of_row w1 b 3 _ _ _ pb⟩
         obtain ⟨go, co, rfl⟩ := ownsRow_succ ho1
         clear ho1 hg1 hn1)
      | (gi_at_builtin; refine wpListIn_append_own _ rfl _ _ 40 rfl w.heap.size 29 j0 (.agg #[.int .i64 0, .int .i64 0, .int .i64 0, .int .u64 0]) 4 32 Try.underlying40 hj hj0 hj1 hj2 rfl (by decide) _ 0 [] rfl ⟨rfl, .inl ⟨rfl, rfl⟩⟩ ⟨w1.heap.size, 0, none⟩ 1 1 [.int .i64 x.2.seg, .int .i64 x.2.off, .int .i64 x.2.len, .int .u64 x.2.seq] rfl rfl (cells_new _ _ (by simp) [.int .i64 x.2.seg, .int .i64 x.2.off, .int .i64 x.2.len, .int .u64 x.2.seq] _) (by simp [Value.oneCell']) (by decide) (by decide) (by simp; omega) ?_; intro vo w2 ho2 hg2 hn2
         go_loud (
         have hw : (w2.frozen? ⟨w.heap.size + 3, 0, none⟩ = false) ∧ w2.cell? ⟨w.heap.size + 3, 0, none⟩ = some (.slice none 0 0) ∧ Hid (∀ v' : Value, Frm (fun j => j = w.heap.size + 2 ∨ j = w.heap.size + 3) V (w2.setCell ⟨w.heap.size + 3, 0, none⟩ v') ∧ (w2.setCell ⟨w.heap.size + 3, 0, none⟩ v').heap[w.heap.size + 2]? = some (.cells #[.slice (some ⟨go, 0, none⟩) 1 co] 39 (0, 0)) ∧ (w2.setCell ⟨w.heap.size + 3, 0, none⟩ v').heap[w.heap.size + 3]? = some (.cells #[v'] 40 (0, 0))) := by
           have hs2 := heap_set_cell (off := 0) (v := .slice (some ⟨go, 0, none⟩) 1 co) p2
           have hs3 : (w1.setCell ⟨w.heap.size + 2, 0, none⟩ (.slice (some ⟨go, 0, none⟩) 1 co)).heap[w.heap.size + 3]? = _ := (Below.heap_setCell _ _ _ _ (by simp)).trans p3
           have hb2 := ((Below.refl _ (w1.setCell ⟨w.heap.size + 2, 0, none⟩ (.slice (some ⟨go, 0, none⟩) 1 co))).alloc (Nat.le_refl _) _).grown hg2 (by simp) (fun k hk => by cases hk)
           have r2 := heap_keep hb2 hs2
           have r3 := heap_keep hb2 hs3
           refine ⟨frozen_of_row w2 _ 0 _ _ r3, cell_of_one r3, Lib.hid fun v' => ⟨?_, ?_, ?_⟩⟩
           · exact ((((Frm.of_below hb1).mono (F := fun _ => False) (fun _ _ h => h.elim)).set _ _ (fun _ => .inl rfl)).then_below hb2).set _ _ (fun _ => .inr rfl)
           · rw [Below.heap_setCell _ _ _ _ (by simp)]; exact r2
           · exact heap_set_cell r3
         obtain ⟨f3, q4, hw⟩ := hw
         obtain ⟨go', co', rfl⟩ := ownsRow_succ ho2
         clear ho2 hg2 hn2; clear p2 p3 pb; clear q2 q3 f2 e0 e1 e2 e3; clear hb1 ho hlc; clear q0 q1 d0 d1 d2 d3 hbc; clear hi hj hz0 hz2 hj0 hj1 hj2 hq)))
    obtain ⟨hF, r2, r3⟩ := hw.out _
    rw [← HQ.out]
    refine ⟨S1, hF.mono (fun j _ e => e.elim (· ▸ h1) (· ▸ h2)), fun _ _ e => e, h1, h2, ?_⟩
    exact ⟨h3.b.trans (hF.below h3.b.size (fun j hj e => by omega)), Nat.le_trans h3.sz hF.size, hF.blk h3.r0 (fun e => by omega), hF.blk h3.r1 (fun e => by omega), ⟨_, _, fun h => by simp at h, r2⟩, ⟨_, _, fun h => by simp at h, r3⟩⟩
  · rintro D S1 V hD hSD ⟨h1, h2, h3⟩ hK
    have hbz := h3.sz
    obtain ⟨s, c, hs, ho⟩ := h3.o
    obtain ⟨s', c', hs', hlc⟩ := h3.l
    have q0 : V.cell? ⟨w.heap.size + 2, 0, none⟩ = some (.slice s 1 c) := cell_of_one ho
    have q1 : V.cell? ⟨w.heap.size + 3, 0, none⟩ = some (.slice s' 1 c') := cell_of_one hlc
    have q2 : V.cell? ⟨w.heap.size, 0, none⟩ = _ := cell_of_one h3.r0
    have q3 : V.cell? ⟨w.heap.size + 1, 0, none⟩ = _ := cell_of_one h3.r1
    have f2 := frozen_of_row V _ 0 _ _ h3.r0
    have f3 := frozen_of_row V _ 0 _ _ h3.r1
    have hmix : Try.prog.follows .mixedOrders = true := by kernel_rfl
    gi_wp2
    gi_region_o
    all_goals
      gi_wp2
      have hF : Frm (fun j => j = w.heap.size ∨ j = w.heap.size + 1 ∨ j = D) V _ := (((Frm.refl _ V).set ⟨w.heap.size, 0, none⟩ (.slice s 1 c) (fun _ => .inl rfl)).set ⟨w.heap.size + 1, 0, none⟩ (.slice s' 1 c') (fun _ => .inr (.inl rfl))).drew
      have hF' : Frm (fun j => j = w.heap.size ∨ j = w.heap.size + 1) V _ := (((Frm.refl _ V).set ⟨w.heap.size, 0, none⟩ (.slice s 1 c) (fun _ => .inl rfl)).set ⟨w.heap.size + 1, 0, none⟩ (.slice s' 1 c') (fun _ => .inr rfl)).drew
      have g0 := heap_set_cell (off := 0) (v := .slice s 1 c) h3.r0
      have g1 := heap_set_cell (off := 0) (v := .slice s' 1 c') ((Below.heap_setCell _ ⟨w.heap.size, 0, none⟩ (.slice s 1 c) _ (by simp)).trans h3.r1)
      have hP := frm_putObj ((V.setCell ⟨w.heap.size, 0, none⟩ (.slice s 1 c)).setCell ⟨w.heap.size + 1, 0, none⟩ (.slice s' 1 c')).drew D (.deferred none)
      refine ⟨by simp, .inl ⟨_, _, rfl, run_takeDeferred (hF'.blk hK (fun e => by omega)), ?_⟩⟩
      refine keys_end (s := s) (c := c) (v1 := .slice s' 1 c') rfl rfl (hP.cell (cell_of_one (t := 39) ((Below.heap_setCell _ _ _ _ (by simp)).trans g0)) (by simp; omega)) (hP.cell (cell_of_one (t := 40) g1) (by simp; omega)) ?_
      exact h3.b.trans ((hF.trans hP (G := fun k => k = D) (fun k hk e => .inr (.inr e)) : Frm (fun k => k = w.heap.size ∨ k = w.heap.size + 1 ∨ k = D) V _).below h3.b.size (fun j hj e => by omega))
  · exact fun _ _ _ _ _ _ _ _ h => h.elim
end Go.Proofs.Ytdllmflhgbponaa
