/- keydir: From, as an iterator -/
import Derived.Test.YtdllmflhgbponaaKdD
import Derived.Test.YtdllmflhgbponaaIter
namespace Go.Proofs.Ytdllmflhgbponaa
open Go Go.RowKit Go.Thw Go.Shelf

attribute [local go_sem] Oper.semAt_some

theorem kd_Values (B n cap : Nat) (w : World) : Calls Try.prog 23 #[.slice (some ⟨B, 0, none⟩) n cap] w fun e w' => e = .returned (.func (.func 30) #[] #[.pointer (some ⟨w.heap.size, 0, none⟩)]) ∧ w' = w.alloc (.cells #[.slice (some ⟨B, 0, none⟩) n cap] 43) := by
  go_enter Try.func23, Try.ntmps23
  go_wp2_with fail
  go_ret
  exact ⟨rfl, rfl⟩

def slotEnc (x : Ent) : Array Value := #[.agg #[.string (bs x.1), .int .i64 x.2.seg, .int .i64 x.2.off, .int .i64 x.2.len, .int .u64 x.2.seq, .bool true]]

set_option maxRecDepth 100000 in
set_option maxHeartbeats 2000000 in
theorem kd_Values_gives (Bx B cap : Nat) (E : List Ent) (ext : List Value) (w : World) (hn : E.length ≤ 1073741824) (hx : w.heap[Bx]? = some (.cells #[.slice (some ⟨B, 0, none⟩) E.length cap] 43 (0, 0))) (hr : RowS w B (E.map slotOf) ext) :
    Gives Try.prog 30 #[.pointer (some ⟨Bx, 0, none⟩)] slotEnc (fun k => k = Bx ∨ k = B) E w := by
  intro l J Jx S0 W hW hJ hJx hY hS0 hl hRl h0
  have hBx : W.heap[Bx]? = some (.cells #[.slice (some ⟨B, 0, none⟩) E.length cap] 43 (0, 0)) := (hW.block _ (lt_of_block hx)).trans hx
  have hrW := hr.below hW
  have hxl := lt_of_block hBx
  have hrl := hrW.lt
  have c0 : W.cell? ⟨Bx, 0, none⟩ = some (.slice (some ⟨B, 0, none⟩) E.length cap) := cell_of_one hBx
  refine (callsIn_wide (n := 1)).1 ?_
  refine callsIn_of_wp Try.func30 rfl trivial ?_
  simp only [Try.ntmps30, List.size_toArray, List.length_cons, List.length_nil, Nat.reduceAdd, Nat.reduceSub, Array.replicate_succ, Array.replicate_zero, List.push_toArray, List.append_toArray, List.nil_append, List.cons_append]
  gi_wp2
  gi_loopw [7] (fun i wr => ∃ (k : Nat) (S : Nat → Prop), k ≤ E.length ∧ i = .int .i64 k ∧ J (E.take k) S wr ∧ (∀ j, j < W.heap.size → S j → S0 j) ∧ W.heap.size ≤ wr.heap.size ∧ RowS wr B (E.map slotOf) ext) (fun i _ => E.length - (intOf i).toNat)
  case atStart => exact ⟨0, S0, by omega, rfl, h0, fun _ _ h => h, Nat.le_refl _, hrW⟩
  case round =>
    obtain ⟨k, S, hk, rfl, hJk, hS, hsz, hrk⟩ := hrel
    by_cases hkl : k < E.length
    · obtain ⟨s0, s1, s2, s3, s4, s5⟩ := hrk.slot (i := k) (by simpa using hkl)
      rw [tat_map E k hkl] at s0 s1 s2 s3 s4 s5
      have hbA := (Below.refl wr.heap.size wr).alloc (Nat.le_refl _) (.cells #[.string (bs E[k].1), .int .i64 E[k].2.seg, .int .i64 E[k].2.off, .int .i64 E[k].2.len, .int .u64 E[k].2.seq, .bool true] 48)
      have hJA := hJ _ _ _ _ (fun _ => False) hJk (Frm.of_below hbA) (fun _ h => h.elim)
      obtain ⟨fn, tmps, assign, body, hy, hR⟩ := hY (E.take k) E[k] (E.drop (k + 1)) S _ (by rw [← List.drop_eq_getElem_cons hkl, List.take_append_drop]) hJA
      unfold slotEnc at hy
      have hrA := hrk.below hbA
      have hnB : ¬ S B := fun h => (hS0 _ (hS _ hrl h)).2 (Or.inr rfl)
      have hlB : B ≠ l := fun e => hRl (by rw [← e]; exact Or.inr rfl)
      have Hrk := Lib.hid hrk
      clear hrk
      gi_wp2
      refine hR.mono ?_
      rintro e W3 ⟨S', hF3, hS3, ⟨rfl, hJ3⟩ | ⟨rfl, hJx3⟩⟩
      · have hr3 := hrA.frm hF3 (fun h => h.elim hnB hlB)
        have hz3 := hF3.size
        simp at hz3
        have hS4 : ∀ j, j < W.heap.size → S' j → S0 j := fun j hj h => hS j hj (hS3 j (by simp; omega) h)
        have HJ := Lib.hid (show J (E.take (k + 1)) S' W3 by rw [List.take_succ_eq_append_getElem hkl]; exact hJ3)
        have HS4 := Lib.hid hS4
        clear hJ3 hS4
        gi_wp2
        go_roundw
        case rel => exact ⟨k + 1, S', by omega, by simp, HJ.out, HS4.out, by omega, hr3⟩
        case measure => simp [intOf]; omega
      · have HJ := Lib.hid (show Jx (E.take (k + 1)) S' W3 by rw [List.take_succ_eq_append_getElem hkl]; exact hJx3)
        clear hJx3
        gi_wp2
        refine bodyPost_ret (results_none rfl _ _ _) rfl ?_
        exact ⟨⟨_, rfl⟩, S', .inr ⟨_, List.take_prefix _ _, HJ.out⟩⟩
    · obtain rfl : k = E.length := by omega
      rw [List.take_length] at hJk
      have HJ := Lib.hid hJk
      clear hJk
      gi_wp2
      go_end0
      exact ⟨⟨_, rfl⟩, S, .inl HJ.out⟩

theorem kd_From (d : Nat) (k : List UInt8) (w : World) : Calls Try.prog 18 #[.pointer (some ⟨d, 0, none⟩), .string (bs k)] w fun e w' => e = .returned (.func (.func 22) #[] #[.pointer (some ⟨w.heap.size, 0, none⟩), .pointer (some ⟨w.heap.size + 1, 0, none⟩)]) ∧
    w' = (w.alloc (.cells #[.pointer (some ⟨d, 0, none⟩)] 25)).alloc (.cells #[.string (bs k)] 9) := by
  go_enter Try.func18, Try.ntmps18
  go_wp2_with fail
  go_ret
  exact ⟨rfl, rfl⟩

theorem bytesLess_lt : ∀ (x y : List UInt8), Op.bytesLess x y = decide (x < y)
  | [], [] => by simp [Op.bytesLess]
  | _ :: _, [] => by simp [Op.bytesLess]
  | [], _ :: _ => by simp [Op.bytesLess]
  | a :: x, b :: y => by
    rw [Op.bytesLess, bytesLess_lt x y]
    simp only [List.cons_lt_cons_iff]
    by_cases h1 : a < b <;> by_cases h2 : a = b <;> by_cases h3 : x < y <;> simp [h1, h2, h3]
/-- the entries from a key on -/
def fromM (k : List UInt8) (M : List Ent) : List Ent := M.filter fun x => !decide (x.1 < k)
def pairEnc (x : Ent) : Array Value := #[.string (bs x.1), .agg #[.int .i64 x.2.seg, .int .i64 x.2.off, .int .i64 x.2.len, .int .u64 x.2.seq]]

set_option maxRecDepth 100000 in
set_option maxHeartbeats 2000000 in
theorem kd_From_gives (Bd Bk d S N : Nat) (k : List UInt8) (M : List Ent) (w : World) (hN : N ≤ 1073741824) (hd : w.heap[Bd]? = some (.cells #[.pointer (some ⟨d, 0, none⟩)] 25 (0, 0))) (hk : w.heap[Bk]? = some (.cells #[.string (bs k)] 9 (0, 0))) (hD : DirAt w d S M N) :
    Gives Try.prog 22 #[.pointer (some ⟨Bd, 0, none⟩), .pointer (some ⟨Bk, 0, none⟩)] pairEnc (fun j => j = Bd ∨ j = Bk ∨ j = d ∨ j = S) (fromM k M) w := by
  intro l J Jx S0 W hW hJ hJx hY hS0 hl hRl h0
  have hBd : W.heap[Bd]? = some (.cells #[.pointer (some ⟨d, 0, none⟩)] 25 (0, 0)) := (hW.block _ (lt_of_block hd)).trans hd
  have hBk : W.heap[Bk]? = some (.cells #[.string (bs k)] 9 (0, 0)) := (hW.block _ (lt_of_block hk)).trans hk
  obtain ⟨T, hT1, hT2, rfl, hkeys⟩ := hD.below hW
  have c0 : W.cell? ⟨Bd, 0, none⟩ = some (.pointer (some ⟨d, 0, none⟩)) := cell_of_one hBd
  have hkl := lt_of_block hBk
  have hdl := lt_of_block hBd
  have hmr := hT2.room
  have HR := Lib.hid (fun V (hV : DirW V d S T M.length) => kd_rising V d S T M.length M hV hT2 hN)
  refine (callsIn_wide (n := 0)).1 ?_
  refine callsIn_of_wp_marks Try.func22 rfl trivial ?_
  simp only [Try.ntmps22, List.size_toArray, List.length_cons, List.length_nil, Nat.reduceAdd, Nat.reduceSub, Array.replicate_succ, Array.replicate_zero, List.push_toArray, List.append_toArray, List.nil_append, List.cons_append]
  gi_wp2_with (first
    | (refine ⟨trivial, rfl, ?_⟩; gi_at_call 23; refine (callsIn_wide.2 (kd_Values B M.length cap _)).mono ?_; rintro e w2 ⟨rfl, rfl⟩)
    | (refine ⟨trivial, rfl, ?_⟩; gi_at_call 19; refine (callsIn_wide.2 (HR.out _ (hT1.below ((Below.refl _ _).alloc (Nat.le_refl _) _)))).mono ?_; rintro e w1 ⟨⟨B, cap, ext, rfl, hB, hR1⟩, hb1⟩))
  have hlW : l ≠ W.heap.size := by omega
  have hs0 : W.heap.size < w1.heap.size := by have := hb1.size; simp at this; omega
  have hyb1 : w1.heap[W.heap.size]? = some (.cells #[.func (.yield l) #[] #[]] 57 (0, 0)) := (hb1.block _ (by simp)).trans (heap_alloc_new W _)
  have hBk1 : w1.heap[Bk]? = some (.cells #[.string (bs k)] 9 (0, 0)) := (hb1.block _ (by simp; omega)).trans ((Below.heap_alloc _ _ _ hkl).trans hBk)
  obtain ⟨w2, hw2⟩ : ∃ w2, w1.alloc (.cells #[.slice (some ⟨B, 0, none⟩) M.length cap] 43) = w2 := ⟨_, rfl⟩
  have hs2 : w2.heap.size = w1.heap.size + 1 := by rw [← hw2]; simp
  have hb2 : Below w1.heap.size w1 w2 := by rw [← hw2]; exact (Below.refl _ _).alloc (Nat.le_refl _) _
  have hyb : w2.heap[W.heap.size]? = _ := (hb2.block _ hs0).trans hyb1
  have hBk2 : w2.heap[Bk]? = _ := (hb2.block _ (by omega)).trans hBk1
  have hBv : w2.heap[w1.heap.size]? = some (.cells #[.slice (some ⟨B, 0, none⟩) M.length cap] 43 (0, 0)) := by rw [← hw2]; exact heap_alloc_new _ _
  have hR2 := hR1.below hb2
  have hB2 : B < w2.heap.size := hR2.lt
  have hBW : W.heap.size < B := by simp at hB; omega
  have hbW2 : Below W.heap.size W w2 := (((Below.refl W.heap.size W).alloc (Nat.le_refl _) _).trans (hb1.mono (by simp))).trans (hb2.mono (by omega))
  rw [hw2]
  clear hD HR hkeys hT1 hT2 hd hk hW hR1 hBd c0 hyb1 hBk1
  refine wp_range (encs := slotEnc) (R := fun j => j = w1.heap.size ∨ j = B) (E := M) (w0 := w2) rfl (fun _ _ => rfl) ?_ (kd_Values_gives w1.heap.size B cap M ext w2 (by omega) hBv hR2) (Below.refl _ _) (fun _ => rfl)
    (fun pre St V => ∃ So : Nat → Prop, (∀ j, So j → St j) ∧ St l ∧ J (fromM k pre) So V ∧ (∀ j, j < W.heap.size → So j → S0 j) ∧ ¬ So W.heap.size ∧ w2.heap.size ≤ V.heap.size ∧ V.heap[W.heap.size]? = some (.cells #[.func (.yield l) #[] #[]] 57 (0, 0)) ∧ V.heap[Bk]? = some (.cells #[.string (bs k)] 9 (0, 0)))
    (fun c pre St V => c = .ret ∧ ∃ So : Nat → Prop, (∀ j, So j → St j) ∧ Jx (fromM k pre) So V) ?_ ?_ (fun j => S0 j ∨ j = l) ?_ ?_
    (fun x a' St V => ∃ b, St b ∧ V.heap[b]? = some (.cells #[.string (bs x.1), .int .i64 x.2.seg, .int .i64 x.2.off, .int .i64 x.2.len, .int .u64 x.2.seq, .bool true] 48 (0, 0)) ∧ ∃ v5 v6 v7 v8, a' = ⟨#[.func (.yield l) #[] #[], .pointer (some ⟨Bd, 0, none⟩), .pointer (some ⟨Bk, 0, none⟩), .pointer (some ⟨W.heap.size, 0, none⟩), .pointer (some ⟨b, 0, none⟩), v5, v6, v7, v8, undef, undef, undef, undef, undef, undef, undef, undef, undef, undef, undef, undef, undef], []⟩) ?_ ?_ ?_ ?_ ?_
  · rintro j (rfl | rfl) <;> omega
  · rintro pre S1 A C G ⟨So, h1, h2, h3, h4, h5, h6, h7, h8⟩ hG hk
    exact ⟨So, h1, h2, hJ _ _ _ _ _ h3 hG (fun j e => ⟨by have := (hk j e).1; omega, fun e2 => (hk j e).2 (h1 _ e2)⟩), h4, h5, Nat.le_trans h6 hG.size, hG.blk h7 (fun e => by have := (hk _ e).1; omega), hG.blk h8 (fun e => by have := (hk _ e).1; omega)⟩
  · rintro c pre S1 A C G ⟨hc, So, h1, h2⟩ hG hk
    exact ⟨hc, So, h1, hJx _ _ _ _ _ h2 hG (fun j e => ⟨by have := (hk j e).1; omega, fun e2 => (hk j e).2 (h1 _ e2)⟩)⟩
  · rintro j (h | rfl)
    · have := (hS0 j h).1
      refine ⟨by omega, ?_⟩
      rintro (rfl | rfl) <;> omega
    · refine ⟨by omega, ?_⟩
      rintro (rfl | rfl) <;> omega
  · exact ⟨S0, fun _ h => .inl h, .inr rfl, hJ _ _ _ _ (fun _ => False) h0 (Frm.of_below hbW2) (fun _ h => h.elim), fun _ _ h => h, fun h => by have := (hS0 _ h).1; omega, Nat.le_refl _, hyb, hBk2⟩
  · rintro x a' u S1 A C G ⟨b, h1, h2, h3⟩ hG hk
    exact ⟨b, h1, hG.blk h2 (fun e => (hk _ e).2 h1), h3⟩
  · rintro l' pre x S1 V K ⟨So, h1, h2, h3, h4, h5, h6, h7, h8⟩ hK
    have hVb := (Below.refl V.heap.size V).alloc (Nat.le_refl _) (.cells #[.string (bs x.1), .int .i64 x.2.seg, .int .i64 x.2.off, .int .i64 x.2.len, .int .u64 x.2.seq, .bool true] 48)
    have hK2 := Lib.hid (fun a' => hK a' (fun j => S1 j ∨ j = V.heap.size) _ (Frm.of_below hVb) (fun j hj e => e.resolve_right (by omega)) ⟨So, fun j e => .inl (h1 j e), .inl h2, hJ _ _ _ _ (fun _ => False) h3 (Frm.of_below hVb) (fun _ h => h.elim), h4, h5, by simp; omega, (hVb.block _ (by omega)).trans h7, (hVb.block _ (by omega)).trans h8⟩)
    clear hK h3
    unfold slotEnc
    gi_wp2
    exact hK2.out _ ⟨V.heap.size, .inr rfl, heap_alloc_new _ _, _, _, _, _, rfl⟩
  · rintro l' pre x rest a' S1 V hM ⟨So, h1, h2, h3, h4, h5, h6, h7, h8⟩ ⟨b, hb, hbc, v5, v6, v7, v8, rfl⟩
    obtain ⟨b0, b1, b2, b3, b4, b5⟩ := (⟨hbc⟩ : Box6S V b ⟨x.1, x.2, true⟩).cells
    have e7 : V.cell? ⟨W.heap.size, 0, none⟩ = some (.func (.yield l) #[] #[]) := cell_of_one h7
    have e8 : V.cell? ⟨Bk, 0, none⟩ = some (.string (bs k)) := cell_of_one h8
    have hbV := lt_of_block hbc
    have h7V := lt_of_block h7
    by_cases hlt : Op.bytesLess x.1 k = true
    · have hxk : x.1 < k := by rw [bytesLess_lt] at hlt; exact of_decide_eq_true hlt
      have Hx : fromM k (pre ++ [x]) = fromM k pre := by unfold fromM; rw [List.filter_append]; simp [hxk]
      rw [← Hx] at h3
      have HJ3 := Lib.hid h3
      clear hY h3
      gi_wp2
      refine ⟨fun _ h => (by cases h), ?_⟩
      gi_wp2
      exact ⟨S1, Frm.refl _ _, fun _ _ e => e, So, h1, h2, HJ3.out, h4, h5, h6, h7, h8⟩
    · have hxk : ¬ x.1 < k := by rw [bytesLess_lt] at hlt; simpa using hlt
      have Hx : fromM k (pre ++ [x]) = fromM k pre ++ [x] := by unfold fromM; rw [List.filter_append]; simp [hxk]
      have HM : fromM k M = fromM k pre ++ x :: fromM k rest := by rw [hM]; unfold fromM; rw [List.filter_append, List.filter_cons]; simp [hxk]
      obtain ⟨fn, tmps, assign, body, hy, hR⟩ := hY _ _ _ _ _ HM h3
      unfold pairEnc at hy
      clear hY h3
      gi_wp2
      refine ⟨rfl, hR.mono ?_⟩
      rintro e W3 ⟨S', hF3, hS3, ⟨rfl, hJ3⟩ | ⟨rfl, hJx3⟩⟩
      · have HJ := Lib.hid (show J (fromM k (pre ++ [x])) S' W3 by rw [Hx]; exact hJ3)
        clear hJ3
        have hz3 := hF3.size
        have hf1 : Frm S1 V W3 := hF3.mono (fun j _ e => e.elim (h1 j) (fun e => e ▸ h2))
        have hf2 := hF3.blk h7 (fun e => e.elim h5 (fun e => hlW e.symm))
        have hf3 := hF3.blk h8 (fun e => e.elim (fun e => (hS0 _ (h4 _ hkl e)).2 (.inr (.inl rfl))) (fun e => hRl (.inr (.inl e.symm))))
        have h4' : ∀ j, j < W.heap.size → S' j → S0 j := fun j hj e => h4 j hj (hS3 j (by omega) e)
        have h5' : ¬ S' W.heap.size := fun e => h5 (hS3 _ h7V e)
        have hS5 : ∀ j, j < V.heap.size → (S' j ∨ j = l) → S1 j := fun j hj e => e.elim (fun e => h1 j (hS3 j hj e)) (fun e => e ▸ h2)
        gi_wp2
        exact ⟨fun j => S' j ∨ j = l, hf1, hS5, S', fun _ e => .inl e, .inr rfl, HJ.out, h4', h5', by omega, hf2, hf3⟩
      · have HJ := Lib.hid (show Jx (fromM k (pre ++ [x])) S' W3 by rw [Hx]; exact hJx3)
        clear hJx3
        have hf1 : Frm S1 V W3 := hF3.mono (fun j _ e => e.elim (h1 j) (fun e => e ▸ h2))
        have hS5 : ∀ j, j < V.heap.size → (S' j ∨ j = l) → S1 j := fun j hj e => e.elim (fun e => h1 j (hS3 j hj e)) (fun e => e ▸ h2)
        gi_wp2
        exact ⟨fun j => S' j ∨ j = l, hf1, hS5, rfl, S', fun _ e => .inl e, HJ.out⟩
  · rintro D S1 V hD hSD ⟨So, h1, h2, h3, h4, h5, h6, h7, h8⟩ hK
    have h9 := hJ _ _ _ (V.putObj D (.deferred none)) _ h3 (frm_putObj V D _) (fun j e => by subst e; exact ⟨by omega, fun e => hSD (h1 _ e)⟩)
    clear h3
    have H9 := Lib.hid h9
    clear h9
    gi_wp2
    refine ⟨by simp, .inl ⟨_, _, rfl, run_takeDeferred hK, ?_⟩⟩
    exact ⟨_, results_none rfl _ _ _, ⟨_, rfl⟩, So, .inl H9.out⟩
  · rintro D c pre S1 V hD hSD hpre ⟨rfl, So, h1, h2⟩ hK
    have h9 := hJx _ _ _ (V.putObj D (.deferred none)) _ h2 (frm_putObj V D _) (fun j e => by subst e; exact ⟨by omega, fun e => hSD (h1 _ e)⟩)
    clear h2
    have H9 := Lib.hid h9
    clear h9
    gi_wp2
    refine ⟨by simp, .inl ⟨_, _, rfl, run_takeDeferred hK, ?_⟩⟩
    exact ⟨_, results_none rfl _ _ _, ⟨_, rfl⟩, So, .inr ⟨_, hpre.filter _, H9.out⟩⟩
end Go.Proofs.Ytdllmflhgbponaa
