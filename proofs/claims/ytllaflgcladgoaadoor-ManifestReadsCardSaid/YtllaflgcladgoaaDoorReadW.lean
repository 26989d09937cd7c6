/- manifest.Read: the world in the midst of it; take over it -/
import Derived.Test.YtllaflgcladgoaaDoorReader
import Derived.Test.YtllaflgcladgoaaDoorParse
import Derived.OneCell
import Derived.Maps.OwnSet
namespace Go.Proofs.YtllaflgcladgoaaDoor
open Go Go.RowKit Go.Thw

/-- m's cells, e's cell, the reader's cell, the slice's row -/
structure ReadW (w : World) (R : Nat) (v : Int) (sv : Value) (s : List UInt8) (xs : List SegD) (wr : World) : Prop where
  lt : w.heap.size + 1 < R
  hm : wr.heap[w.heap.size]? = some (.cells #[.int .i64 v, sv] 24 (0, 0))
  he : wr.heap[w.heap.size + 1]? = some (.cells #[.int .i64 0] 26 (0, 0))
  hr : wr.heap[R]? = some (.cells #[.string (bs s)] 61 (0, 0))
  own : wr.ownsRow (R + 1) 46 3 sv xs.length (xs.flatMap SegD.vals)
  bel : Below w.heap.size w wr
section
variable {w : World} {R : Nat} {v : Int} {sv : Value} {s : List UInt8} {xs : List SegD} {wr : World}
theorem ReadW.rlt (h : ReadW w R v sv s xs wr) : R < wr.heap.size := lt_of_block h.hr
theorem ReadW.cellR (h : ReadW w R v sv s xs wr) : wr.cell? ⟨R, 0, none⟩ = some (.string (bs s)) := cell_of_one h.hr
theorem ReadW.freeR (h : ReadW w R v sv s xs wr) : wr.frozen? ⟨R, 0, none⟩ = false := free_of_one h.hr
theorem ReadW.cell0 (h : ReadW w R v sv s xs wr) : wr.cell? ⟨w.heap.size, 0, none⟩ = some (.int .i64 v) := cell_of_row wr _ 0 _ _ _ h.hm
theorem ReadW.cell1 (h : ReadW w R v sv s xs wr) : wr.cell? ⟨w.heap.size, 1, none⟩ = some sv := cell_of_row wr _ 1 _ _ _ h.hm
theorem ReadW.free0 (h : ReadW w R v sv s xs wr) : wr.frozen? ⟨w.heap.size, 0, none⟩ = false := frozen_of_row wr _ 0 _ _ h.hm
theorem ReadW.free1 (h : ReadW w R v sv s xs wr) : wr.frozen? ⟨w.heap.size, 1, none⟩ = false := frozen_of_row wr _ 1 _ _ h.hm
theorem ReadW.below {w1 : World} (h : ReadW w R v sv s xs wr) (hb : Below wr.heap.size wr w1) : ReadW w R v sv s xs w1 := by
  have hR := h.rlt
  have hl := h.lt
  refine ⟨h.lt, (hb.block _ (by omega)).trans h.hm, (hb.block _ (by omega)).trans h.he, (hb.block _ hR).trans h.hr, ?_, h.bel.trans (hb.mono h.bel.size)⟩
  obtain ⟨h1, h2⟩ := h.own
  refine ⟨h1, ?_⟩
  rcases h2 with h2 | ⟨g, cap, cur, hv, hg, hh, r⟩
  · exact Or.inl h2
  · exact Or.inr ⟨g, cap, cur, hv, hg, (hb.block _ (lt_of_block hh)).trans hh, r⟩
theorem ReadW.drew (h : ReadW w R v sv s xs wr) : ReadW w R v sv s xs wr.drew := h.below (Below.refl _ _).drew
theorem ReadW.drewN (h : ReadW w R v sv s xs wr) (n : Nat) : ReadW w R v sv s xs (wr.drewN n) := h.below (below_drewN (Below.refl _ _) n)
theorem ReadW.alloc (h : ReadW w R v sv s xs wr) (o : Obj) : ReadW w R v sv s xs (wr.alloc o) := h.below ((Below.refl _ _).alloc (Nat.le_refl _) o)
theorem ReadW.setR (h : ReadW w R v sv s xs wr) (s' : List UInt8) : ReadW w R v sv s' xs (wr.setCell ⟨R, 0, none⟩ (.string (bs s'))) := by
  have hl := h.lt
  refine ⟨h.lt, ?_, ?_, one_setCell h.hr, ownsRow_setCell_below h.own (by simp) _, h.bel.setCell (by simp; omega) _⟩
  · rw [Below.heap_setCell _ _ _ _ (by simp; omega)]; exact h.hm
  · rw [Below.heap_setCell _ _ _ _ (by simp; omega)]; exact h.he
theorem heap_set_two {w : World} {b : Nat} {c0 c1 u : Value} {t : TypeId} (h : w.heap[b]? = some (.cells #[c0, c1] t (0, 0))) :
    (w.setCell ⟨b, 0, none⟩ u).heap[b]? = some (.cells #[u, c1] t (0, 0)) ∧ (w.setCell ⟨b, 1, none⟩ u).heap[b]? = some (.cells #[c0, u] t (0, 0)) := by
  have hlt := lt_of_block h
  have h' : w.heap[b] = .cells #[c0, c1] t (0, 0) := by simpa [Array.getElem?_eq_getElem hlt] using h
  constructor
  all_goals
    show (w.heap.modify b _)[b]? = _
    rw [Array.getElem?_eq_getElem (by simpa using hlt), Array.getElem_modify_self, h']
    rfl
theorem ReadW.setV (h : ReadW w R v sv s xs wr) (v' : Int) : ReadW w R v' sv s xs (wr.setCell ⟨w.heap.size, 0, none⟩ (.int .i64 v')) := by
  have hl := h.lt
  refine ⟨h.lt, (heap_set_two h.hm).1, ?_, ?_, ownsRow_setCell_below h.own (by simp; omega) _, h.bel.setCell (by simp) _⟩
  · rw [Below.heap_setCell _ _ _ _ (by simp)]; exact h.he
  · rw [Below.heap_setCell _ _ _ _ (by simp; omega)]; exact h.hr
/-- behind an append and the store -/
theorem ReadW.app (h : ReadW w R v sv s xs wr) {w1 : World} {v' : Value} {xs' : List SegD} (ho : w1.ownsRow (R + 1) 46 3 v' xs'.length (xs'.flatMap SegD.vals)) (hg : wr.grownBy w1 sv.ownBlock) :
    ReadW w R v v' s xs' (w1.setCell ⟨w.heap.size, 1, none⟩ v') := by
  have hR := h.rlt
  have hl := h.lt
  have hne : ∀ k, k ≤ R → some k ≠ sv.ownBlock := fun k hk e => by have := (h.own.lt k e.symm).1; omega
  have b0 := (hg.block w.heap.size (by omega) (hne _ (by omega))).trans h.hm
  have b1 := (hg.block (w.heap.size + 1) (by omega) (hne _ (by omega))).trans h.he
  have b2 := (hg.block R (by omega) (hne _ (by omega))).trans h.hr
  refine ⟨h.lt, (heap_set_two b0).2, ?_, ?_, ownsRow_setCell_below ho (by simp; omega) _, (h.bel.grown hg (by omega) (fun k hk => by have := (h.own.lt k hk).1; omega)).setCell (by simp) _⟩
  · rw [Below.heap_setCell _ _ _ _ (by simp)]; exact b1
  · rw [Below.heap_setCell _ _ _ _ (by simp; omega)]; exact b2
theorem ReadW.ofOwn (h : ReadW w R v sv s xs wr) : ∃ a c, sv = .slice a xs.length c := by
  rcases h.own.2 with ⟨h1, h2⟩ | ⟨g, cap, cur, hv, _⟩
  · rw [h2]; exact ⟨_, _, h1⟩
  · exact ⟨_, _, hv⟩
theorem flat_at (xs : List SegD) (i : Nat) (h : i < xs.length) : (xs.flatMap SegD.vals)[i * 3]? = some (.int .i64 xs[i].N) ∧ (xs.flatMap SegD.vals)[i * 3 + 1]? = some (.int .i64 xs[i].Size) ∧ (xs.flatMap SegD.vals)[i * 3 + 2]? = some (.int .u32 (xs[i].Sum : Int)) := by
  induction xs generalizing i with
  | nil => simp at h
  | cons x r ih =>
    rcases i with _ | i
    · simp [SegD.vals]
    · have := ih i (by simpa using h)
      simp only [List.flatMap_cons, List.getElem_cons_succ]
      have e : ∀ j, (x.vals ++ r.flatMap SegD.vals)[(i + 1) * 3 + j]? = (r.flatMap SegD.vals)[i * 3 + j]? := fun j => by
        rw [List.getElem?_append_right (by simp [SegD.vals]; omega)]
        congr 1; simp [SegD.vals]; omega
      exact ⟨(e 0).trans this.1, (e 1).trans this.2.1, (e 2).trans this.2.2⟩
theorem SegsIn.ofOwn {W : World} {base : Nat} {a : Option Addr} {c : Nat} {xs : List SegD} (h : W.ownsRow base 46 3 (.slice a xs.length c) xs.length (xs.flatMap SegD.vals)) (hf : ∀ s ∈ xs, s.fits) : SegsIn W a xs := by
  refine ⟨fun i hi => ?_, hf⟩
  rcases h.2 with ⟨_, h2⟩ | ⟨g, cap, cur, hv, hg, hh, _⟩
  · omega
  · simp only [Value.slice.injEq] at hv
    obtain ⟨rfl, _, _⟩ := hv
    have hc := h.cells (g := g) rfl
    obtain ⟨f1, f2, f3⟩ := flat_at xs i hi
    have hz : ∀ j, (⟨g, 0, none⟩ : Addr).add j = ⟨g, 0 + j, none⟩ := fun j => by unfold Addr.add; split <;> simp_all
    have q1 := hc _ _ f1
    have q2 := hc _ _ f2
    have q3 := hc _ _ f3
    rw [hz] at q1 q2 q3
    exact ⟨g, 0, rfl, lt_of_block hh, q1, q2, q3⟩
theorem take_okW (lim n : Nat) (r : List UInt8) (hs : s.length ≤ 140737488351232) (ht : takeN lim s = some (n, r)) (h : ReadW w R v sv s xs wr) :
    Calls Tryd.prog 30 #[.pointer (some ⟨R, 0, none⟩), .int .u64 lim] wr fun e w' => e = .returned (.int .u64 n) ∧ ReadW w R v sv r xs w' := by
  obtain ⟨ht, hn⟩ := takeN_some ht
  refine (take_ok R s lim n r hs ht hn wr h.cellR h.freeR).mono ?_
  rintro e w' ⟨rfl, w1, hb, rfl⟩
  exact ⟨rfl, (h.below hb).setR r⟩
theorem take_badW (lim : Nat) (hs : s.length ≤ 140737488351232) (ht : takeN lim s = none) (h : ReadW w R v sv s xs wr) :
    Calls Tryd.prog 30 #[.pointer (some ⟨R, 0, none⟩), .int .u64 lim] wr fun e w' => e = .panicked formPanic ∧ ReadW w R v sv s xs w' := by
  refine (take_bad R s lim hs (takeN_none ht) wr h.cellR).mono ?_
  rintro e w' ⟨rfl, hb⟩
  exact ⟨rfl, h.below hb⟩
end
theorem takeN_len {lim n : Nat} {s r : List UInt8} (h : takeN lim s = some (n, r)) : r.length ≤ s.length := by
  have := (takeL_put (takeN_some h).1).1
  rw [this]; simp
end Go.Proofs.YtllaflgcladgoaaDoor
