/- what a call may turn: the blocks of F, and new ones -/
import Derived.Test.YtdllmflhgbponaaBase
import Derived.Test.YtdllmflhgbponaaAmid
namespace Go.Thw
open Go Go.RowKit

structure Frm (F : Nat → Prop) (w w' : World) : Prop where
  os : w'.os = w.os
  tape : w'.tape = w.tape
  output : w'.output = w.output
  size : w.heap.size ≤ w'.heap.size
  block : ∀ k, k < w.heap.size → ¬ F k → w'.heap[k]? = w.heap[k]?
section
variable {F G : Nat → Prop} {a b c w w' : World}
theorem Frm.refl (F : Nat → Prop) (w : World) : Frm F w w := ⟨rfl, rfl, rfl, Nat.le_refl _, fun _ _ _ => rfl⟩
theorem Frm.trans (h : Frm F a b) (g : Frm G b c) (hG : ∀ k, k < a.heap.size → G k → F k) : Frm F a c :=
  ⟨g.os.trans h.os, g.tape.trans h.tape, g.output.trans h.output, Nat.le_trans h.size g.size,
    fun k hk hn => (g.block k (Nat.lt_of_lt_of_le hk h.size) (fun e => hn (hG k hk e))).trans (h.block k hk hn)⟩
theorem Frm.tr (h : Frm F a b) (g : Frm F b c) : Frm F a c := h.trans g fun _ _ e => e
theorem Frm.mono (h : Frm F a b) (hG : ∀ k, k < a.heap.size → F k → G k) : Frm G a b := ⟨h.os, h.tape, h.output, h.size, fun k hk hn => h.block k hk fun e => hn (hG k hk e)⟩
theorem Frm.of_below (h : Below a.heap.size a b) : Frm F a b := ⟨h.os, h.tape, h.output, h.size, fun k hk _ => h.block k hk⟩
theorem Frm.below {B : Nat} (h : Frm F a b) (hB : B ≤ a.heap.size) (hF : ∀ k, k < B → ¬ F k) : Below B a b :=
  ⟨h.os, h.tape, h.output, h.size, fun k hk => h.block k (by omega) (hF k hk)⟩
theorem Frm.then_below (h : Frm F a b) (g : Below b.heap.size b c) : Frm F a c := h.trans (G := fun _ => False) (Frm.of_below g) (fun _ _ e => e.elim)
theorem Frm.alloc (h : Frm F a b) (o : Obj) : Frm F a (b.alloc o) := h.then_below ((Below.refl _ _).alloc (Nat.le_refl _) o)
theorem Frm.drew (h : Frm F a b) : Frm F a b.drew := h.then_below (Below.refl _ _).drew
theorem Frm.drewN (h : Frm F a b) (n : Nat) : Frm F a (b.drewN n) := h.then_below (below_drewN (Below.refl _ _) n)
theorem Frm.set (h : Frm F a b) (p : Addr) (v : Value) (hp : p.block < a.heap.size → F p.block) : Frm F a (b.setCell p v) :=
  h.trans (G := fun k => k = p.block) ⟨rfl, rfl, rfl, by simp, fun k _ hk => Below.heap_setCell _ _ _ _ hk⟩ (fun k hk e => by subst e; exact hp hk)
theorem Frm.blk (h : Frm F a b) {k : Nat} {o : Obj} (hk : a.heap[k]? = some o) (hn : ¬ F k) : b.heap[k]? = some o := (h.block k (lt_of_block hk) hn).trans hk
theorem Frm.cell (h : Frm F a b) {p : Addr} {v : Value} (hc : a.cell? p = some v) (hn : ¬ F p.block) : b.cell? p = some v :=
  (World.cell?_of_block (h.block _ (World.block_lt_of_cell? _ _ hc) hn)).trans hc
theorem Frm.frozen (h : Frm F a b) {p : Addr} {f : Bool} (hc : a.frozen? p = f) (hk : p.block < a.heap.size) (hn : ¬ F p.block) : b.frozen? p = f :=
  (World.frozen?_of_block (h.block _ hk hn)).trans hc
theorem Frm.grown (h : Frm F a b) {row : Option Nat} (g : b.grownBy c row) (hr : ∀ k, row = some k → k < a.heap.size → F k) : Frm F a c :=
  h.trans (G := fun k => some k = row) ⟨g.os, g.tape, g.output, g.size, fun k hk hn => g.block k hk hn⟩ (fun k hk e => hr k e.symm hk)
theorem Frm.of_grown {row : Option Nat} (g : a.grownBy b row) (hr : ∀ k, row = some k → F k) : Frm F a b :=
  (Frm.refl F a).grown g fun k e _ => hr k e
end
theorem heap_set_cell {w : World} {b off : Nat} {v : Value} {cs : Array Value} {t : TypeId} (h : w.heap[b]? = some (.cells cs t (0, 0))) : (w.setCell ⟨b, off, none⟩ v).heap[b]? = some (.cells (cs.setIfInBounds off v) t (0, 0)) := by
  have hlt := lt_of_block h
  have h' : w.heap[b] = .cells cs t (0, 0) := by simpa [Array.getElem?_eq_getElem hlt] using h
  show (w.heap.modify b _)[b]? = _
  rw [Array.getElem?_eq_getElem (by simpa using hlt), Array.getElem_modify_self, h']
  rfl
theorem cell_set_off {w : World} {p q : Addr} {v : Value} (h : q.block ≠ p.block) : (w.setCell p v).cell? q = w.cell? q := World.cell?_of_block (Below.heap_setCell _ _ _ _ h)
theorem keep_cell {wr w1 : World} {p : Addr} {v : Option Value} (hb : Below wr.heap.size wr w1) (h : wr.cell? p = v) (hv : v.isSome = true := by rfl) : w1.cell? p = v := by
  obtain ⟨u, rfl⟩ := Option.isSome_iff_exists.1 hv
  exact (hb.cell (World.block_lt_of_cell? _ _ h)).trans h
theorem alloc_keep {w : World} {o : Obj} {p : Addr} {v : Value} (h : w.cell? p = some v) : (w.alloc o).cell? p = some v := keep_cell ((Below.refl _ w).alloc (Nat.le_refl _) o) h
theorem bcell {W w1 : World} (hb : Below W.heap.size W w1) : (∀ b o, b < W.heap.size → w1.cell? ⟨b, o, none⟩ = W.cell? ⟨b, o, none⟩) ∧ (∀ b o, b < W.heap.size → w1.frozen? ⟨b, o, none⟩ = W.frozen? ⟨b, o, none⟩) :=
  ⟨fun b o h => hb.cell (p := ⟨b, o, none⟩) h, fun b o h => hb.frozen (p := ⟨b, o, none⟩) h⟩
end Go.Thw
