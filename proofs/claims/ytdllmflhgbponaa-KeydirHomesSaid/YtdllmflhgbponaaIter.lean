/- a range over a function, by footprints -/
import Derived.RangeFuncNested
import Derived.RangeFuncBound
import Derived.RangeFuncCalls
import Derived.RangeFuncLeaves
import Derived.Shelf.Abstract
import Derived.Shelf.RegionOpen
import Derived.OwnWalkIn
import Derived.TacticsInMore
import Derived.LoopNIn
import Derived.LoopIn
import Derived.Test.YtdllmflhgbponaaFrm
namespace Go.Thw
open Go Go.RowKit

/-- what a body's state I says, its footprint being S, abides what others do: new blocks from B on that are not its own -/
def Abide {β : Type} (B : Nat) (I : β → (Nat → Prop) → World → Prop) : Prop :=
  ∀ s S A C G, I s S A → Frm G A C → (∀ k, G k → B ≤ k ∧ ¬ S k) → I s S C
/-- the iterator (function gf over lb), the world being w, hands E on, one by one; it reads the blocks of R -/
def Gives {α : Type} (P : Program) (gf : Nat) (lb : Array Value) (encs : α → Array Value) (R : Nat → Prop) (E : List α) (w : World) : Prop :=
  ∀ (l : Nat) (J Jx : List α → (Nat → Prop) → World → Prop) (S0 : Nat → Prop) (W : World), Below w.heap.size w W → Abide W.heap.size J → Abide W.heap.size Jx →
    (∀ pre x rest S W1, E = pre ++ x :: rest → J pre S W1 → YieldAt Fence.wide 0 P l (encs x) W1 fun e W' =>
      ∃ S', Frm (fun k => S k ∨ k = l) W1 W' ∧ (∀ k, k < W1.heap.size → S' k → S k) ∧ ((e = .returned (.bool true) ∧ J (pre ++ [x]) S' W') ∨ (e = .returned (.bool false) ∧ Jx (pre ++ [x]) S' W'))) →
    (∀ k, S0 k → k < W.heap.size ∧ ¬ R k) → l < W.heap.size → ¬ R l → J [] S0 W →
    Calls P gf (#[.func (.yield l) #[] #[]] ++ lb) W fun e W' => (∃ v, e = .returned v) ∧ ∃ S', (J E S' W' ∨ ∃ pre, pre <+: E ∧ Jx pre S' W')

/-- how a round's body may be left -/
def bodyOut {α : Type} (I : List α → (Nat → Prop) → World → Prop) (Ix : Code → List α → (Nat → Prop) → World → Prop) (xs : List α) (S : Nat → Prop) (W : World) : Exit → Act → World → Prop
  | .normal, _, W' => ∃ S', Frm S W W' ∧ (∀ k, k < W.heap.size → S' k → S k) ∧ I xs S' W'
  | .ret, _, W' => ∃ S', Frm S W W' ∧ (∀ k, k < W.heap.size → S' k → S k) ∧ Ix .ret xs S' W'
  | .exit id, _, W' => ∃ S', Frm S W W' ∧ (∀ k, k < W.heap.size → S' k → S k) ∧ Ix (.exit id) xs S' W'
  | .goto t, _, W' => ∃ S', Frm S W W' ∧ (∀ k, k < W.heap.size → S' k → S k) ∧ Ix (.goto t) xs S' W'
  | .panic _, _, _ => False
  | .outgrown, _, _ => False

theorem frm_putObj (W : World) (l : Nat) (o : Obj) : Frm (fun k => k = l) W (W.putObj l o) := ⟨rfl, rfl, rfl, by simp, fun _ _ hk => World.putObj_heap_other hk⟩

theorem wp_range {α : Type} {P : Program} {g : Operand} {ps : Array Tmp} {assign body : Code} {Q : Exit → Act → World → Prop} {a : Act} {w : World}
    {gf : Nat} {lb : Array Value} (hg : a.eval g = .func (.func gf) #[] lb) (eg : ∀ args w, (callFunc gf args).run P w = .ok (.enter gf args) w)
    {encs : α → Array Value} {R : Nat → Prop} {E : List α} {w0 : World} (hR : ∀ k, R k → k < w.heap.size) (hseq : Gives P gf lb encs R E w0) (hb0 : Below w0.heap.size w0 w) (hps : ∀ x, (encs x).size = ps.size)
    (I : List α → (Nat → Prop) → World → Prop) (Ix : Code → List α → (Nat → Prop) → World → Prop) (hI : Abide w.heap.size I) (hIx : ∀ c, Abide w.heap.size (Ix c)) (S0 : Nat → Prop) (hS0 : ∀ k, S0 k → k < w.heap.size ∧ ¬ R k) (h0 : I [] S0 w)
    (Ax : α → Act → (Nat → Prop) → World → Prop) (hAx : ∀ x a', Abide w.heap.size (fun (_ : Unit) S W => Ax x a' S W))
    (hassign : ∀ (l : Nat) (pre : List α) (x : α) (S : Nat → Prop) (W : World) (K : Act → World → Prop), I pre S W → (∀ a' S' W', Frm S W W' → (∀ k, k < W.heap.size → S' k → S k) → I pre S' W' → Ax x a' S' W' → K a' W') →
      assign.wpIn (Fence.wide.inRound l) 0 P (Exit.then K (fun _ _ _ => False)) { tmps := (ps.zip (encs x)).foldl (fun t (p, v) => t.setIfInBounds p v) a.tmps, defers := [] } W)
    (hbody : ∀ (l : Nat) (pre : List α) (x : α) (rest : List α) (a' : Act) (S : Nat → Prop) (W : World), E = pre ++ x :: rest → I pre S W → Ax x a' S W → body.wpIn (Fence.wide.inRound l) 0 P (bodyOut I Ix (pre ++ [x]) S W) a' W)
    (hdone : ∀ (D : Nat) (S : Nat → Prop) (W : World), w.heap.size ≤ D → ¬ S D → I E S W → W.heap[D]? = some (.deferred (some [])) → Q .normal { a with defers := { target := .collected D, args := #[] } :: a.defers } W)
    (hstop : ∀ (D : Nat) (c : Code) (pre : List α) (S : Nat → Prop) (W : World), w.heap.size ≤ D → ¬ S D → pre <+: E → Ix c pre S W → W.heap[D]? = some (.deferred (some [])) → c.wpIn Fence.wide 0 P Q { a with defers := { target := .collected D, args := #[] } :: a.defers } W) :
    (Code.rangeFunc g ps assign body).wpIn Fence.wide 0 P Q a w := by
  refine wpIn_rangeFunc fun fn hfn => ?_
  obtain ⟨rc, hrc⟩ : ∃ rc : LoopState → Option Code → Loop, rc = fun st pe => { state := st, pending := pe, fn, tmps := a.tmps, params := ps, assign, body, defers := w.heap.size } := ⟨_, rfl⟩
  have hlen1 : (w.alloc (.deferred (some []))).heap.size = w.heap.size + 1 := by simp
  obtain ⟨W1, hW1⟩ : ∃ W1, (w.alloc (.deferred (some []))).alloc (.loop (rc .ready none)) = W1 := ⟨_, rfl⟩
  have hbW : Below w.heap.size w W1 := by rw [← hW1]; exact ((Below.refl _ w).alloc (Nat.le_refl _) _).alloc (by simp) _
  have hsW : W1.heap.size = w.heap.size + 2 := by rw [← hW1]; simp
  have hl1 : W1.heap[w.heap.size + 1]? = some (.loop (rc .ready none)) := by
    rw [← hW1]; have := heap_alloc_new (w.alloc (.deferred (some []))) (.loop (rc .ready none)); rwa [hlen1] at this
  have hk1 : W1.heap[w.heap.size]? = some (.deferred (some [])) := by
    rw [← hW1]; exact (Below.heap_alloc _ _ _ (by simp)).trans (heap_alloc_new w _)
  refine ⟨w.heap.size + 1, [{ target := .collected w.heap.size, args := #[] }], W1, { target := .fn (.func gf) lb, args := #[.func (.yield (w.heap.size + 1)) #[] #[]] }, W1, gf,
    #[.func (.yield (w.heap.size + 1)) #[] #[]] ++ lb, W1, ?_, ?_, fun _ _ => trivial, ?_, fun h => by simp [Fence.wide] at h, ?_⟩
  · rw [← hW1, hrc]; exact run_enterLoop_outer _ _ _ _ _
  · simp only [resolve, hg]; simp [go_sem]
  · simp [invoke, go_sem, eg]
  · refine callsIn_wide.2 ((hseq (w.heap.size + 1)
      (fun pre S W => I pre S W ∧ (¬ S w.heap.size ∧ ¬ S (w.heap.size + 1)) ∧ W.heap[w.heap.size + 1]? = some (.loop (rc .ready none)) ∧ W.heap[w.heap.size]? = some (.deferred (some [])))
      (fun pre S W => ∃ c, Ix c pre S W ∧ (¬ S w.heap.size ∧ ¬ S (w.heap.size + 1)) ∧ W.heap[w.heap.size + 1]? = some (.loop (rc .done (some c))) ∧ W.heap[w.heap.size]? = some (.deferred (some [])))
      S0 W1 (hb0.trans (hbW.mono hb0.size)) ?_ ?_ ?_ (fun k hk => ⟨by have := (hS0 k hk).1; omega, (hS0 k hk).2⟩) (by omega) (fun h => by have := hR _ h; omega)
      ⟨hI _ _ _ _ (fun _ => False) h0 (Frm.of_below hbW) (fun _ h => h.elim), ⟨fun h => by have := (hS0 _ h).1; omega, fun h => by have := (hS0 _ h).1; omega⟩, hl1, hk1⟩).mono ?_)
    · rintro s S A C G ⟨h1, h2, h3, h4⟩ hG hk
      exact ⟨hI _ _ _ _ _ h1 hG (fun k e => ⟨by have := (hk k e).1; omega, (hk k e).2⟩), h2, hG.blk h3 (fun e => by have := (hk _ e).1; omega), hG.blk h4 (fun e => by have := (hk _ e).1; omega)⟩
    · rintro s S A C G ⟨c, h1, h2, h3, h4⟩ hG hk
      exact ⟨c, hIx c _ _ _ _ _ h1 hG (fun k e => ⟨by have := (hk k e).1; omega, (hk k e).2⟩), h2, hG.blk h3 (fun e => by have := (hk _ e).1; omega), hG.blk h4 (fun e => by have := (hk _ e).1; omega)⟩
    · rintro pre x rest S W hE ⟨hi, ⟨hn0, hn1⟩, hl, hk⟩
      have hlt := lt_of_block hl
      have hy := run_yield (P := P) (args := encs x) hl (by rw [hrc]; exact hps x)
      rw [hrc] at hy
      refine ⟨fn, _, assign, body, hy, roundIn_of_wpIn hfn (hassign _ pre x S W _ hi fun a' S' W' hF' hS' hi' hax => ?_)⟩
      have hn0' : ¬ S' w.heap.size := fun e => hn0 (hS' _ (by omega) e)
      have hn1' : ¬ S' (w.heap.size + 1) := fun e => hn1 (hS' _ hlt e)
      have hl' := hF'.blk hl hn1
      have hk' := hF'.blk hk hn0
      refine ⟨_, run_beginRound hl' (by rw [hrc]), ?_⟩
      have hP := frm_putObj W' (w.heap.size + 1) (.loop { rc .ready none with state := .busy })
      have hP2 : ∀ k, k = w.heap.size + 1 → w.heap.size ≤ k ∧ ¬ S' k := fun k e => by subst e; exact ⟨by omega, hn1'⟩
      have hl2 : (W'.putObj (w.heap.size + 1) (.loop { rc .ready none with state := .busy })).heap[w.heap.size + 1]? = some (.loop { rc .ready none with state := .busy }) := World.putObj_heap_same (lt_of_block hl')
      have hk2 := hP.blk hk' (by omega)
      have hb := hbody (w.heap.size + 1) pre x rest a' S' _ hE (hI _ _ _ _ _ hi' hP hP2) (hAx x a' () _ _ _ _ hax hP hP2)
      refine wpIn_mono hb ?_
      have fin : ∀ (jump : Option Code) (S3 : Nat → Prop) (W3 : World), Frm S' (W'.putObj (w.heap.size + 1) (.loop { rc .ready none with state := .busy })) W3 → (∀ k, k < (W'.putObj (w.heap.size + 1) (.loop { rc .ready none with state := .busy })).heap.size → S3 k → S' k) →
          (Instr.endRound (w.heap.size + 1) jump).run P W3 = .ok (.bool jump.isNone) (W3.putObj (w.heap.size + 1) (.loop (rc (if jump.isNone then .ready else .done) jump))) ∧
          (¬ S3 w.heap.size ∧ ¬ S3 (w.heap.size + 1)) ∧
          (W3.putObj (w.heap.size + 1) (.loop (rc (if jump.isNone then .ready else .done) jump))).heap[w.heap.size + 1]? = some (.loop (rc (if jump.isNone then .ready else .done) jump)) ∧
          (W3.putObj (w.heap.size + 1) (.loop (rc (if jump.isNone then .ready else .done) jump))).heap[w.heap.size]? = some (.deferred (some [])) ∧
          Frm (fun k => S k ∨ k = w.heap.size + 1) W (W3.putObj (w.heap.size + 1) (.loop (rc (if jump.isNone then .ready else .done) jump))) ∧
          Frm (fun k => k = w.heap.size + 1) W3 (W3.putObj (w.heap.size + 1) (.loop (rc (if jump.isNone then .ready else .done) jump))) := by
        intro jump S3 W3 hF3 hS3
        have hsz : (W'.putObj (w.heap.size + 1) (.loop { rc .ready none with state := .busy })).heap.size = W'.heap.size := by simp
        have hl3 := hF3.blk hl2 hn1'
        have hk3 := hF3.blk hk2 hn0'
        have hP3 := frm_putObj W3 (w.heap.size + 1) (.loop (rc (if jump.isNone then .ready else .done) jump))
        refine ⟨?_, ⟨fun e => hn0' (hS3 _ (by rw [hsz]; exact lt_of_block hk') e), fun e => hn1' (hS3 _ (by rw [hsz]; exact lt_of_block hl') e)⟩, World.putObj_heap_same (lt_of_block hl3), hP3.blk hk3 (by omega), ?_, hP3⟩
        · have := run_endRound (P := P) jump hl3
          rw [hrc] at this ⊢
          exact this
        · have f1 : Frm (fun k => S k ∨ k = w.heap.size + 1) W W' := hF'.mono (fun _ _ e => Or.inl e)
          have f2 := f1.trans hP (fun _ _ e => Or.inr e)
          have f3 := f2.trans hF3 (fun k hk e => Or.inl (hS' k hk e))
          exact f3.trans hP3 (fun _ _ e => Or.inr e)
      have fS : ∀ S3 : Nat → Prop, (∀ k, k < (W'.putObj (w.heap.size + 1) (.loop { rc .ready none with state := .busy })).heap.size → S3 k → S' k) → ∀ k, k < W.heap.size → S3 k → S k := fun S3 h3 k hk e =>
        hS' k hk (h3 k (by have := hF'.size; simp; omega) e)
      rintro e a3 W3 hp
      cases e with
      | normal =>
        obtain ⟨S3, g1, g2, g3⟩ := hp
        obtain ⟨r1, r2, r3, r4, r5, r6⟩ := fin none S3 W3 g1 g2
        exact ⟨_, _, r1, S3, r5, fS S3 g2, .inl ⟨rfl, hI _ _ _ _ _ g3 r6 (fun k e => by subst e; exact ⟨by omega, r2.2⟩), r2, r3, r4⟩⟩
      | ret =>
        obtain ⟨S3, g1, g2, g3⟩ := hp
        obtain ⟨r1, r2, r3, r4, r5, r6⟩ := fin (some .ret) S3 W3 g1 g2
        exact ⟨_, _, r1, S3, r5, fS S3 g2, .inr ⟨rfl, _, hIx _ _ _ _ _ _ g3 r6 (fun k e => by subst e; exact ⟨by omega, r2.2⟩), r2, r3, r4⟩⟩
      | exit id =>
        obtain ⟨S3, g1, g2, g3⟩ := hp
        obtain ⟨r1, r2, r3, r4, r5, r6⟩ := fin (some (.exit id)) S3 W3 g1 g2
        exact ⟨_, _, r1, S3, r5, fS S3 g2, .inr ⟨rfl, _, hIx _ _ _ _ _ _ g3 r6 (fun k e => by subst e; exact ⟨by omega, r2.2⟩), r2, r3, r4⟩⟩
      | goto t =>
        obtain ⟨S3, g1, g2, g3⟩ := hp
        obtain ⟨r1, r2, r3, r4, r5, r6⟩ := fin (some (.goto t)) S3 W3 g1 g2
        exact ⟨_, _, r1, S3, r5, fS S3 g2, .inr ⟨rfl, _, hIx _ _ _ _ _ _ g3 r6 (fun k e => by subst e; exact ⟨by omega, r2.2⟩), r2, r3, r4⟩⟩
      | panic ch => exact hp.elim
      | outgrown => exact hp.elim
    · rintro e W2 ⟨⟨v, rfl⟩, S2, (⟨hi, ⟨hn0, hn1⟩, hl, hk⟩ | ⟨pre, hpre, c, hi, ⟨hn0, hn1⟩, hl, hk⟩)⟩
      · have hP := frm_putObj W2 (w.heap.size + 1) (.loop { rc .ready none with state := .exhausted })
        exact ⟨none, _, by have := run_endLoop (P := P) hl (by rw [hrc]; simp); rw [hrc] at this ⊢; exact this, hdone _ S2 _ (Nat.le_refl _) hn0 (hI _ _ _ _ _ hi hP (fun k e => by subst e; exact ⟨by omega, hn1⟩)) (hP.blk hk (by omega))⟩
      · have hP := frm_putObj W2 (w.heap.size + 1) (.loop { rc .done (some c) with state := .exhausted })
        exact ⟨some c, _, by have := run_endLoop (P := P) hl (by rw [hrc]; simp); rw [hrc] at this ⊢; exact this, hstop _ c pre S2 _ (Nat.le_refl _) hn0 hpre (hIx c _ _ _ _ _ hi hP (fun k e => by subst e; exact ⟨by omega, hn1⟩)) (hP.blk hk (by omega))⟩
end Go.Thw
