/- a region that draws its order, in which memory is made beside what reads and calls: one walk serves every order -/
import Derived.Test.YtdllmflhgbponaaAmid
namespace Go.Thw
open Go Go.RowKit

section
variable {P : Program} {ops : Array Oper} {md : Region.Mode} {w0 : World}

/-- in every world amid w0 the operation yields v, and but makes memory -/
def Oper.calmAt (P : Program) (w0 : World) (o : Oper) (a : Act) (v : Value) : Prop :=
  ∀ p : Amid w0, Oper.quietUpon P (fun w'' => Below p.at_.heap.size p.at_ w'') p.at_ v ((execOp a.eval o).run P p.at_)
def calmOp (P : Program) (ops : Array Oper) (w0 : World) (o : Oper) (K : Act → Prop) (a : Act) : Prop :=
  if Region.wanted o (yielded ops a.tmps) then ∃ v, Oper.calmAt P w0 o a v ∧ K (a.put o.dst v) else K (a.put o.dst undef)
def wpCalm (P : Program) (ops : Array Oper) (w0 : World) (Q : Act → Prop) : List Oper → Act → Prop
  | [], a => Q a
  | o :: rest, a => calmOp P ops w0 o (wpCalm P ops w0 Q rest) a
theorem wpCalm_nil {Q : Act → Prop} {a : Act} (h : Q a) : wpCalm P ops w0 Q [] a := h
theorem wpCalm_step {Q : Act → Prop} {a : Act} {o : Oper} {rest : List Oper}
    (h : ∀ K : Act → Prop, (∀ a, wpCalm P ops w0 Q rest a → K a) → calmOp P ops w0 o K a) : wpCalm P ops w0 Q (o :: rest) a := h _ fun _ h => h

/-- what the operation gives, whichever memory has been made meanwhile -/
def CalmIn (P : Program) (ops : Array Oper) (w0 : World) (o : Oper) (v : Value) (a : Act) : Prop :=
  (Region.wanted o (yielded ops a.tmps) = true ∧ Oper.calmAt P w0 o a v) ∨ (Region.wanted o (yielded ops a.tmps) = false ∧ v = undef)
theorem calmIn_of {o : Oper} {a : Act} {K : Act → Prop} (h : calmOp P ops w0 o K a) : ∃ v, CalmIn P ops w0 o v a ∧ K (a.put o.dst v) := by
  unfold calmOp at h
  by_cases hw : Region.wanted o (yielded ops a.tmps) = true
  · rw [if_pos hw] at h
    obtain ⟨v, h1, h2⟩ := h
    exact ⟨v, .inl ⟨hw, h1⟩, h2⟩
  · rw [if_neg hw] at h
    exact ⟨undef, .inr ⟨by simpa using hw, rfl⟩, h⟩
theorem CalmIn.op {o : Oper} {v : Value} {a : Act} (h : CalmIn P ops w0 o v a) {K : Act → Prop} (k : K (a.put o.dst v)) : calmOp P ops w0 o K a := by
  unfold calmOp
  rcases h with ⟨hw, hv⟩ | ⟨hw, rfl⟩
  · rw [if_pos hw]; exact ⟨v, hv, k⟩
  · rw [if_neg (by rw [hw]; simp)]; exact k
theorem CalmIn.put {o : Oper} {v : Value} {a : Act} (h : CalmIn P ops w0 o v a) (hs : ∀ cs b, o.op ≠ .select cs b) {d : Option Tmp} {u : Value} (hd : ∀ t, d = some t → t ∉ o.looksAt ops) : CalmIn P ops w0 o v (a.put d u) := by
  unfold CalmIn Oper.calmAt at *
  rw [execOp_put o hs a d u hd, wanted_put o a d u hd]
  exact h
theorem CalmIn.unput {o : Oper} {v : Value} {a : Act} {d : Option Tmp} {u : Value} (h : CalmIn P ops w0 o v (a.put d u)) (hs : ∀ cs b, o.op ≠ .select cs b) (hd : ∀ t, d = some t → t ∉ o.looksAt ops) : CalmIn P ops w0 o v a := by
  unfold CalmIn Oper.calmAt at *
  rw [execOp_put o hs a d u hd, wanted_put o a d u hd] at h
  exact h
theorem CalmIn.run {i : Nat} {o : Oper} (hi : ops[i]? = some o) {v : Value} {a : Act} (h : CalmIn P ops w0 o v a) {K : Act → World → Prop} {Q : Exit → Act → World → Prop} {w : World} (hw : Below w0.heap.size w0 w)
    (k : ∀ w', Below w.heap.size w w' → K (a.put o.dst v) w') : wpOp P ops Q i K a w := by
  unfold wpOp
  simp only [hi]
  rcases h with ⟨hn, hv⟩ | ⟨hn, rfl⟩
  · rw [if_pos hn]
    refine Or.inl ?_
    have h1 := hv ⟨w, hw⟩
    unfold Oper.wp
    simp only at h1
    generalize (execOp a.eval o).run P w = r at *
    cases r with
    | ok n w' =>
      cases n <;> simp only [Oper.quietUpon] at h1 <;> simp only [Oper.upon]
      case value u => obtain ⟨e1, e2⟩ := h1; rw [e1, e2]; exact k _ (Below.refl _ _)
      case skip => obtain ⟨e1, e2⟩ := h1; rw [e1, ← e2]; exact k _ (Below.refl _ _)
      case enter f args => obtain ⟨e1, hc⟩ := h1; rw [e1]; exact hc.mono fun e w'' ⟨he, hw''⟩ => by subst he; exact k _ hw''
    | halt x w' => simp only [Oper.quietUpon] at h1
  · rw [if_neg (by rw [hn]; simp)]
    exact k _ (Below.refl _ _)

/-- operation number n makes a block; each ahead of it neither waits for it nor looks at it, nor it at these -/
def aloneB (md : Region.Mode) (ops : Array Oper) (n : Nat) : Bool :=
  match ops[n]? with
  | none => false
  | some on => on.guard.isNone && on.after.all (fun e => !Region.binds md e) && (List.range n).all fun j => match ops[j]? with
    | none => false
    | some oj => !Region.waitsFor md ops j n && on.apart ops oj && oj.apart ops on

/-- f of the operations ahead of number n are left, calm in whatever order; then L -/
def AnyCalm (P : Program) (md : Region.Mode) (ops : Array Oper) (w0 : World) (n : Nat) (L : Array Bool → Act → Prop) : Nat → Array Bool → Act → Prop
  | 0, done, a => L done a
  | f + 1, done, a => (∃ i, i ∈ Region.ready md ops done ∧ i ≠ n) ∧ ∀ i oi, ops[i]? = some oi → i ∈ Region.ready md ops done → i ≠ n → i < n ∧ calmOp P ops w0 oi (AnyCalm P md ops w0 n L f (done.setIfInBounds i true)) a

theorem AnyCalm.first {n i : Nat} {oi : Oper} {v : Value} {L : Array Bool → Act → Prop} (hi : ops[i]? = some oi) (hsel : ∀ (j : Nat) (o : Oper) cs b, ops[j]? = some o → o.op ≠ .select cs b)
    (hs : Region.sinkB md ops (n + 1) = true) (hc : Region.chainB md ops (n + 1) = true) (hn : n + 1 < ops.size) (hin : i < n) (hL : ∀ done a, L done a → ∀ j, j ∈ Region.ready md ops done → j ≠ n → n + 1 ≤ j) (f : Nat) :
    ∀ (done : Array Bool) (a : Act), HeadInv md ops (n + 1) done →
      (∀ j oj, ops[j]? = some oj → j ≠ i → done.getD j true = false → (∀ e ∈ oj.after, Region.binds md e = true → e.on ≠ i) → oi.apart ops oj = true) →
      i ∈ Region.ready md ops done → CalmIn P ops w0 oi v a →
      AnyCalm P md ops w0 n L f (done.setIfInBounds i true) (a.put oi.dst v) → AnyCalm P md ops w0 n L (f + 1) done a := by
  induction f with
  | zero =>
    intro done a inv _ hr hy H
    refine ⟨⟨i, hr, by omega⟩, fun j oj hoj hj hjn => ?_⟩
    have hjl : j < n + 1 := Nat.lt_of_not_le fun h => tail_waits hs hc hn inv _ i rfl (by omega) (mem_ready.1 hr).1 j h hj
    by_cases hji : j = i
    · subst hji
      obtain rfl := Option.some.inj (hi.symm.trans hoj)
      exact ⟨by omega, hy.op H⟩
    · exact absurd (hL _ _ H j (ready_mono hj hji) hjn) (by omega)
  | succ f ih =>
    intro done a inv hfree hr hy H
    have hun := (mem_ready.1 hr).1
    refine ⟨⟨i, hr, by omega⟩, fun j oj hoj hj hjn => ?_⟩
    have hjl : j < n + 1 := Nat.lt_of_not_le fun h => tail_waits hs hc hn inv _ i rfl (by omega) hun j h hj
    by_cases hji : j = i
    · subst hji
      obtain rfl := Option.some.inj (hi.symm.trans hoj)
      exact ⟨by omega, hy.op H⟩
    · refine ⟨by omega, ?_⟩
      obtain ⟨hjun, oj', hoj', hall⟩ := mem_ready.1 hj
      obtain rfl := Option.some.inj (hoj.symm.trans hoj')
      have hnot : ∀ e ∈ oj.after, Region.binds md e = true → e.on ≠ i := fun e he hb heq => by
        have h1 := hall e he hb
        rw [heq, getD_both hun] at h1
        cases h1
      obtain ⟨a1, a2, a3⟩ := Oper.apart_spec (hfree j oj hoj hji hjun hnot)
      obtain ⟨u, hu, hK⟩ := calmIn_of ((H.2 j oj hoj (ready_mono hj hji) hjn).2)
      have hu' := hu.unput (fun cs b => hsel j oj cs b hoj) a1
      refine hu'.op ?_
      refine ih (done.setIfInBounds j true) _ (inv.set hj hjl) (fun k ok hk hki hun' hno => hfree k ok hk hki ?_ hno) (ready_mono hr (Ne.symm hji)) (hy.put (fun cs b => hsel i oi cs b hi) a3) ?_
      · by_cases hjk : j = k
        · subst hjk; exact hjun
        · rw [getD_set_ne true hjk] at hun'; exact hun'
      · rw [Array.setIfInBounds_comm _ _ hji, ← Act.put_comm a v u a2]
        exact hK

theorem AnyCalm.lex {n g : Nat} {Lq : Act → Prop} (hsel : Region.noSelect ops = true) (hs : Region.sinkB md ops (n + 1) = true) (hc : Region.chainB md ops (n + 1) = true) (hn : n + 1 < ops.size) (l : List Oper) :
    ∀ (k : Nat) (done : Array Bool) (a : Act), (∀ j, j < l.length → l[j]? = ops[k + j]?) → k + l.length = n → HeadInv md ops (n + 1) done →
    Region.lexHead md ops g (l.length + 1) k done = true → wpCalm P ops w0 Lq l a →
    AnyCalm P md ops w0 n (fun done' a' => (HeadInv md ops (n + 1) done' ∧ n ∈ Region.ready md ops done' ∧ Region.seqB md ops g (n + 1) (done'.setIfInBounds n true) = true) ∧ Lq a') l.length done a := by
  induction l with
  | nil =>
    intro k done a _ hk inv hB h
    obtain rfl : k = n := by simpa using hk
    simp only [List.length_nil, Region.lexHead, Bool.and_eq_true] at hB
    exact ⟨⟨inv, by simpa using hB.1.1, hB.2⟩, h⟩
  | cons o l ih =>
    intro k done a hl hk inv hB h
    have h0 : ops[k]? = some o := by simpa using (hl 0 (by simp)).symm
    simp only [List.length_cons, Region.lexHead, Bool.and_eq_true] at hB
    obtain ⟨⟨hr, hf⟩, hB'⟩ := hB
    simp only [List.length_cons] at hk
    have hr' : k ∈ Region.ready md ops done := by simpa using hr
    obtain ⟨v, hy, hK⟩ := calmIn_of (h : calmOp P ops w0 o (wpCalm P ops w0 Lq l) a)
    exact AnyCalm.first h0 (Region.noSelect_spec hsel) hs hc hn (by omega) (fun done' a' hL j hj hjn => seqB_ready hL.1.2.2 j (ready_mono hj hjn)) l.length done a inv (Region.free_spec h0 hf) hr' hy
      (ih (k + 1) _ _ (fun j hj => by have := hl (j + 1) (by simp; omega); simpa [Nat.add_assoc, Nat.add_comm 1 j] using this) (by omega) (inv.set hr' (by omega)) (by simpa [Region.lexHead] using hB') hK)

/-- the block has been made -/
theorem AnyCalm.made {n g : Nat} {on : Oper} (hon : ops[n]? = some on) (hal : aloneB md ops n = true) (hsel : ∀ (j : Nat) (o : Oper) cs b, ops[j]? = some o → o.op ≠ .select cs b) (hs : Region.sinkB md ops (n + 1) = true) (hc : Region.chainB md ops (n + 1) = true) (hn : n + 1 < ops.size)
    {L : Array Bool → Act → Prop} {Q : Exit → Act → World → Prop} {ob : Obj} {b : Nat}
    (hL : ∀ done a w, L done a → Below w0.heap.size w0 w → w.heap[b]? = some ob → wpAny P md ops Q g (done.setIfInBounds n true) (a.put on.dst (.pointer (some ⟨b, 0, none⟩))) w) (f : Nat) :
    ∀ done a w, HeadInv md ops (n + 1) (done.setIfInBounds n true) → AnyCalm P md ops w0 n L f done a → Below w0.heap.size w0 w → w.heap[b]? = some ob → wpAny P md ops Q (f + g) (done.setIfInBounds n true) (a.put on.dst (.pointer (some ⟨b, 0, none⟩))) w := by
  unfold aloneB at hal
  rw [hon] at hal
  simp only [Bool.and_eq_true, List.all_eq_true, List.mem_range] at hal
  induction f with
  | zero => intro done a w _ h hw hb; rw [Nat.zero_add]; exact hL _ _ _ h hw hb
  | succ f ih =>
    intro done a w inv h hw hb
    obtain ⟨⟨i0, h0, h0n⟩, h1⟩ := h
    have h0' := ready_mono h0 h0n
    rw [show f + 1 + g = (f + g) + 1 by omega]
    refine ⟨fun he => absurd h0' (by rw [he]; simp), fun i hi => ?_⟩
    obtain ⟨hun, oi, hoi, hall⟩ := mem_ready.1 hi
    have hin : i ≠ n := fun e => by
      subst e
      have hsz : i < done.size := by have := inv.size; simp at this; omega
      simp [hsz] at hun
    have hil : i < n + 1 := Nat.lt_of_not_le fun hx => by
      obtain ⟨q, hq⟩ : ∃ q, ops[i0]? = some q := let ⟨_, q, hq, _⟩ := mem_ready.1 h0; ⟨q, hq⟩
      exact tail_waits hs hc hn inv _ i0 rfl (by have := (h1 i0 q hq h0 h0n).1; omega) (mem_ready.1 h0').1 i hx hi
    have hal2 := hal.2 i (by omega)
    rw [hoi] at hal2
    simp only [Bool.and_eq_true, Bool.not_eq_true'] at hal2
    obtain ⟨⟨hwt, hap1⟩, hap2⟩ := hal2
    have hid : i ∈ Region.ready md ops done := by
      rw [getD_set_ne true (Ne.symm hin)] at hun
      refine mem_ready.2 ⟨hun, oi, hoi, fun e he hb => ?_⟩
      have hne : e.on ≠ n := fun hx => by
        have : Region.waitsFor md ops i n = true := by
          unfold Region.waitsFor
          rw [hoi]
          exact Array.any_eq_true'.2 ⟨e, he, by simp [hb, hx]⟩
        rw [this] at hwt; cases hwt
      have := hall e he hb
      rwa [getD_set_ne false (Ne.symm hne)] at this
    obtain ⟨v, hv, hK⟩ := calmIn_of (h1 i oi hoi hid hin).2
    obtain ⟨b1, b2, b3⟩ := Oper.apart_spec hap1
    refine (hv.put (fun cs b => hsel i oi cs b hoi) b1).run hoi hw fun w' hw' => ?_
    have hinv' : HeadInv md ops (n + 1) ((done.setIfInBounds i true).setIfInBounds n true) := by
      rw [Array.setIfInBounds_comm _ _ hin]; exact inv.set hi hil
    have := ih (done.setIfInBounds i true) (a.put oi.dst v) w' hinv' hK (hw.trans (hw'.mono hw.size)) ((hw'.block b (lt_of_block hb)).trans hb)
    rw [Array.setIfInBounds_comm _ _ hin] at this
    rw [Act.put_comm a _ v b2]
    exact this

/-- .. or it has not -/
theorem AnyCalm.any {n g : Nat} {on : Oper} (hon : ops[n]? = some on) (hal : aloneB md ops n = true) (hsel : ∀ (j : Nat) (o : Oper) cs b, ops[j]? = some o → o.op ≠ .select cs b) (hs : Region.sinkB md ops (n + 1) = true) (hc : Region.chainB md ops (n + 1) = true) (hn : n + 1 < ops.size)
    {L : Array Bool → Act → Prop} {Q : Exit → Act → World → Prop} {ob : Obj} (hrun : ∀ (a : Act) (w : World), (execOp a.eval on).run P w = .ok (.value (.pointer (some ⟨w.heap.size, 0, none⟩))) (w.alloc ob))
    (hL0 : ∀ done a, L done a → ∀ j, j ∈ Region.ready md ops done → j ≠ n → n + 1 ≤ j)
    (hL : ∀ b done a w, w0.heap.size ≤ b → L done a → Below w0.heap.size w0 w → w.heap[b]? = some ob → wpAny P md ops Q g (done.setIfInBounds n true) (a.put on.dst (.pointer (some ⟨b, 0, none⟩))) w) (f : Nat) :
    ∀ done a w, HeadInv md ops (n + 1) done → n ∈ Region.ready md ops done → AnyCalm P md ops w0 n L f done a → Below w0.heap.size w0 w → wpAny P md ops Q (f + 1 + g) done a w := by
  have hmade : ∀ f done a w, HeadInv md ops (n + 1) done → n ∈ Region.ready md ops done → AnyCalm P md ops w0 n L f done a → Below w0.heap.size w0 w →
      wpOp P ops Q n (wpAny P md ops Q (f + g) (done.setIfInBounds n true)) a w := fun f done a w inv hr h hw => by
    have hg : on.guard.isNone = true := by
      unfold aloneB at hal; rw [hon] at hal; simp only [Bool.and_eq_true] at hal; exact hal.1.1
    unfold wpOp
    simp only [hon]
    rw [if_pos (by unfold Region.wanted; simp only [Option.isNone_iff_eq_none] at hg; rw [hg])]
    refine Or.inl ?_
    unfold Oper.wp
    rw [hrun]
    exact AnyCalm.made hon hal hsel hs hc hn (fun done a w hL1 hw1 hb => hL _ done a w hw.size hL1 hw1 hb) f done a _ (inv.set hr (by omega)) h (hw.alloc hw.size _) (heap_alloc_new w ob)
  induction f with
  | zero =>
    intro done a w inv hr h hw
    rw [show 0 + 1 + g = g + 1 by omega]
    refine ⟨fun he => absurd hr (by rw [he]; simp), fun i hi => ?_⟩
    by_cases hin : i = n
    · subst hin
      have := hmade 0 done a w inv hr h hw
      rwa [Nat.zero_add] at this
    · have h1 := hL0 _ _ h i hi hin
      exact absurd hi (tail_waits hs hc hn inv _ n rfl (by omega) (mem_ready.1 hr).1 i h1)
  | succ f ih =>
    intro done a w inv hr h hw
    rw [show f + 1 + 1 + g = (f + 1 + g) + 1 by omega]
    refine ⟨fun he => absurd hr (by rw [he]; simp), fun i hi => ?_⟩
    by_cases hin : i = n
    · subst hin; exact hmade (f + 1) done a w inv hr h hw
    · obtain ⟨_, oi, hoi, _⟩ := mem_ready.1 hi
      obtain ⟨hil, hc1⟩ := h.2 i oi hoi hi hin
      obtain ⟨v, hv, hK⟩ := calmIn_of hc1
      exact hv.run hoi hw fun w' hw' => ih _ _ w' (inv.set hi (by omega)) (ready_mono hr (Ne.symm hin)) hK (hw.trans (hw'.mono hw.size))

/-- the first n are calm; number n makes a block; the rest come behind them, one behind the other -/
theorem wp_calm_made {id : Nat} {Q : Exit → Act → World → Prop} {a : Act} {w : World} {l : List Oper} (n : Nat) (on : Oper) (ob : Obj) (hm : P.follows .mixedOrders = true) (hB : (Region.lexTailB .any l.toArray (n + 1) && aloneB .any l.toArray n) = true)
    (hon : l[n]? = some on) (hrun : ∀ (a : Act) (w : World), (execOp a.eval on).run P w = .ok (.value (.pointer (some ⟨w.heap.size, 0, none⟩))) (w.alloc ob))
    (h : wpCalm P l.toArray w (fun a' => ∀ (p : Amid w) (b : Nat), w.heap.size ≤ b → p.at_.heap[b]? = some ob → wpList P l.toArray Q (l.drop (n + 1)) (a'.put on.dst (.pointer (some ⟨b, 0, none⟩))) p.at_) (l.take n) a) : (Code.region id l.toArray true).wp P Q a w := by
  simp only [Region.lexTailB, Bool.and_eq_true, decide_eq_true_eq] at hB
  obtain ⟨⟨⟨⟨⟨hsel, hn⟩, hs⟩, hc⟩, hlex⟩, hal⟩ := hB
  have hn' : n + 1 < l.length := by simpa using hn
  have htl : (l.take n).length = n := by simp; omega
  have hdl : (l.drop (n + 1)).length = l.toArray.size - (n + 1) := by simp
  have inv0 : HeadInv .any l.toArray (n + 1) (Array.replicate l.toArray.size false) :=
    ⟨by simp, fun j oj _ hl => (by rw [getD_replicate_false] at hl; cases hl), fun t _ ht => getD_in (by simpa using ht) (getD_replicate_false _ _)⟩
  have H := AnyCalm.lex (P := P) (w0 := w) (md := .any) (g := l.toArray.size - (n + 1)) hsel hs hc hn (l.take n) 0 (Array.replicate l.toArray.size false) a
    (fun j hj => by rw [htl] at hj; simp [hj]) (by simpa using htl) inv0 (by rw [htl]; exact hlex) h
  have hon' : l.toArray[n]? = some on := by simpa using hon
  refine wp_region_any hm ?_
  have hr0 : n ∈ Region.ready .any l.toArray (Array.replicate l.toArray.size false) := by
    refine mem_ready.2 ⟨getD_in (by simp; omega) (getD_replicate_false _ _), on, hon', fun e he hb => ?_⟩
    unfold aloneB at hal
    rw [hon'] at hal
    simp only [Bool.and_eq_true] at hal
    have := Array.all_eq_true'.1 hal.1.2 e he
    rw [hb] at this
    cases this
  have := AnyCalm.any (Q := Q) (g := l.toArray.size - (n + 1)) hon' hal (Region.noSelect_spec hsel) hs hc hn hrun (fun done' a' hL j hj hjn => seqB_ready hL.1.2.2 j (ready_mono hj hjn))
    (fun b done' a' w' hb0 hL hw' hob => by
      have := wpAny_of_seq (P := P) (md := .any) (Q' := Q) (l.drop (n + 1)) (n + 1) (done'.setIfInBounds n true) (a'.put on.dst (.pointer (some ⟨b, 0, none⟩))) w' (fun j => by simp [List.getElem?_drop]) (by rw [hdl]; exact hL.1.2.2) (hL.2 ⟨w', hw'⟩ b hb0 hob)
      rwa [hdl] at this) _ _ _ _ inv0 hr0 H ((Below.refl _ w).drew)
  rw [htl, show n + 1 + (l.toArray.size - (n + 1)) = l.toArray.size by omega] at this
  exact this
end
attribute [go_sem] calmOp Oper.calmAt
end Go.Thw
