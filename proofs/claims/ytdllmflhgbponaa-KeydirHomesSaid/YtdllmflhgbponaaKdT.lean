/- keydir: the table, in plain Lean -/
import Derived.WalkKit
namespace Go.Thw
open Go

structure LocD where
  seg : Int
  off : Int
  len : Int
  seq : Int
def LocD.zero : LocD := ⟨0, 0, 0, 0⟩
structure Slot where
  key : List UInt8
  loc : LocD
  is : Bool
def Slot.zero : Slot := ⟨[], LocD.zero, false⟩

def sumStep (n : Nat) (b : UInt8) : Nat := ((n ^^^ b.toNat) * 1099511628211) % 18446744073709551616
def sumN (l : List UInt8) : Nat := l.foldl sumStep 14695981039346656037
def mixStep (n by_ : Nat) : Nat := ((n ^^^ n / 8589934592) * by_) % 18446744073709551616
def mixN (n : Nat) : Nat := mixStep (mixStep n 18397679294719823053) 14181476777654086739 ^^^ mixStep (mixStep n 18397679294719823053) 14181476777654086739 / 8589934592
theorem homeN_ex (k : List UInt8) (N : Nat) : ∃ n, n = mixN (sumN k) % N := ⟨_, rfl⟩
/-- a key's place (closed to reckoning) -/
noncomputable def homeN (k : List UInt8) (N : Nat) : Nat := Classical.choose (homeN_ex k N)
theorem homeN_eq (k : List UInt8) (N : Nat) : homeN k N = mixN (sumN k) % N := Classical.choose_spec (homeN_ex k N)
theorem homeN_lt (k : List UInt8) {N : Nat} (h : 0 < N) : homeN k N < N := by rw [homeN_eq]; exact Nat.mod_lt _ h

def tat (T : List Slot) (i : Nat) : Slot := T.getD i Slot.zero
def stopB (T : List Slot) (k : List UInt8) (i : Nat) : Bool := !(tat T i).is || (tat T i).key == k
def findGo (T : List Slot) (k : List UInt8) : Nat → Nat → Nat
  | 0, i => i
  | f + 1, i => if stopB T k i then i else findGo T k f ((i + 1) % T.length)
noncomputable def findT (T : List Slot) (k : List UInt8) : Nat := findGo T k T.length (homeN k T.length)

/-- the way to a key's place -/
structure Way (T : List Slot) (k : List UInt8) (d : Nat) : Prop where
  lt : d < T.length
  stop : stopB T k ((homeN k T.length + d) % T.length) = true
  on : ∀ e, e < d → stopB T k ((homeN k T.length + e) % T.length) = false

theorem findGo_of (T : List Slot) (k : List UInt8) (h : Nat) : ∀ (d f i : Nat), d < f → i = h % T.length →
    stopB T k ((h + d) % T.length) = true → (∀ e, e < d → stopB T k ((h + e) % T.length) = false) → findGo T k f i = (h + d) % T.length := by
  intro d
  induction d generalizing h with
  | zero =>
    intro f i hf hi hs _
    obtain ⟨f, rfl⟩ : ∃ m, f = m + 1 := ⟨f - 1, by omega⟩
    rw [Nat.add_zero] at hs ⊢
    rw [findGo, hi, if_pos hs, Nat.add_zero]
  | succ d ih =>
    intro f i hf hi hs ho
    obtain ⟨f, rfl⟩ : ∃ m, f = m + 1 := ⟨f - 1, by omega⟩
    have h0 := ho 0 (by omega)
    rw [Nat.add_zero] at h0
    rw [findGo, hi, if_neg (by rw [h0]; simp)]
    have := ih (h + 1) f ((h % T.length + 1) % T.length) (by omega) (by rw [Nat.mod_add_mod]) (by rw [show h + 1 + d = h + (d + 1) by omega]; exact hs) (fun e he => by rw [show h + 1 + e = h + (e + 1) by omega]; exact ho _ (by omega))
    rw [this, show h + 1 + d = h + (d + 1) by omega]
theorem Way.find {T : List Slot} {k : List UInt8} {d : Nat} (h : Way T k d) : findT T k = (homeN k T.length + d) % T.length :=
  findGo_of T k _ d _ _ h.lt (Nat.mod_eq_of_lt (homeN_lt k (by have := h.lt; omega))).symm h.stop h.on

theorem reach {N h e : Nat} (hh : h < N) (he : e < N) : ∃ d, d < N ∧ (h + d) % N = e := by
  by_cases hl : h ≤ e
  · exact ⟨e - h, by omega, by rw [show h + (e - h) = e by omega]; exact Nat.mod_eq_of_lt he⟩
  · refine ⟨N - h + e, by omega, ?_⟩
    rw [show h + (N - h + e) = e + N by omega, Nat.add_mod_right]
    exact Nat.mod_eq_of_lt he
theorem least (p : Nat → Bool) : ∀ n, p n = true → ∃ d, d ≤ n ∧ p d = true ∧ ∀ e, e < d → p e = false := by
  intro n
  induction n using Nat.strongRecOn with
  | _ n ih =>
    intro h
    by_cases hx : ∃ m, m < n ∧ p m = true
    · obtain ⟨m, hm, hp⟩ := hx
      obtain ⟨d, h1, h2, h3⟩ := ih m hm hp
      exact ⟨d, by omega, h2, h3⟩
    · refine ⟨n, Nat.le_refl _, h, fun e he => ?_⟩
      cases hp : p e
      · rfl
      · exact absurd ⟨e, he, hp⟩ hx
theorem way_ex {T : List Slot} {e : Nat} (k : List UInt8) (he : e < T.length) (hs : (tat T e).is = false) : ∃ d, Way T k d := by
  obtain ⟨d0, h0, h1⟩ := reach (homeN_lt k (show 0 < T.length by omega)) he
  obtain ⟨d, hd, hp, ho⟩ := least (fun d => stopB T k ((homeN k T.length + d) % T.length)) d0 (by simp only [h1, stopB, hs]; rfl)
  exact ⟨d, by omega, hp, ho⟩
theorem Way.unique {T : List Slot} {k : List UInt8} {d e : Nat} (h : Way T k d) (g : Way T k e) : d = e := by
  rcases Nat.lt_trichotomy d e with hl | hl | hl
  · exact absurd (g.on d hl) (by rw [h.stop]; simp)
  · exact hl
  · exact absurd (h.on e hl) (by rw [g.stop]; simp)

theorem tat_lt {T : List Slot} {i : Nat} (h : i < T.length) : tat T i = T[i] := by simp [tat, List.getD_eq_getElem?_getD, List.getElem?_eq_getElem h]
theorem tat_is_lt {T : List Slot} {i : Nat} (h : (tat T i).is = true) : i < T.length := by
  rcases Nat.lt_or_ge i T.length with hl | hl
  · exact hl
  · simp [tat, List.getD_eq_getElem?_getD, List.getElem?_eq_none hl, Slot.zero] at h
theorem tat_set (T : List Slot) (p : Nat) (s : Slot) (i : Nat) (hp : p < T.length) : tat (T.set p s) i = if i = p then s else tat T i := by
  simp only [tat, List.getD_eq_getElem?_getD, List.getElem?_set]
  by_cases h : p = i
  · subst h; simp [hp]
  · rw [if_neg h, if_neg (fun e => h e.symm)]

/-- each key is found where it stands -/
def InvT (T : List Slot) : Prop := ∀ j, (tat T j).is = true → findT T (tat T j).key = j

theorem Way.pos_lt {T : List Slot} {k : List UInt8} {d : Nat} (h : Way T k d) : (homeN k T.length + d) % T.length < T.length := Nat.mod_lt _ (by have := h.lt; omega)

/-- the way of a key, where another place is filled or changed off its way -/
theorem Way.set {T : List Slot} {k : List UInt8} {d : Nat} (h : Way T k d) {p : Nat} {s : Slot} (hp : p < T.length)
    (hd : (homeN k T.length + d) % T.length = p → s.is = false ∨ s.key = k) (ho : ∀ e, e < d → (homeN k T.length + e) % T.length = p → s.is = true ∧ s.key ≠ k) : Way (T.set p s) k d := by
  refine ⟨by simpa using h.lt, ?_, ?_⟩
  · rw [List.length_set, stopB, tat_set _ _ _ _ hp]
    split
    · next e => rcases hd e with h1 | h1 <;> simp [h1]
    · exact h.stop
  · intro e he
    rw [List.length_set, stopB, tat_set _ _ _ _ hp]
    split
    · next e' => obtain ⟨h1, h2⟩ := ho e he e'; simp [h1, h2]
    · exact h.on e he

theorem stopB_false {T : List Slot} {k : List UInt8} {i : Nat} (h : stopB T k i = false) : (tat T i).is = true ∧ (tat T i).key ≠ k := by
  unfold stopB at h
  simp at h
  exact h
theorem Way.of_find {T : List Slot} {j e : Nat} (he : e < T.length) (hs : (tat T e).is = false) (k : List UInt8) (hj : findT T k = j) : ∃ d, Way T k d ∧ (homeN k T.length + d) % T.length = j := by
  obtain ⟨d, hw⟩ := way_ex k he hs
  exact ⟨d, hw, hw.find.symm.trans hj⟩
/-- the place of a key: it is empty, or it has the key -/
theorem find_stop {T : List Slot} {e : Nat} (he : e < T.length) (hs : (tat T e).is = false) (k : List UInt8) : findT T k < T.length ∧ ((tat T (findT T k)).is = true → (tat T (findT T k)).key = k) := by
  obtain ⟨d, hw⟩ := way_ex k he hs
  rw [hw.find]
  refine ⟨hw.pos_lt, fun h => ?_⟩
  have := hw.stop
  rw [stopB, h] at this
  simpa using this

theorem InvT.put {T : List Slot} (hI : InvT T) {e : Nat} (he : e < T.length) (hs : (tat T e).is = false) (k : List UInt8) (l : LocD)
    : InvT (T.set (findT T k) ⟨k, l, true⟩) := by
  obtain ⟨d, hw⟩ := way_ex k he hs
  have hpl := hw.pos_lt
  have hf := hw.find
  generalize hp : findT T k = p at *
  subst hf
  have hst := find_stop he hs k
  rw [hp] at hst
  intro j hj
  rw [tat_set _ _ _ _ hpl] at hj ⊢
  split
  · next h =>
    subst h
    have : Way (T.set ((homeN k T.length + d) % T.length) ⟨k, l, true⟩) k d := by
      refine hw.set hpl (fun _ => Or.inr rfl) (fun e he h => ?_)
      have h1 := hw.on e he
      rw [h] at h1
      rw [hw.stop] at h1
      exact absurd h1 (by simp)
    rw [this.find, List.length_set]
  · next h =>
    rw [if_neg h] at hj
    have hjj := hI j hj
    obtain ⟨d', hw', hd'⟩ := Way.of_find he hs _ hjj
    have : Way (T.set ((homeN k T.length + d) % T.length) ⟨k, l, true⟩) (tat T j).key d' := by
      refine hw'.set hpl (fun h' => absurd (hd'.symm.trans h') h) (fun e he' h' => ?_)
      have h1 := stopB_false (hw'.on e he')
      rw [h'] at h1
      refine ⟨rfl, ?_⟩
      rw [hst.2 h1.1] at h1
      exact h1.2
    rw [this.find, List.length_set, hd']

/-- entries -/
abbrev Ent := List UInt8 × LocD
def ents (T : List Slot) : List Ent := (T.filter (·.is)).map fun s => (s.key, s.loc)
theorem mem_ents {T : List Slot} {x : Ent} : x ∈ ents T ↔ ∃ j, (tat T j).is = true ∧ (tat T j).key = x.1 ∧ (tat T j).loc = x.2 := by
  simp only [ents, List.mem_map, List.mem_filter]
  constructor
  · rintro ⟨s, ⟨hs, his⟩, rfl⟩
    obtain ⟨j, hj, rfl⟩ := List.getElem_of_mem hs
    exact ⟨j, by rw [tat_lt hj]; exact his, by rw [tat_lt hj], by rw [tat_lt hj]⟩
  · rintro ⟨j, h1, h2, h3⟩
    have hj := tat_is_lt h1
    refine ⟨tat T j, ⟨?_, h1⟩, by rw [h2, h3]⟩
    rw [tat_lt hj]; exact List.getElem_mem hj
theorem split_at (T : List Slot) (p : Nat) (h : p < T.length) : T = T.take p ++ tat T p :: T.drop (p + 1) := by
  rw [tat_lt h]
  conv => lhs; rw [← List.take_append_drop p T, List.drop_eq_getElem_cons h]
theorem set_split (T : List Slot) (p : Nat) (h : p < T.length) (s : Slot) : T.set p s = T.take p ++ s :: T.drop (p + 1) := by
  rw [List.set_eq_take_append_cons_drop, if_pos h]
theorem ents_app (a b : List Slot) : ents (a ++ b) = ents a ++ ents b := by simp [ents]
theorem ents_cons (s : Slot) (b : List Slot) : ents (s :: b) = if s.is = true then (s.key, s.loc) :: ents b else ents b := by
  unfold ents
  cases h : s.is <;> simp [h]
theorem ents_fill (T : List Slot) (p : Nat) (h : p < T.length) (he : (tat T p).is = false) (k : List UInt8) (l : LocD) : (ents (T.set p ⟨k, l, true⟩)).Perm ((k, l) :: ents T) := by
  rw [set_split T p h]
  conv => rhs; rw [split_at T p h]
  rw [ents_app, ents_app, ents_cons, ents_cons, if_pos rfl, he]
  simp only [Bool.false_eq_true, if_false]
  exact List.perm_middle
theorem ents_empty (T : List Slot) (p : Nat) (h : p < T.length) (he : (tat T p).is = true) (s : Slot) (hs : s.is = false) : (ents T).Perm (((tat T p).key, (tat T p).loc) :: ents (T.set p s)) := by
  rw [set_split T p h]
  conv => lhs; rw [split_at T p h]
  rw [ents_app, ents_app, ents_cons, ents_cons, if_pos he, hs]
  simp only [Bool.false_eq_true, if_false]
  exact List.perm_middle
theorem ents_over (T : List Slot) (p : Nat) (h : p < T.length) (he : (tat T p).is = true) (k : List UInt8) (l : LocD) :
    ∃ R, (ents T).Perm (((tat T p).key, (tat T p).loc) :: R) ∧ (ents (T.set p ⟨k, l, true⟩)).Perm ((k, l) :: R) := by
  refine ⟨ents (T.take p) ++ ents (T.drop (p + 1)), ?_, ?_⟩
  · conv => lhs; rw [split_at T p h]
    rw [ents_app, ents_cons, if_pos he]
    exact List.perm_middle
  · rw [set_split T p h, ents_app, ents_cons, if_pos rfl]
    exact List.perm_middle
theorem ents_len_le (T : List Slot) : (ents T).length ≤ T.length := by
  simp only [ents, List.length_map]; exact List.length_filter_le _ _
theorem empty_ex {T : List Slot} (h : (ents T).length < T.length) : ∃ e, e < T.length ∧ (tat T e).is = false := by
  refine Classical.byContradiction fun hn => ?_
  have hall : ∀ s ∈ T, s.is = true := by
    intro s hs
    obtain ⟨j, hj, rfl⟩ := List.getElem_of_mem hs
    cases hx : T[j].is
    · exact absurd ⟨j, hj, by rw [tat_lt hj]; exact hx⟩ hn
    · rfl
  have : ents T = T.map fun s => (s.key, s.loc) := by
    unfold ents; rw [List.filter_eq_self.2 hall]
  rw [this, List.length_map] at h
  omega

/-- the sorted entries: put, delete, get -/
def insM (k : List UInt8) (l : LocD) : List Ent → List Ent
  | [] => [(k, l)]
  | x :: r => if k < x.1 then (k, l) :: x :: r else if k = x.1 then (k, l) :: r else x :: insM k l r
def delM (k : List UInt8) (M : List Ent) : List Ent := M.filter fun x => !(x.1 == k)
def getM (k : List UInt8) (M : List Ent) : Option LocD := (M.find? fun x => x.1 == k).map (·.2)
def SortedM (M : List Ent) : Prop := M.Pairwise fun a b => a.1 < b.1

theorem lt_irr (a : List UInt8) : ¬ a < a := List.lt_irrefl a
theorem lt_tr {a b c : List UInt8} (h : a < b) (g : b < c) : a < c := List.lt_trans h g
theorem lt_of_not {a b : List UInt8} (h : ¬ a < b) (g : a ≠ b) : b < a := by
  rcases List.le_total a b with hl | hl
  · exact absurd (List.le_antisymm hl (List.not_lt.1 h)) g
  · rcases Classical.em (b < a) with h1 | h1
    · exact h1
    · exact absurd (List.le_antisymm (List.not_lt.1 h1) hl) g

theorem insM_mem {k : List UInt8} {l : LocD} {M : List Ent} {x : Ent} (h : x ∈ insM k l M) : x = (k, l) ∨ x ∈ M := by
  induction M with
  | nil => simp [insM] at h; exact Or.inl h
  | cons y r ih =>
    unfold insM at h
    split at h
    · simpa using h
    · split at h
      · rcases List.mem_cons.1 h with h | h
        · exact Or.inl h
        · exact Or.inr (by simp [h])
      · rcases List.mem_cons.1 h with h | h
        · exact Or.inr (by simp [h])
        · rcases ih h with h | h
          · exact Or.inl h
          · exact Or.inr (by simp [h])
theorem insM_sorted {k : List UInt8} {l : LocD} {M : List Ent} (h : SortedM M) : SortedM (insM k l M) := by
  induction M with
  | nil => simp [insM, SortedM]
  | cons y r ih =>
    obtain ⟨h1, h2⟩ := List.pairwise_cons.1 h
    unfold insM
    split
    · next hk => exact List.pairwise_cons.2 ⟨fun z hz => by
        rcases List.mem_cons.1 hz with rfl | hz
        · exact hk
        · exact lt_tr hk (h1 z hz), h⟩
    · split
      · next hk => subst hk; exact List.pairwise_cons.2 ⟨h1, h2⟩
      · next hk hne =>
        refine List.pairwise_cons.2 ⟨fun z hz => ?_, ih h2⟩
        rcases insM_mem hz with rfl | hz
        · exact lt_of_not hk hne
        · exact h1 z hz
theorem delM_sorted {k : List UInt8} {M : List Ent} (h : SortedM M) : SortedM (delM k M) := List.Pairwise.filter _ h
theorem insM_perm {k : List UInt8} {l : LocD} {M : List Ent} (h : SortedM M) : (insM k l M).Perm ((k, l) :: delM k M) := by
  induction M with
  | nil => simp [insM, delM]
  | cons y r ih =>
    obtain ⟨h1, h2⟩ := List.pairwise_cons.1 h
    unfold insM
    split
    · next hk =>
      have : delM k (y :: r) = y :: r := by
        refine List.filter_eq_self.2 fun z hz => ?_
        have : k < z.1 := by
          rcases List.mem_cons.1 hz with rfl | hz
          · exact hk
          · exact lt_tr hk (h1 z hz)
        have hne : z.1 ≠ k := fun e => lt_irr k (by rw [e] at this; exact this)
        simpa using hne
      rw [this]
    · split
      · next hk =>
        have : delM k (y :: r) = r := by
          unfold delM
          rw [List.filter_cons, if_neg (by simp [hk])]
          refine List.filter_eq_self.2 fun z hz => ?_
          have := h1 z hz
          have hne : z.1 ≠ k := fun e => lt_irr y.1 (by rw [← hk] at this; rw [e] at this; exact absurd this (lt_irr k))
          simpa using hne
        rw [this]
      · next hk hne =>
        have : delM k (y :: r) = y :: delM k r := by
          unfold delM
          rw [List.filter_cons, if_pos (by simpa using fun e => hne e.symm)]
        rw [this]
        exact ((ih h2).cons y).trans (List.Perm.swap _ _ _)

/-- keys differ -/
def KeysDiffer (E : List Ent) : Prop := (E.map (·.1)).Nodup
theorem SortedM.differ {M : List Ent} (h : SortedM M) : KeysDiffer M := by
  unfold KeysDiffer List.Nodup
  rw [List.pairwise_map]
  refine List.Pairwise.imp (R := fun a b : Ent => a.1 < b.1) ?_ h
  intro a b hab e
  rw [e] at hab
  exact lt_irr _ hab
theorem KeysDiffer.perm {A B : List Ent} (h : KeysDiffer A) (p : A.Perm B) : KeysDiffer B := (p.map _).nodup_iff.1 h
theorem delM_of_not {k : List UInt8} {E : List Ent} (h : k ∉ E.map (·.1)) : delM k E = E := by
  refine List.filter_eq_self.2 fun z hz => ?_
  have hne : z.1 ≠ k := fun e => h (e ▸ List.mem_map_of_mem hz)
  simpa using hne
theorem delM_perm {k : List UInt8} {A B : List Ent} (p : A.Perm B) : (delM k A).Perm (delM k B) := p.filter _
theorem delM_cons_eq {k : List UInt8} {l : LocD} {R : List Ent} (h : KeysDiffer ((k, l) :: R)) : delM k ((k, l) :: R) = R := by
  have h1 := (List.nodup_cons.1 h).1
  have := delM_of_not h1
  unfold delM at this ⊢
  rw [List.filter_cons, if_neg (by simp)]
  exact this

/-- a table of these sorted entries -/
structure TabOf (T : List Slot) (M : List Ent) : Prop where
  pow : ∃ m, T.length = 2 ^ m
  eight : 8 ≤ T.length
  inv : InvT T
  perm : (ents T).Perm M
  sorted : SortedM M
  room : 2 * M.length ≤ T.length
  zero : ∀ j, (tat T j).is = false → tat T j = Slot.zero
theorem TabOf.differ {T : List Slot} {M : List Ent} (h : TabOf T M) : KeysDiffer (ents T) := h.sorted.differ.perm h.perm.symm
theorem TabOf.empty {T : List Slot} {M : List Ent} (h : TabOf T M) : ∃ e, e < T.length ∧ (tat T e).is = false := by
  have := h.perm.length_eq
  have := h.eight
  have := h.room
  exact empty_ex (by omega)
theorem TabOf.look {T : List Slot} {M : List Ent} (h : TabOf T M) (k : List UInt8) :
    (getM k M = none ∧ tat T (findT T k) = Slot.zero) ∨ ∃ l, getM k M = some l ∧ tat T (findT T k) = ⟨k, l, true⟩ := by
  obtain ⟨e, he, hs⟩ := h.empty
  have hst := find_stop he hs k
  cases hx : (tat T (findT T k)).is
  · refine Or.inl ⟨?_, h.zero _ hx⟩
    unfold Go.Thw.getM
    rw [Option.map_eq_none_iff, List.find?_eq_none]
    intro x hxm hk
    have hk : x.1 = k := by simpa using hk
    obtain ⟨j, h1, h2, h3⟩ := mem_ents.1 (h.perm.symm.subset hxm)
    have := h.inv j h1
    rw [h2, hk] at this
    rw [this, h1] at hx
    cases hx
  · refine Or.inr ⟨(tat T (findT T k)).loc, ?_, ?_⟩
    · have hk := hst.2 hx
      have hm : ((tat T (findT T k)).key, (tat T (findT T k)).loc) ∈ M := h.perm.subset (mem_ents.2 ⟨_, hx, rfl, rfl⟩)
      unfold Go.Thw.getM
      rcases hf : M.find? (fun x => x.1 == k) with _ | y
      · rw [List.find?_eq_none] at hf
        exact absurd (by simpa using hk) (hf _ hm)
      · have hy1 : y.1 = k := by simpa using List.find?_some hf
        have hy2 := List.mem_of_find?_eq_some hf
        obtain ⟨j, h1, h2, h3⟩ := mem_ents.1 (h.perm.symm.subset hy2)
        have := h.inv j h1
        rw [h2, hy1] at this
        rw [this, h3, hf]
        rfl
    · have hk := hst.2 hx
      generalize tat T (findT T k) = s at *
      cases s
      simp only at hk hx
      subst hk hx
      rfl
theorem delM_none {k : List UInt8} {M : List Ent} (h : getM k M = none) : delM k M = M := by
  refine delM_of_not fun hm => ?_
  obtain ⟨x, hx, rfl⟩ := List.mem_map.1 hm
  unfold getM at h
  rw [Option.map_eq_none_iff, List.find?_eq_none] at h
  exact h x hx (by simp)
theorem set_zero_of {T : List Slot} (hz : ∀ j, (tat T j).is = false → tat T j = Slot.zero) {p : Nat} (hp : p < T.length) {s : Slot} (hs : s.is = true ∨ s = Slot.zero) (j : Nat) (hj : (tat (T.set p s) j).is = false) : tat (T.set p s) j = Slot.zero := by
  rw [tat_set _ _ _ _ hp] at hj ⊢
  split
  · next h =>
    rw [if_pos h] at hj
    rcases hs with hs | hs
    · rw [hs] at hj; cases hj
    · exact hs
  · next h => rw [if_neg h] at hj; exact hz j hj
/-- Put, where there is room -/
theorem TabOf.put {T : List Slot} {M : List Ent} (h : TabOf T M) (k : List UInt8) (l : LocD) (hr : getM k M = none → 2 * (M.length + 1) ≤ T.length) : TabOf (T.set (findT T k) ⟨k, l, true⟩) (insM k l M) := by
  obtain ⟨e, he, hs⟩ := h.empty
  have hlt := (find_stop he hs k).1
  have hperm : (ents (T.set (findT T k) ⟨k, l, true⟩)).Perm ((k, l) :: delM k M) := by
    rcases h.look k with ⟨h1, h2⟩ | ⟨l', h1, h2⟩
    · rw [delM_none h1]
      exact (ents_fill T _ hlt (by rw [h2]; rfl) k l).trans (h.perm.cons _)
    · obtain ⟨R, p1, p2⟩ := ents_over T _ hlt (by rw [h2]) k l
      rw [h2] at p1
      have hd := h.differ.perm p1
      have := delM_perm (k := k) (h.perm.symm.trans p1)
      rw [delM_cons_eq hd] at this
      exact p2.trans (this.symm.cons _)
  have hlen := (insM_perm (k := k) (l := l) h.sorted).length_eq
  refine ⟨by simpa using h.pow, by simpa using h.eight, h.inv.put he hs k l, hperm.trans (insM_perm h.sorted).symm, insM_sorted h.sorted, ?_, fun j hj => set_zero_of h.zero hlt (Or.inl rfl) j hj⟩
  rw [List.length_set, hlen, List.length_cons]
  rcases h.look k with ⟨h1, _⟩ | ⟨l', h1, h2⟩
  · rw [delM_none h1]; exact hr h1
  · have hr := h.room
    have hl : (delM k M).length < M.length := by
      unfold Go.Thw.getM at h1
      rcases hf : M.find? (fun x => x.1 == k) with _ | y
      · rw [hf] at h1; cases h1
      · have hy1 : y.1 = k := by simpa using List.find?_some hf
        have hy2 := List.mem_of_find?_eq_some hf
        rcases Nat.lt_or_ge (delM k M).length M.length with hx | hx
        · exact hx
        · have h3 := List.filter_sublist (l := M) (p := fun x => !(x.1 == k))
          have h4 := List.Sublist.eq_of_length_le h3 hx
          rw [← h4] at hy2
          have := (List.mem_filter.1 hy2).2
          simp [hy1] at this
    omega

/-- a new table's first lot -/
structure FillSt (T : List Slot) (N : Nat) (E : List Ent) : Prop where
  len : T.length = N
  inv : InvT T
  perm : (ents T).Perm E
  zero : ∀ j, (tat T j).is = false → tat T j = Slot.zero
theorem tat_rep (N j : Nat) : tat (List.replicate N Slot.zero) j = Slot.zero := by
  rcases Nat.lt_or_ge j N with h | h
  · rw [tat_lt (by simpa using h)]; simp
  · simp [tat, List.getD_eq_getElem?_getD, h]
theorem FillSt.start (N : Nat) : FillSt (List.replicate N Slot.zero) N [] := by
  refine ⟨by simp, fun j hj => ?_, ?_, fun j _ => tat_rep N j⟩
  · rw [tat_rep] at hj; cases hj
  · have : ents (List.replicate N Slot.zero) = [] := by
      unfold ents
      rw [List.filter_eq_nil_iff.2 fun s hs => by rw [List.eq_of_mem_replicate hs]; simp [Slot.zero]]
      rfl
    rw [this]
theorem FillSt.step {T : List Slot} {N : Nat} {E : List Ent} (h : FillSt T N E) (k : List UInt8) (l : LocD) (hk : k ∉ E.map (·.1)) (hN : E.length < N) :
    findT T k < N ∧ FillSt (T.set (findT T k) ⟨k, l, true⟩) N (E ++ [(k, l)]) := by
  have hlen := h.perm.length_eq
  obtain ⟨e, he, hs⟩ := empty_ex (T := T) (by rw [hlen, h.len]; exact hN)
  have hst := find_stop he hs k
  have hfree : (tat T (findT T k)).is = false := by
    cases hx : (tat T (findT T k)).is
    · rfl
    · have : ((tat T (findT T k)).key, (tat T (findT T k)).loc) ∈ ents T := mem_ents.2 ⟨_, hx, rfl, rfl⟩
      have := h.perm.subset this
      rw [hst.2 hx] at this
      exact absurd (List.mem_map_of_mem (f := (·.1)) this) hk
  refine ⟨by rw [← h.len]; exact hst.1, by simpa using h.len, h.inv.put he hs k l, ?_, fun j hj => set_zero_of h.zero hst.1 (Or.inl rfl) j hj⟩
  exact (ents_fill T _ hst.1 hfree k l).trans ((h.perm.cons _).trans (List.perm_append_singleton _ _).symm)

theorem add_cancel {N x p q : Nat} (hp : p < N) (hq : q < N) (h : (x + p) % N = (x + q) % N) : p = q := by
  have key : ∀ p q : Nat, p < N → q < N → p ≤ q → (x + p) % N = (x + q) % N → p = q := fun p q hp hq hl h => by
    have := Nat.sub_mod_eq_zero_of_mod_eq h.symm
    rw [show x + q - (x + p) = q - p by omega, Nat.mod_eq_of_lt (by omega)] at this
    omega
  rcases Nat.le_total p q with hl | hl
  · exact key p q hp hq hl h
  · exact (key q p hq hp hl h.symm).symm
/-- two places on one round -/
theorem on_round {N h e d i a b : Nat} (he : e < d) (hd : d < N) (ha : a < N) (hb : b < N) (h1 : (h + e) % N = (i + a) % N) (h2 : (h + d) % N = (i + b) % N) :
    (∀ c, a ≤ c → c < b → a ≤ b → ∃ x, x < d ∧ (h + x) % N = (i + c) % N) ∧ (∀ c, b < a → a ≤ c → c < N → ∃ x, x < d ∧ (h + x) % N = (i + c) % N) := by
  have hN : 0 < N := by omega
  have key : ∀ c, (h + (e + (c - a))) % N = (i + (a + (c - a))) % N := fun c => by
    rw [← Nat.add_assoc, ← Nat.add_assoc, Nat.add_mod, h1, ← Nat.add_mod]
  have hdist : a ≤ b → d - e = b - a := fun hab => by
    have e1 : (i + a + (d - e)) % N = (i + a + (b - a)) % N := by
      have : (h + e + (d - e)) % N = (i + a + (b - a)) % N := by rw [show h + e + (d - e) = h + d by omega, show i + a + (b - a) = i + b by omega]; exact h2
      rw [Nat.add_mod, h1, ← Nat.add_mod] at this
      exact this
    exact add_cancel (by omega) (by omega) e1
  have hdist2 : b < a → d - e = N - a + b := fun hab => by
    have e1 : (i + a + (d - e)) % N = (i + a + (N - a + b)) % N := by
      have : (h + e + (d - e)) % N = (i + a + (N - a + b)) % N := by rw [show h + e + (d - e) = h + d by omega, show i + a + (N - a + b) = i + b + N by omega, Nat.add_mod_right]; exact h2
      rw [Nat.add_mod, h1, ← Nat.add_mod] at this
      exact this
    exact add_cancel (by omega) (by omega) e1
  constructor
  · intro c h3 h4 h5
    have := hdist h5
    exact ⟨e + (c - a), by omega, by rw [key, show a + (c - a) = c by omega]⟩
  · intro c h3 h4 h5
    have := hdist2 h3
    exact ⟨e + (c - a), by omega, by rw [key, show a + (c - a) = c by omega]⟩

theorem keys_apart {T : List Slot} (h : KeysDiffer (ents T)) {i j : Nat} (hi : (tat T i).is = true) (hj : (tat T j).is = true) (hk : (tat T i).key = (tat T j).key) : i = j := by
  refine Classical.byContradiction fun hne => ?_
  have hil := tat_is_lt hi
  have p := ents_empty T i hil hi Slot.zero rfl
  have hd := h.perm p
  have hm : ((tat T j).key, (tat T j).loc) ∈ ents (T.set i Slot.zero) := by
    have e : tat (T.set i Slot.zero) j = tat T j := by rw [tat_set _ _ _ _ hil, if_neg (fun e => hne e.symm)]
    exact mem_ents.2 ⟨j, by rw [e]; exact hj, by rw [e], by rw [e]⟩
  have := (List.nodup_cons.1 hd).1
  rw [hk] at this
  exact this (List.mem_map_of_mem (f := (·.1)) hm)

/-- in the midst of a Delete: T as it was, i0 the place that was emptied, c how far the next empty one is, a how far it has come -/
structure DelSt (T : List Slot) (i0 c a : Nat) (T' : List Slot) : Prop where
  len : T'.length = T.length
  same : ∀ b, a ≤ b → b < T.length → tat T' ((i0 + b) % T.length) = tat T ((i0 + b) % T.length)
  found : ∀ b, b < T.length → ¬ (a ≤ b ∧ b < c) → (tat T' ((i0 + b) % T.length)).is = true → findT T' (tat T' ((i0 + b) % T.length)).key = (i0 + b) % T.length
  perm : (ents T').Perm (ents (T.set i0 Slot.zero))
  zero : ∀ j, (tat T' j).is = false → tat T' j = Slot.zero
/-- what stays of the table -/
structure DelB (T : List Slot) (i0 c : Nat) : Prop where
  inv : InvT T
  differ : KeysDiffer (ents T)
  zero : ∀ j, (tat T j).is = false → tat T j = Slot.zero
  lt : i0 < T.length
  is : (tat T i0).is = true
  pos : 1 ≤ c
  clt : c < T.length
  free : (tat T ((i0 + c) % T.length)).is = false
  full : ∀ b, b < c → (tat T ((i0 + b) % T.length)).is = true

theorem DelB.start {T : List Slot} {M : List Ent} (h : TabOf T M) {i0 : Nat} (hi : (tat T i0).is = true) : ∃ c, DelB T i0 c := by
  have hlt := tat_is_lt hi
  obtain ⟨e, he, hs⟩ := h.empty
  obtain ⟨d0, h0, h1⟩ := reach hlt he
  obtain ⟨d, hd, hp, ho⟩ := least (fun d => !(tat T ((i0 + d) % T.length)).is) d0 (by simp only [h1, hs]; rfl)
  have hz : (i0 + 0) % T.length = i0 := by rw [Nat.add_zero]; exact Nat.mod_eq_of_lt hlt
  refine ⟨d, h.inv, h.differ, h.zero, hlt, hi, ?_, by omega, by simpa using hp, fun b hb => by simpa using ho b hb⟩
  rcases Nat.eq_zero_or_pos d with h2 | h2
  · subst h2; simp only [hz, hi] at hp; cases hp
  · exact h2
section
variable {T T' : List Slot} {i0 c a : Nat}
theorem DelB.off (_ : DelB T i0 c) {j : Nat} (hj : j < T.length) (h0 : i0 < T.length) : ∃ b, b < T.length ∧ j = (i0 + b) % T.length := by
  obtain ⟨b, h1, h2⟩ := reach h0 hj
  exact ⟨b, h1, h2.symm⟩
theorem DelB.ne (_ : DelB T i0 c) {a b : Nat} (ha : a < T.length) (hb : b < T.length) (hne : a ≠ b) : (i0 + a) % T.length ≠ (i0 + b) % T.length := fun e => hne (add_cancel ha hb e)
theorem DelB.begin (h : DelB T i0 c) : DelSt T i0 c 1 (T.set i0 Slot.zero) := by
  have hz : (i0 + 0) % T.length = i0 := by rw [Nat.add_zero]; exact Nat.mod_eq_of_lt h.lt
  have hc := h.clt
  have hp := h.pos
  have e : ∀ b, b < T.length → b ≠ 0 → tat (T.set i0 Slot.zero) ((i0 + b) % T.length) = tat T ((i0 + b) % T.length) := fun b hb hb0 => by
    rw [tat_set _ _ _ _ h.lt, if_neg]
    have := h.ne hb (by omega : 0 < T.length) hb0
    rwa [hz] at this
  refine ⟨by simp, fun b h1 h2 => e b h2 (by omega), ?_, .refl _, fun j hj => set_zero_of h.zero h.lt (Or.inr rfl) j hj⟩
  intro b hb hn his
  have hb0 : b ≠ 0 := fun e0 => by
    subst e0
    rw [hz, tat_set _ _ _ _ h.lt, if_pos rfl] at his
    cases his
  rw [e b hb hb0] at his ⊢
  have hbc : c < b := by
    rcases Nat.lt_trichotomy b c with h1 | h1 | h1
    · exact absurd ⟨by omega, h1⟩ hn
    · subst h1; rw [h.free] at his; cases his
    · exact h1
  obtain ⟨d, hw, hd⟩ := Way.of_find (e := (i0 + c) % T.length) (Nat.mod_lt _ (by omega)) h.free _ (h.inv _ his)
  have : Way (T.set i0 Slot.zero) (tat T ((i0 + b) % T.length)).key d := by
    refine hw.set h.lt (fun h' => absurd (hd.symm.trans h') (fun hq => h.ne hb (by omega : 0 < T.length) hb0 (hq.trans hz.symm))) (fun e' he' h' => ?_)
    obtain ⟨x, hx, hx2⟩ := (on_round he' hw.lt (by omega : 0 < T.length) hb (h'.trans hz.symm) hd).1 c (by omega) hbc (by omega)
    have := stopB_false (hw.on x hx)
    rw [hx2, h.free] at this
    exact absurd this.1 (by simp)
  rw [this.find, List.length_set, hd]
theorem DelSt.at_ (g : DelSt T i0 c a T') (h : DelB T i0 c) (ha : a ≤ c) : (tat T' ((i0 + a) % T.length)).is = decide (a < c) := by
  have hc := h.clt
  rw [g.same a (Nat.le_refl _) (by omega)]
  rcases Nat.lt_or_ge a c with h1 | h1
  · rw [h.full a h1]; simp [h1]
  · obtain rfl : a = c := by omega
    rw [h.free]; simp
theorem DelSt.fin (g : DelSt T i0 c c T') (h : DelB T i0 c) : InvT T' := by
  intro j hj
  have hjl := tat_is_lt hj
  rw [g.len] at hjl
  obtain ⟨b, hb, rfl⟩ := h.off hjl h.lt
  exact g.found b hb (by omega) hj
theorem DelSt.differ (g : DelSt T i0 c a T') (h : DelB T i0 c) : KeysDiffer (ents T') := by
  have p := ents_empty T i0 h.lt h.is Slot.zero rfl
  have hd := h.differ.perm p
  exact KeysDiffer.perm (List.nodup_cons.1 hd).2 g.perm.symm
theorem DelSt.step (g : DelSt T i0 c a T') (h : DelB T i0 c) (ha1 : 1 ≤ a) (ha : a < c) :
    findT (T'.set ((i0 + a) % T.length) Slot.zero) (tat T' ((i0 + a) % T.length)).key < T.length ∧
    DelSt T i0 c (a + 1) ((T'.set ((i0 + a) % T.length) Slot.zero).set (findT (T'.set ((i0 + a) % T.length) Slot.zero) (tat T' ((i0 + a) % T.length)).key) (tat T' ((i0 + a) % T.length))) := by
  have hcl := h.clt
  have hN : 0 < T.length := by omega
  have hil : (i0 + a) % T.length < T'.length := by rw [g.len]; exact Nat.mod_lt _ hN
  have his : (tat T' ((i0 + a) % T.length)).is = true := by rw [g.at_ h (by omega)]; simp [ha]
  have hsame := g.same a (Nat.le_refl _) (by omega)
  have hdif := g.differ h
  have hfree' : (tat T' ((i0 + c) % T.length)).is = false := by rw [g.same c (by omega) hcl]; exact h.free
  have hp2 := ents_empty T' _ hil his Slot.zero rfl
  generalize hs : tat T' ((i0 + a) % T.length) = s at *
  have h2at : ∀ j, tat (T'.set ((i0 + a) % T.length) Slot.zero) j = if j = (i0 + a) % T.length then Slot.zero else tat T' j := fun j => tat_set _ _ _ _ hil
  have h2len : (T'.set ((i0 + a) % T.length) Slot.zero).length = T.length := by rw [List.length_set, g.len]
  have h2zero : ∀ j, (tat (T'.set ((i0 + a) % T.length) Slot.zero) j).is = false → tat (T'.set ((i0 + a) % T.length) Slot.zero) j = Slot.zero := fun j hj => set_zero_of g.zero hil (Or.inr rfl) j hj
  have h2dif : ∀ j, (tat (T'.set ((i0 + a) % T.length) Slot.zero) j).is = true → (tat (T'.set ((i0 + a) % T.length) Slot.zero) j).key ≠ s.key := fun j hj hk => by
    rw [h2at] at hj hk
    split at hj
    · cases hj
    · next hne =>
      rw [if_neg hne] at hk
      exact hne (keys_apart hdif hj (by rw [hs]; exact his) (by rw [hs]; exact hk))
  -- the way in T
  have hT := h.inv ((i0 + a) % T.length) (by rw [← hsame]; exact his)
  rw [← hsame] at hT
  obtain ⟨d, hw, hd⟩ := Way.of_find (e := (i0 + c) % T.length) (Nat.mod_lt _ hN) h.free _ hT
  generalize hT2 : T'.set ((i0 + a) % T.length) Slot.zero = T2 at *
  obtain ⟨d2, hle, hstop, hon⟩ := least (fun x => stopB T2 s.key ((homeN s.key T2.length + x) % T2.length)) d (by
    simp only [stopB, h2len, hd, h2at, if_pos]; rfl)
  have hw2 : Way T2 s.key d2 := ⟨by rw [h2len]; have := hw.lt; omega, hstop, hon⟩
  have hf2 := hw2.find
  have hpl : findT T2 s.key < T2.length := by rw [hf2]; exact hw2.pos_lt
  have hpe : (tat T2 (findT T2 s.key)).is = false := by
    cases hx : (tat T2 (findT T2 s.key)).is
    · rfl
    · have := hw2.stop
      rw [← hf2, stopB, hx] at this
      exact absurd (by simpa using this) (h2dif _ hx)
  -- where it is
  obtain ⟨bp, hbp, hpo⟩ := h.off (show findT T2 s.key < T.length by rw [← h2len]; exact hpl) h.lt
  have hble : bp ≤ a := by
    refine Nat.le_of_not_lt fun hlt => ?_
    have hne : d2 ≠ d := fun e => by
      subst e
      rw [h2len] at hf2
      rw [hf2, hd] at hpo
      exact h.ne (by omega) hbp (by omega) hpo
    have h1 := stopB_false (hw.on d2 (by omega))
    rw [h2len] at hf2
    rw [← hf2, hpo, ← g.same bp (by omega) hbp] at h1
    have h3 := h2at (findT T2 s.key)
    rw [if_neg (by rw [hpo]; exact h.ne hbp (by omega) (by omega)), hpo] at h3
    rw [← h3, ← hpo, hpe] at h1
    exact absurd h1.1 (by simp)
  refine ⟨by rw [← h2len]; exact hpl, by rw [List.length_set, h2len], ?_, ?_, ?_, fun j hj => set_zero_of h2zero hpl (Or.inl his) j hj⟩
  · intro b h1 h3
    rw [tat_set _ _ _ _ hpl, if_neg (by rw [hpo]; exact h.ne h3 hbp (by omega)), h2at, if_neg (h.ne h3 (by omega) (by omega))]
    exact g.same b (by omega) h3
  · intro b hb hn hbs
    rw [tat_set _ _ _ _ hpl] at hbs ⊢
    split
    · next he =>
      have : Way (T2.set (findT T2 s.key) s) s.key d2 := by
        refine hw2.set hpl (fun _ => Or.inr rfl) (fun x hx h' => ?_)
        have := stopB_false (hw2.on x hx)
        rw [h', hpe] at this
        exact absurd this.1 (by simp)
      rw [this.find, List.length_set, ← hf2, he]
    · next hne =>
      rw [if_neg hne, h2at] at hbs
      rw [h2at]
      split at hbs
      · cases hbs
      · next hni =>
        rw [if_neg hni]
        have hba : b ≠ a := fun e => hni (by rw [e])
        have hbc : b ≠ c := fun e => by subst e; rw [hfree'] at hbs; cases hbs
        have hfd := g.found b hb (by omega) hbs
        obtain ⟨d', hw', hd'⟩ := Way.of_find (e := (i0 + c) % T.length) (by rw [g.len]; exact Nat.mod_lt _ hN) hfree' _ hfd
        rw [g.len] at hd'
        have hw2' : Way T2 (tat T' ((i0 + b) % T.length)).key d' := by
          rw [← hT2]
          refine hw'.set hil (fun h' => absurd (hd'.symm.trans (by rw [g.len] at h'; exact h')) hni) (fun x hx h' => ?_)
          rw [g.len] at h'
          have hr := on_round hx (by rw [← g.len]; exact hw'.lt) (by omega : a < T.length) hb h' hd'
          have hcon : ∃ y, y < d' ∧ (homeN (tat T' ((i0 + b) % T.length)).key T.length + y) % T.length = (i0 + c) % T.length := by
            rcases Nat.lt_or_ge b a with h1 | h1
            · exact hr.2 c h1 (by omega) hcl
            · exact hr.1 c (by omega) (by omega) h1
          obtain ⟨y, hy, hy2⟩ := hcon
          have := stopB_false (hw'.on y hy)
          rw [g.len, hy2, hfree'] at this
          exact absurd this.1 (by simp)
        have hw3 : Way (T2.set (findT T2 s.key) s) (tat T' ((i0 + b) % T.length)).key d' := by
          refine hw2'.set hpl (fun h' => absurd (hd'.symm.trans (by rw [h2len] at h'; exact h')) hne) (fun x hx h' => ?_)
          have := stopB_false (hw2'.on x hx)
          rw [h', hpe] at this
          exact absurd this.1 (by simp)
        rw [hw3.find, List.length_set, h2len, hd']
  · have q := ents_fill T2 _ hpl hpe s.key s.loc
    have es : (⟨s.key, s.loc, true⟩ : Slot) = s := by cases s; simp only at his; subst his; rfl
    rw [es] at q
    exact q.trans (hp2.symm.trans g.perm)
end

theorem getM_some_mem {k : List UInt8} {l : LocD} {M : List Ent} (h : getM k M = some l) : (k, l) ∈ M := by
  unfold getM at h
  rcases hf : M.find? (fun x => x.1 == k) with _ | y
  · rw [hf] at h; cases h
  · have hy1 : y.1 = k := by simpa using List.find?_some hf
    have hy2 := List.mem_of_find?_eq_some hf
    rw [hf] at h
    have : y.2 = l := by simpa using h
    rw [← hy1, ← this]; exact hy2
/-- behind a Delete -/
theorem DelSt.tab {T T' : List Slot} {i0 c : Nat} {M : List Ent} {k : List UInt8} (g : DelSt T i0 c c T') (h : DelB T i0 c) (hT : TabOf T M) (hk : (tat T i0).key = k) : TabOf T' (delM k M) := by
  have p := ents_empty T i0 h.lt h.is Slot.zero rfl
  have hd := h.differ.perm p
  have h1 := delM_perm (k := k) (hT.perm.symm.trans p)
  rw [hk] at h1 hd
  rw [delM_cons_eq hd] at h1
  refine ⟨by rw [g.len]; exact hT.pow, by rw [g.len]; exact hT.eight, g.fin h, g.perm.trans h1.symm, delM_sorted hT.sorted, ?_, g.zero⟩
  rw [g.len]
  have := List.length_filter_le (fun x : Ent => !(x.1 == k)) M
  have := hT.room
  unfold delM
  omega
theorem FillSt.tab {T : List Slot} {N : Nat} {E M : List Ent} (h : FillSt T N E) (hp : E.Perm M) (hs : SortedM M) (h8 : 8 ≤ N) (hpow : ∃ m, N = 2 ^ m) (hr : 2 * M.length ≤ N) : TabOf T M :=
  ⟨by rw [h.len]; exact hpow, by rw [h.len]; exact h8, h.inv, h.perm.trans hp, hs, by rw [h.len]; exact hr, h.zero⟩
theorem TabOf.new : TabOf (List.replicate 8 Slot.zero) [] :=
  (FillSt.start 8).tab (.refl _) List.Pairwise.nil (by omega) ⟨3, rfl⟩ (by simp)
theorem nodup_len {l1 l2 : List Nat} (hd : l1.Nodup) (hs : ∀ x, x ∈ l1 → x ∈ l2) : l1.length ≤ l2.length := by
  induction l1 generalizing l2 with
  | nil => simp
  | cons a r ih =>
    obtain ⟨h1, h2⟩ := List.nodup_cons.1 hd
    have ha := hs a (by simp)
    have := ih h2 (l2 := l2.erase a) (fun x hx => (List.mem_erase_of_ne (fun e => h1 (by rw [← e]; exact hx))).2 (hs x (by simp [hx])))
    rw [List.length_erase_of_mem ha] at this
    have := List.length_pos_of_mem ha
    simp only [List.length_cons]
    omega
/-- Far -/
theorem Way.far {T : List Slot} {k : List UInt8} {d : Nat} (h : Way T k d) (hs : (tat T ((homeN k T.length + d) % T.length)).is = true) : d < (ents T).length := by
  -- the places of the way differ, and have keys
  have hN : 0 < T.length := by have := h.lt; omega
  have hfull : ∀ e, e ≤ d → (tat T ((homeN k T.length + e) % T.length)).is = true := fun e he => by
    rcases Nat.lt_or_ge e d with h1 | h1
    · exact (stopB_false (h.on e h1)).1
    · rw [show e = d by omega]; exact hs
  have hidx : (ents T).length = ((List.range T.length).filter fun i => (tat T i).is).length := by
    have e : T = (List.range T.length).map (tat T) := by
      apply List.ext_getElem
      · simp
      · intro i h1 h2; simp [tat_lt h1]
    conv => lhs; rw [e]
    simp only [ents, List.length_map, List.filter_map]
    rfl
  rw [hidx]
  have hsub : ((List.range (d + 1)).map fun e => (homeN k T.length + e) % T.length).length ≤ ((List.range T.length).filter fun i => (tat T i).is).length := by
    refine nodup_len ?_ ?_
    · unfold List.Nodup
      rw [List.pairwise_map]
      refine List.Pairwise.imp_of_mem (fun {a b} ha hb hab e => ?_) (List.nodup_range (n := d + 1))
      have := h.lt
      simp at ha hb
      exact hab (add_cancel (by omega) (by omega) e)
    · intro x hx
      obtain ⟨e, he, rfl⟩ := List.mem_map.1 hx
      simp at he
      exact List.mem_filter.2 ⟨by simpa using Nat.mod_lt _ hN, hfull e (by omega)⟩
  simp only [List.length_map, List.length_range] at hsub
  exact hsub
end Go.Thw
