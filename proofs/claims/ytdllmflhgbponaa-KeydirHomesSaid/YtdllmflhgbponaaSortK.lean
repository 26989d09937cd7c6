/- slices.SortFunc at structs: the row behind it, as a list of cells -/
import Derived.Shelf.SlSortCmp.WholeK
import Derived.Lib.Bytealg
import Derived.Test.YtdllmflhgbponaaFrm
namespace Go.Thw
open Go Go.RowKit Go.Shelf Go.Sort Go.Proofs
section
variable {α : Type} [Inhabited α] {enc : α → List Value} {k : Nat}

omit [Inhabited α] in
theorem flatMap_len (hk : ∀ x, (enc x).length = k) (L : List α) : (L.flatMap enc).length = L.length * k := by
  induction L with
  | nil => simp
  | cons x r ih => rw [List.flatMap_cons, List.length_append, ih, hk, List.length_cons, Nat.add_mul]; omega
theorem flatMap_get (hk : ∀ x, (enc x).length = k) (h0 : 0 < k) (L : List α) (t : Nat) (ht : t < L.length * k) : (L.flatMap enc)[t]? = (enc (L.toArray[t / k]!))[t % k]? := by
  induction L generalizing t with
  | nil => simp at ht
  | cons x r ih =>
    rw [List.flatMap_cons]
    by_cases h : t < k
    · rw [List.getElem?_append_left (by rw [hk]; exact h), Nat.div_eq_of_lt h, Nat.mod_eq_of_lt h]
      simp
    · have ht' : t - k < r.length * k := by rw [List.length_cons, Nat.add_mul] at ht; omega
      rw [List.getElem?_append_right (by rw [hk]; omega), hk, ih _ ht', ← Nat.mod_eq_sub_mod (by omega)]
      have hd : t / k = (t - k) / k + 1 := by rw [Nat.div_eq_sub_div h0 (by omega)]
      rw [hd]
      simp
theorem flatK_eq (hk : ∀ x, (enc x).length = k) (h0 : 0 < k) (L : List α) : flatK enc k L.toArray = (L.flatMap enc).toArray := by
  apply Array.ext_getElem?
  intro t
  by_cases ht : t < L.length * k
  · have h1 : t < (flatK enc k L.toArray).size := by simpa using ht
    have h2 := get_flatK enc k L.toArray t (by simpa using ht)
    rw [getElem!_pos (flatK enc k L.toArray) t h1] at h2
    rw [Array.getElem?_eq_getElem h1, h2, List.getElem?_toArray, flatMap_get hk h0 L t ht]
    have h3 : t % k < (enc (L.toArray[t / k]!)).length := by rw [hk]; exact Nat.mod_lt _ h0
    rw [List.getElem?_eq_getElem h3, getElem!_pos (enc (L.toArray[t / k]!)) (t % k) h3]
  · rw [Array.getElem?_eq_none (by simpa using ht), Array.getElem?_eq_none (by simpa [flatMap_len hk] using ht)]
theorem sortWorldK_block {w : World} {B : Nat} {t : TypeId} {L L' : List α} {ext : List Value} {n : Nat} {os : Array Obj} (hk : ∀ x, (enc x).length = k) (h0 : 0 < k)
    (h : w.heap[B]? = some (.cells (L.flatMap enc ++ ext).toArray t (0, 0))) (hl : L'.length = L.length) : (sortWorldK enc k w B 0 n L'.toArray os).heap[B]? = some (.cells (L'.flatMap enc ++ ext).toArray t (0, 0)) := by
  have hlt := lt_of_block h
  have h1 : (w.heap ++ os)[B]? = w.heap[B]? := Array.getElem?_append_left hlt
  unfold sortWorldK putRowK putRow
  rw [flatK_eq hk h0]
  show ((w.heap.modify B (onCells _)) ++ os)[B]? = _
  rw [Array.getElem?_append_left (by simpa using hlt), Array.getElem?_modify, if_pos rfl, h]
  simp only [Option.map_some, onCells]
  congr 2
  apply Array.ext_getElem?
  intro j
  have e1 := flatMap_len hk L
  have e2 := flatMap_len hk L'
  have e3 : (putCells id 0 (L'.flatMap enc).toArray (L.flatMap enc ++ ext).toArray)[j]? = ((L.flatMap enc ++ ext).toArray[j]?).map fun x => if 0 ≤ j ∧ j < 0 + (L'.flatMap enc).toArray.size then id (L'.flatMap enc).toArray[j - 0]! else x := by
    unfold putCells
    rw [Array.getElem?_mapIdx]
  rw [e3]
  by_cases hj : j < (L'.flatMap enc).length
  · rw [List.getElem?_toArray, List.getElem?_append_left (by rw [e1, ← hl, ← e2]; exact hj), List.getElem?_toArray, List.getElem?_append_left hj, List.getElem?_eq_getElem (by rw [e1, ← hl, ← e2]; exact hj), Option.map_some, if_pos ⟨Nat.zero_le _, by simpa using hj⟩, List.getElem?_eq_getElem hj]
    simp [List.getElem?_eq_getElem hj]
  · have hn : ¬ (0 ≤ j ∧ j < 0 + (L'.flatMap enc).toArray.size) := fun h => hj (by simpa using h.2)
    rw [List.getElem?_toArray, List.getElem?_append_right (by rw [e1, ← hl, ← e2]; omega), List.getElem?_toArray, List.getElem?_append_right (by omega)]
    simp only [if_neg hn, Option.map_id']
    rw [e1, e2, hl]
theorem sortWorldK_frm {w : World} {B n : Nat} {d : Array α} {os : Array Obj} : Frm (fun b => b = B) w (sortWorldK enc k w B 0 n d os) := by
  refine ⟨rfl, rfl, rfl, ?_, fun j hj hn => ?_⟩
  · show w.heap.size ≤ ((w.heap.modify B _) ++ os).size
    simp
  · show ((w.heap.modify B _) ++ os)[j]? = _
    rw [Array.getElem?_append_left (by simpa using hj), Array.getElem?_modify, if_neg (fun e => hn e.symm)]
theorem holdsK_block {w : World} {B : Nat} {t : TypeId} {L : List α} {ext : List Value} (hk : ∀ x, (enc x).length = k) (h0 : 0 < k) (h : w.heap[B]? = some (.cells (L.flatMap enc ++ ext).toArray t (0, 0))) : HoldsK enc k w B 0 L.toArray := by
  intro j hj
  rw [flatK_eq hk h0] at hj ⊢
  refine ⟨?_, frozen_of_row w _ _ _ _ h⟩
  rw [cell_of_row w _ _ _ _ _ h, Nat.zero_add]
  have hj' : j < (L.flatMap enc).length := by simpa using hj
  rw [List.getElem?_toArray, List.getElem?_append_left hj', List.getElem?_eq_getElem hj', getElem!_pos (List.flatMap enc L).toArray j hj]
  rfl
end
theorem cmp_neg (a b : List UInt8) : Lib.compareBytes a b < 0 ↔ a < b := by
  induction a generalizing b with
  | nil => cases b <;> simp [Lib.compareBytes]
  | cons x a ih =>
    cases b with
    | nil => simp [Lib.compareBytes]
    | cons y b =>
      rw [Lib.compareBytes, List.cons_lt_cons_iff]
      by_cases h1 : x < y
      · simp [h1]
      · by_cases h2 : y < x
        · simp only [h1, h2, if_false, if_true, false_or]
          refine ⟨fun h => by omega, fun h => ?_⟩
          rw [h.1] at h2
          exact absurd h2 (UInt8.lt_irrefl _)
        · have : x = y := UInt8.le_antisymm (UInt8.not_lt.1 h2) (UInt8.not_lt.1 h1)
          subst this
          simp only [h1, if_false, false_or, true_and]
          exact ih b
end Go.Thw
