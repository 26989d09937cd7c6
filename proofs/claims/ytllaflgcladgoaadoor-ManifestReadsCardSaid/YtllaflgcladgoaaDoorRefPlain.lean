/- the document's Read, as a plain function; that it is the program's -/
import Derived.Test.YtllaflgcladgoaaDoorOuts
namespace Go.Proofs.YtllaflgcladgoaaDoor
open Go Go.RowKit Go.Thw

/-- all numbers of bytes -/
def allN : Nat → List UInt8 → Option (List Nat)
  | 0, s => if s = [] then some [] else none
  | f + 1, s => if s = [] then some [] else (takeN 4294967295 s).bind fun a => (allN f a.2).map (a.1 :: ·)
def groupL : List Nat → List SegD
  | a :: b :: c :: r => ⟨(a : Int), (b : Int), c⟩ :: groupL r
  | _ => []
def refD (l d : List UInt8) : Int × Int × List SegD :=
  match allN d.length d with
  | none => (2, 0, [])
  | some ns => if ns.length < 2 then (2, 0, []) else if bytesO (ns.getD 0 0 : Nat) (groupL (ns.drop 2)) = (l, 0) then (0, (ns.getD 0 0 : Nat), groupL (ns.drop 2)) else (2, 0, [])
def refR (l : List UInt8) : Int × Int × List SegD :=
  match openL l with
  | none => (4, 0, [])
  | some d => refD l d

theorem putL_pos (n : Nat) : 0 < (putL n).length := by
  by_cases h : n < 128
  · rw [putL_lt h]; simp
  · rw [putL_ge h]; simp
theorem putL_ne (n : Nat) (r : List UInt8) : putL n ++ r ≠ [] := by
  intro h
  have h1 := congrArg List.length h
  have h2 := putL_pos n
  rw [List.length_append, List.length_nil] at h1
  omega
theorem allN_put (f n : Nat) (hn : n ≤ 4294967295) (r : List UInt8) : allN (f + 1) (putL n ++ r) = (allN f r).map (n :: ·) := by
  rw [allN, if_neg (putL_ne n r), takeN_of _ _ (by omega) hn, Option.bind_some]
theorem allN_fuel : ∀ (f g : Nat) (s : List UInt8), s.length ≤ f → s.length ≤ g → allN f s = allN g s
  | 0, 0, s, _, _ => rfl
  | 0, g + 1, s, h, _ => by
    obtain rfl : s = [] := List.length_eq_zero_iff.1 (by omega)
    simp [allN]
  | f + 1, 0, s, _, h => by
    obtain rfl : s = [] := List.length_eq_zero_iff.1 (by omega)
    simp [allN]
  | f + 1, g + 1, s, h1, h2 => by
    rw [allN, allN]
    by_cases hs : s = []
    · rw [if_pos hs, if_pos hs]
    · rw [if_neg hs, if_neg hs]
      cases ht : takeN 4294967295 s with
      | none => rfl
      | some a =>
        obtain ⟨n, r⟩ := a
        have e := (takeL_put (takeN_some ht).1).1
        have := putL_pos n
        rw [e, List.length_append] at h1 h2
        simp only [Option.bind_some]
        rw [allN_fuel f g r (by omega) (by omega)]
/-- the numbers of segments -/
def numsL (s : SegD) : List Nat := [s.N.toNat, s.Size.toNat, s.Sum]
theorem allN_segs : ∀ (xs : List SegD), SegsOk xs → (∀ s ∈ xs, s.fits) → ∀ f, (xs.flatMap segL).length ≤ f → allN f (xs.flatMap segL) = some (xs.flatMap numsL)
  | [], _, _, f, _ => by cases f <;> simp [allN]
  | x :: xs, ho, hf, f, hl => by
    obtain ⟨⟨o1, o2⟩, o3, o4⟩ := ho x (by simp)
    obtain ⟨_, _, f3⟩ := hf x (by simp)
    have p1 := putL_pos x.N.toNat
    have p2 := putL_pos x.Size.toNat
    have p3 := putL_pos x.Sum
    simp only [List.flatMap_cons, segL, List.append_assoc, List.length_append] at hl ⊢
    obtain ⟨g, rfl⟩ : ∃ g, f = g + 1 + 1 + 1 := ⟨f - 3, by omega⟩
    have ih := allN_segs xs (fun s h => ho s (by simp [h])) (fun s h => hf s (by simp [h])) g (by omega)
    rw [allN_put _ _ (by omega), allN_put _ _ (by omega), allN_put _ _ (by omega), ih]
    simp [numsL]
theorem group_nums : ∀ (xs : List SegD), SegsOk xs → groupL (xs.flatMap numsL) = xs
  | [], _ => rfl
  | x :: xs, ho => by
    obtain ⟨⟨o1, o2⟩, o3, o4⟩ := ho x (by simp)
    simp only [List.flatMap_cons, numsL, List.cons_append, List.nil_append, groupL]
    rw [group_nums xs (fun s h => ho s (by simp [h]))]
    congr 1
    cases x
    simp only [SegD.mk.injEq, and_true] at *
    omega
theorem group_len : ∀ l : List Nat, (groupL l).length = l.length / 3
  | a :: b :: c :: r => by
    rw [groupL, List.length_cons, group_len r]
    simp only [List.length_cons]
    omega
  | [] => by simp [groupL]
  | [_] => by simp [groupL]
  | [_, _] => by simp [groupL]
theorem group_at : ∀ (l : List Nat) (j : Nat), j < l.length / 3 → (groupL l)[j]? = some ⟨(l.getD (3 * j) 0 : Nat), (l.getD (3 * j + 1) 0 : Nat), l.getD (3 * j + 2) 0⟩
  | a :: b :: c :: r, 0, _ => by simp [groupL]
  | a :: b :: c :: r, j + 1, h => by
    rw [groupL, List.getElem?_cons_succ, group_at r j (by simp only [List.length_cons] at h; omega)]
    have e0 : 3 * (j + 1) = 3 * j + 1 + 1 + 1 := by omega
    simp only [e0, List.getD_cons_succ]
  | [], j, h => by simp at h
  | [_], j, h => by simp at h
  | [_, _], j, h => by simp at h
theorem allN_le : ∀ (f : Nat) (s : List UInt8) (ns : List Nat), allN f s = some ns → ∀ n ∈ ns, n ≤ 4294967295
  | 0, s, ns, h => by
    rw [allN] at h; split at h
    · simp at h; subst h; simp
    · cases h
  | f + 1, s, ns, h => by
    rw [allN] at h
    split at h
    · simp at h; subst h; simp
    · simp only [Option.bind_eq_some_iff, Option.map_eq_some_iff] at h
      obtain ⟨⟨n, r⟩, h1, ms, h2, rfl⟩ := h
      intro m hm
      rcases List.mem_cons.1 hm with rfl | hm
      · exact (takeN_some h1).2
      · exact allN_le f r ms h2 m hm
theorem group_fits : ∀ (ns : List Nat), (∀ n ∈ ns, n ≤ 4294967295) → ∀ s ∈ groupL ns, s.fits
  | a :: b :: c :: r, h => by
    intro s hs
    rw [groupL] at hs
    have ha := h a (by simp)
    have hb := h b (by simp)
    have hc := h c (by simp)
    rcases List.mem_cons.1 hs with rfl | hs
    · show (_ ∧ _) ∧ (_ ∧ _) ∧ _
      simp only
      omega
    · exact group_fits r (fun n hn => h n (by simp [hn])) s hs
  | [], _ => by simp [groupL]
  | [_], _ => by simp [groupL]
  | [_, _], _ => by simp [groupL]
theorem refR_eq (l : List UInt8) : refR l = readL l := by
  cases ho : openL l with
  | none => simp only [refR, readL, ho]
  | some d =>
    have hl := openL_some ho
    cases hp : parseMan d with
    | some r =>
      obtain ⟨v, xs⟩ := r
      obtain ⟨h1, h2, h3⟩ := parseMan_put hp
      obtain ⟨k1, k2, k3, k4⟩ := right_facts h2
      have hall : allN d.length d = some (v :: xs.length :: xs.flatMap numsL) := by
        have p1 := putL_pos v
        have p2 := putL_pos xs.length
        have hd : d = putL v ++ (putL xs.length ++ xs.flatMap segL) := by rw [h1, bodyL, List.append_assoc]
        rw [allN_fuel d.length (d.length + 1 + 1) d (Nat.le_refl _) (by omega)]
        conv => lhs; rw [hd]
        have hlen : (putL v ++ (putL xs.length ++ xs.flatMap segL)).length = d.length := by rw [← hd]
        rw [allN_put _ _ (by omega), allN_put _ _ (by omega), allN_segs xs k1 h3 _ (by simp only [List.length_append] at hlen ⊢; omega)]
        rfl
      have hb : bytesO (v : Int) xs = (l, 0) := by rw [bytesO, if_pos h2, Int.toNat_natCast, bytesL, hl, h1]
      simp only [refR, refD, readL, ho, hp, hall]
      rw [if_neg (by simp)]
      simp only [List.getD_cons_zero, List.drop_succ_cons, List.drop_zero, group_nums xs k1, hb]
      rfl
    | none =>
      simp only [refR, refD, readL, ho, hp]
      cases hall : allN d.length d with
      | none => rfl
      | some ns =>
        simp only
        split
        · rfl
        · split
          · next hc hb =>
            exfalso
            have hle := allN_le _ _ _ hall
            have hr : rightB ((ns.getD 0 0 : Nat) : Int) (groupL (ns.drop 2)) = true := by
              by_cases h : rightB ((ns.getD 0 0 : Nat) : Int) (groupL (ns.drop 2)) = true
              · exact h
              · rw [bytesO, if_neg h] at hb; simp at hb
            have hfit := group_fits (ns.drop 2) (fun n hn => hle n (List.mem_of_mem_drop hn))
            have hbl : sealL (bodyL (ns.getD 0 0) (groupL (ns.drop 2))) = sealL d := by
              rw [bytesO, if_pos hr] at hb
              simp only [Prod.mk.injEq, and_true, Int.toNat_natCast] at hb
              rw [← hl]; exact hb
            have hdd : bodyL (ns.getD 0 0) (groupL (ns.drop 2)) = d := by
              have := congrArg (List.drop 4) hbl
              simpa [sealL, le4] using this
            rw [← hdd, parseMan_of hr hfit] at hp
            cases hp
          · rfl
end Go.Proofs.YtllaflgcladgoaaDoor
