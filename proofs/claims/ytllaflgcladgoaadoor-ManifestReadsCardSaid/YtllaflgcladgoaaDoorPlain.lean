/- plain laws: the manifest of a manifest's bytes, and back -/
import Derived.Test.YtllaflgcladgoaaDoorParse
import Derived.Test.YtllaflgcladgoaaDoorOpen
namespace Go.Thw
open Go Go.RowKit Go.Proofs.YtllaflgcladgoaaDoor

theorem u8_nat (n : Nat) (h : n < 256) : (UInt8.ofNat n).toNat = n := UInt8.toNat_ofNat_of_lt' h
theorem accN_putL (n : Nat) : accN (putL n) = n := by
  induction n using Nat.strongRecOn with
  | _ n ih =>
    by_cases h : n < 128
    · rw [putL_lt h]
      simp only [accN]
      rw [u8_nat _ (by omega)]
      omega
    · rw [putL_ge h]
      simp only [accN]
      rw [u8_nat _ (by omega), ih (n / 128) (by omega)]
      omega
theorem takeGo_of (n : Nat) (hn : n < 18446744073709551616) (r : List UInt8) : ∀ (f : Nat) (P : List UInt8) (m : Nat), (putL m).length ≤ f → P ++ putL m = putL n → takeGo (P ++ (putL m ++ r)) P.length f = (n, r, 0) := by
  intro f
  induction f with
  | zero => intro P m h; by_cases hm : m < 128; · rw [putL_lt hm] at h; simp at h
            · rw [putL_ge hm] at h; simp at h
  | succ f ih =>
    intro P m hl he
    by_cases hm : m < 128
    · rw [putL_lt hm] at he ⊢
      have hnat : (UInt8.ofNat m).toNat = m := u8_nat _ (by omega)
      have ht : (P ++ ([UInt8.ofNat m] ++ r)).take (P.length + 1) = putL n := by
        rw [← List.append_assoc, ← he]; exact List.take_left' (by simp)
      rw [takeGo, if_neg (by simp), ht, accN_putL]
      rw [if_neg, Nat.mod_eq_of_lt hn, if_pos rfl]
      · congr 1
        rw [← List.append_assoc]
        have := List.drop_left (l₁ := P ++ [UInt8.ofNat m]) (l₂ := r)
        rw [List.length_append] at this
        simp only [List.length_singleton] at this
        rw [this]
      · simp [hnat]; omega
    · rw [putL_ge hm] at he ⊢ hl
      have hnat : (UInt8.ofNat (m % 128 + 128)).toNat = m % 128 + 128 := u8_nat _ (by omega)
      rw [takeGo, if_neg (by simp), if_pos (by rw [List.getD_eq_getElem?_getD, List.getElem?_append_right (Nat.le_refl _)]; simp only [Nat.sub_self, List.cons_append, List.getElem?_cons_zero, Option.getD_some, hnat]; omega)]
      have := ih (P ++ [UInt8.ofNat (m % 128 + 128)]) (m / 128) (by simp at hl; omega) (by simpa using he)
      simpa using this
theorem takeL_of (n : Nat) (hn : n < 18446744073709551616) (r : List UInt8) : takeL (putL n ++ r) = (n, r, 0) :=
  takeGo_of n hn r 10 [] n (putL_len10 hn) rfl
theorem takeN_of (lim n : Nat) (hn : n < 18446744073709551616) (h : n ≤ lim) (r : List UInt8) : takeN lim (putL n ++ r) = some (n, r) := by
  rw [takeN, takeL_of n hn r, if_pos ⟨rfl, h⟩]

theorem parseSegs_of : ∀ (xs : List SegD), SegsOk xs → (∀ s ∈ xs, s.fits) → ∀ r, parseSegs xs.length (xs.flatMap segL ++ r) = some (xs, r)
  | [], _, _, r => rfl
  | x :: xs, ho, hf, r => by
    obtain ⟨⟨o1, o2⟩, o3, o4⟩ := ho x (by simp)
    obtain ⟨_, _, f3⟩ := hf x (by simp)
    have ih := parseSegs_of xs (fun s h => ho s (by simp [h])) (fun s h => hf s (by simp [h])) r
    simp only [List.flatMap_cons, segL, List.append_assoc, List.length_cons, parseSegs]
    rw [takeN_of _ _ (by omega) (by omega), Option.bind_some, takeN_of _ _ (by omega) (by omega), Option.bind_some, takeN_of _ _ (by omega) (by omega), Option.bind_some, ih, Option.map_some]
    congr 3
    cases x
    simp only [SegD.mk.injEq, and_true] at *
    omega
theorem right_facts {v : Nat} {xs : List SegD} (hr : rightB (v : Int) xs = true) : SegsOk xs ∧ 1 ≤ v ∧ v ≤ 999999 ∧ xs.length ≤ 200 := by
  simp [rightB] at hr
  exact ⟨rising_ok xs (-1) (by omega) hr.1, by omega, by omega, by omega⟩
theorem parseMan_of {v : Nat} {xs : List SegD} (hr : rightB (v : Int) xs = true) (hf : ∀ s ∈ xs, s.fits) : parseMan (bodyL v xs) = some (v, xs) := by
  obtain ⟨h1, h2, h3, h4⟩ := right_facts hr
  have h5 := parseSegs_of xs h1 hf []
  rw [List.append_nil] at h5
  rw [parseMan, bodyL, List.append_assoc, takeN_of _ _ (by omega) (by omega), Option.bind_some, takeN_of _ _ (by omega) (by omega), Option.bind_some, h5, Option.bind_some, if_pos ⟨rfl, hr⟩]

theorem parseSegs_put : ∀ (k : Nat) (s : List UInt8) (xs : List SegD) (r : List UInt8), parseSegs k s = some (xs, r) → xs.length = k ∧ s = xs.flatMap segL ++ r ∧ ∀ x ∈ xs, x.fits
  | 0, s, xs, r, h => by simp [parseSegs] at h; obtain ⟨rfl, rfl⟩ := h; simp
  | k + 1, s, xs, r, h => by
    simp only [parseSegs, Option.bind_eq_some_iff, Option.map_eq_some_iff] at h
    obtain ⟨⟨n1, s1⟩, g1, ⟨n2, s2⟩, g2, ⟨n3, s3⟩, g3, ⟨ys, r'⟩, g4, he⟩ := h
    simp only [Prod.mk.injEq] at he
    obtain ⟨rfl, rfl⟩ := he
    obtain ⟨e1, b1⟩ := takeN_some g1
    obtain ⟨e2, b2⟩ := takeN_some g2
    obtain ⟨e3, b3⟩ := takeN_some g3
    obtain ⟨i1, i2, i3⟩ := parseSegs_put k s3 ys r' g4
    refine ⟨by simp [i1], ?_, ?_⟩
    · rw [(takeL_put e1).1, show s1 = putL n2 ++ s2 from (takeL_put e2).1, show s2 = putL n3 ++ s3 from (takeL_put e3).1, i2]
      simp [segL]
    · intro x hx
      rcases List.mem_cons.1 hx with rfl | hx
      · show (_ ∧ _) ∧ (_ ∧ _) ∧ _
        simp only
        omega
      · exact i3 x hx
theorem parseMan_put {s : List UInt8} {v : Nat} {xs : List SegD} (h : parseMan s = some (v, xs)) : s = bodyL v xs ∧ rightB (v : Int) xs = true ∧ ∀ x ∈ xs, x.fits := by
  simp only [parseMan, Option.bind_eq_some_iff] at h
  obtain ⟨⟨n1, s1⟩, g1, ⟨n2, s2⟩, g2, ⟨ys, r⟩, g3, he⟩ := h
  split at he
  · next hc =>
    simp only [Option.some.injEq, Prod.mk.injEq] at he
    obtain ⟨rfl, rfl⟩ := he
    obtain ⟨i1, i2, i3⟩ := parseSegs_put n2 s2 _ _ g3
    obtain ⟨e1, _⟩ := takeN_some g1
    obtain ⟨e2, _⟩ := takeN_some g2
    simp only at hc
    refine ⟨?_, hc.2, i3⟩
    rw [(takeL_put e1).1, show s1 = putL n2 ++ s2 from (takeL_put e2).1, i2, hc.1]
    simp [bodyL, i1]
  · cases he
theorem le4_len (n : Nat) : (le4 n).length = 4 := rfl
theorem openL_seal (d : List UInt8) : openL (sealL d) = some d := by
  have h1 : (sealL d).drop 4 = d := by simp [sealL, le4]
  have h2 : (sealL d).take 4 = le4 (moreL 0 d) := by simp [sealL, le4]
  rw [openL, if_pos ⟨by simp [sealL, le4], by rw [h1, h2]; simp⟩, h1]
theorem openL_some {l d : List UInt8} (h : openL l = some d) : l = sealL d := by
  unfold openL at h
  split at h
  · next hc =>
    simp only [Option.some.injEq] at h
    have h2 := hc.2
    simp only [beq_iff_eq] at h2
    rw [h] at h2
    rw [sealL, h2, ← h, List.take_append_drop]
  · cases h
end Go.Thw
