/- keydir: rising, grow, Put -/
import Derived.Test.YtdllmflhgbponaaKdR
import Derived.Laws.MakeOwn
namespace Go.Proofs.Ytdllmflhgbponaa
open Go Go.RowKit Go.Thw

def slotOf (x : Ent) : Slot := ⟨x.1, x.2, true⟩
theorem keepS_ents (T : List Slot) : (keepS T).map (fun s => (s.key, s.loc)) = ents T := rfl
theorem rising_eq {T L' : List Slot} {M : List Ent} (hT : TabOf T M) (hp : L'.Perm (keepS T)) (hs : L'.Pairwise (fun a b => ¬ b.key < a.key)) : L' = M.map slotOf := by
  have h1 : (L'.map fun s => (s.key, s.loc)).Perm M := (hp.map _).trans hT.perm
  have h2 : L'.map (fun s => (s.key, s.loc)) = M := by
    refine List.Perm.eq_of_pairwise (le := fun a b : Ent => ¬ b.1 < a.1) (fun a b ha hb h3 h4 => ?_) (by rw [List.pairwise_map]; exact hs) (List.Pairwise.imp (R := fun a b : Ent => a.1 < b.1) (fun hab hba => lt_irr _ (lt_tr hab hba)) hT.sorted) h1
    have hk : a.1 = b.1 := Classical.byContradiction fun hne => h3 (lt_of_not h4 hne)
    have ha := h1.subset ha
    obtain ⟨i, hi, rfl⟩ := List.getElem_of_mem ha
    obtain ⟨j, hj, rfl⟩ := List.getElem_of_mem hb
    have hd := hT.sorted
    unfold SortedM at hd
    rw [List.pairwise_iff_getElem] at hd
    rcases Nat.lt_trichotomy i j with hl | hl | hl
    · have := hd i j hi hj hl
      rw [hk] at this
      exact absurd this (lt_irr _)
    · subst hl; rfl
    · have := hd j i hj hi hl
      rw [hk] at this
      exact absurd this (lt_irr _)
  rw [← h2, List.map_map]
  symm
  refine (List.map_congr_left fun s hs => ?_).trans (List.map_id _)
  have := (List.mem_filter.1 (hp.subset hs)).2
  cases s
  simp only at this
  subst this
  rfl

def RisesAt (w : World) (M : List Ent) (e : Ending) (w' : World) : Prop := ∃ B cap ext, e = .returned (.slice (some ⟨B, 0, none⟩) M.length cap) ∧ w.heap.size ≤ B ∧ RowS w' B (M.map slotOf) ext

set_option maxRecDepth 20000 in
set_option maxHeartbeats 400000 in
theorem kd_rising (w : World) (d S : Nat) (T : List Slot) (many : Nat) (M : List Ent) (h : DirW w d S T many) (hT : TabOf T M) (hle : T.length ≤ 1073741824) :
    Calls Try.prog 19 #[.pointer (some ⟨d, 0, none⟩)] w fun e w' => RisesAt w M e w' ∧ Below w.heap.size w w' := by
  obtain ⟨e0, he0, hs0⟩ := hT.empty
  obtain ⟨i0, hi1, hi2, hi3⟩ := least (fun i => !(tat T i).is) e0 (by simp [hs0])
  have hi2' : (tat T i0).is = false := by simpa using hi2
  have hi3' : ∀ j, j < i0 → (tat T j).is = true := fun j hj => by simpa using hi3 j hj
  have hkl : (keepS T).length = M.length := by have := hT.perm.length_eq; rw [← keepS_ents, List.length_map] at this; exact this
  have c0 := h.c0
  have hS : RowS w S T [] := ⟨by rw [List.append_nil]; exact h.hs⟩
  have HC := Lib.hid (kd_clone w S T [] hS hle (by omega))
  have HD := Lib.hid (fun W B cap ext hR hc hc2 => kd_del_some W B cap T ext hR hle hc hc2 i0 (by omega) hi2' hi3')
  have HS := Lib.hid (fun W B cap ext hR => kd_sort W B cap (keepS T) ext hR (by have := List.length_filter_le (fun s : Slot => s.is) T; unfold keepS; omega))
  have Hkl := Lib.hid hkl
  clear hi1 hi2 hi3 hi2' hi3' hs0 he0 hkl hS
  have hne := h.ne
  go_enter Try.func19, Try.ntmps19
  go_wp2_with (first
    | (go_at_call 27; refine (HS.out _ B cap ext2 hR2).mono ?_; rintro e w3 ⟨rfl, ⟨L', hp, hso, hR3⟩, hf3⟩)
    | (go_at_call 24; refine (HD.out _ B cap ext1 hR1 hcap hcap2).mono ?_; rintro e w2 ⟨rfl, ⟨ext2, hR2, _⟩, hf2⟩)
    | (go_at_call 25; refine HC.out.mono ?_; rintro e w1 ⟨⟨B, cap, ext1, rfl, hB, hcap, hcap2, hR1⟩, hb1⟩; unfold maxLen at hcap2))
  go_ret
  have hfr : Below w.heap.size w w3 := (((Frm.of_below (F := fun b => b = B) hb1).tr hf2).tr hf3).below (Nat.le_refl _) (fun k hk e => by omega)
  have he := rising_eq hT hp hso
  exact ⟨⟨B, cap, ext2, by rw [← Hkl.out]; rfl, hB, by rw [← he]; exact hR3⟩, hfr⟩

theorem flatS_rep (n : Nat) : madeCells (Value.agg #[.string (bs []), .int .i64 0, .int .i64 0, .int .i64 0, .int .u64 0, .bool false]).cells (n * 6) = (flatS (List.replicate n Slot.zero)).toArray := by
  apply Array.ext_getElem?
  intro t
  by_cases ht : t < n * 6
  · have h1 := flatMap_get slotVals_len (by omega) (List.replicate n Slot.zero) t (by simpa using ht)
    have h2 : (List.replicate n Slot.zero).toArray[t / 6]! = Slot.zero := by
      have : t / 6 < n := by omega
      simp [this]
    rw [h2] at h1
    have h3 : t % 6 < 6 := Nat.mod_lt _ (by omega)
    have h4 : (flatS (List.replicate n Slot.zero)).toArray[t]? = Slot.zero.vals[t % 6]? := by rw [List.getElem?_toArray]; exact h1
    rw [h4]
    unfold madeCells Value.cells
    rw [Array.getElem?_map, Array.getElem?_range, if_pos ht]
    have : t % 6 = 0 ∨ t % 6 = 1 ∨ t % 6 = 2 ∨ t % 6 = 3 ∨ t % 6 = 4 ∨ t % 6 = 5 := by omega
    rcases this with e | e | e | e | e | e <;> simp [e, Slot.vals, Slot.zero, LocD.zero]
  · rw [Array.getElem?_eq_none (by simpa [madeCells] using ht), Array.getElem?_eq_none (by simpa [flatS_len] using ht)]
theorem run_make_slots (w : World) (n : Nat) (h : n ≤ 1073741824) : (Instr.makeSlice 43 (.int .i64 n) (.int .i64 n)).run Try.prog w = .ok (.slice (some ⟨w.heap.size, 0, none⟩) n n) (w.alloc (.cells (flatS (List.replicate n Slot.zero)).toArray 48)) := by
  obtain ⟨i0, hi, hz0, hz1, hz2⟩ := info_parts slot_info
  have := run_make (P := Try.prog) w 43 48 i0 _ Try.underlying43 hi hz0 .i64 .i64 n n (by omega) (by omega) (by rw [hz2]; omega) (by omega)
  rw [hz1, Int.toNat_natCast, flatS_rep] at this
  exact this

structure GrowW (w : World) (d B S : Nat) (M : List Ent) (ext : List Value) (N many k : Nat) (T' : List Slot) (wr : World) : Prop where
  dir : DirW wr d S T' many
  fill : FillSt T' N (M.take k)
  old : RowS wr B (M.map slotOf) ext
  frm : Frm (fun b => b = d) w wr
def GrowRel (w : World) (d B S : Nat) (M : List Ent) (ext : List Value) (N many : Nat) (iv : Value) (wr : World) : Prop :=
  ∃ (k : Nat) (T' : List Slot), k ≤ M.length ∧ iv = .int .i64 k ∧ GrowW w d B S M ext N many k T' wr

def GrownOut (w : World) (d many N : Nat) (M : List Ent) (w' : World) : Prop := ∃ S' T', w.heap.size ≤ S' ∧ DirW w' d S' T' many ∧ TabOf T' M ∧ T'.length = N
theorem tat_map (M : List Ent) (k : Nat) (h : k < M.length) : tat (M.map slotOf) k = ⟨M[k].1, M[k].2, true⟩ := by
  rw [tat_lt (by simpa using h)]; simp [slotOf]
theorem sorted_fresh {M : List Ent} (h : SortedM M) {k : Nat} (hk : k < M.length) : M[k].1 ∉ (M.take k).map (·.1) := by
  intro hm
  obtain ⟨x, hx, he⟩ := List.mem_map.1 hm
  obtain ⟨i, hi, rfl⟩ := List.getElem_of_mem hx
  simp only [List.length_take] at hi
  have hd := h
  unfold SortedM at hd
  rw [List.pairwise_iff_getElem] at hd
  have := hd i k (by omega) hk (by omega)
  simp only [List.getElem_take] at he
  rw [he] at this
  exact lt_irr _ this

set_option maxRecDepth 20000 in
set_option maxHeartbeats 1600000 in
theorem kd_grow (w : World) (d S : Nat) (T : List Slot) (many : Nat) (M : List Ent) (h : DirW w d S T many) (hT : TabOf T M) (hle : T.length ≤ 536870912) (hkeys : ∀ x ∈ M, x.1.length ≤ 140737488351232) :
    Calls Try.prog 16 #[.pointer (some ⟨d, 0, none⟩)] w fun e w' => e = .returned (.tuple #[]) ∧ GrownOut w d many (2 * T.length) M w' ∧ Frm (fun b => b = d) w w' := by
  have HR := Lib.hid (kd_rising w d S T many M h hT (by omega))
  have hM : M.length ≤ T.length := by have := hT.room; omega
  have hsort := hT.sorted
  have h8 := hT.eight
  have hmk : ∀ W : World, (Instr.makeSlice 43 (.int .i64 (2 * (T.length : Int))) (.int .i64 (2 * (T.length : Int)))).run Try.prog W = .ok (.slice (some ⟨W.heap.size, 0, none⟩) (2 * T.length) (2 * T.length)) (W.alloc (.cells (flatS (List.replicate (2 * T.length) Slot.zero)).toArray 48)) := fun W => run_make_slots W (2 * T.length) (by omega)
  have hdl := lt_of_block h.hd
  have n1 : 2 * T.length ≤ 1073741824 := by omega
  have n2 : M.length < 2 * T.length := by omega
  have n3 : 8 ≤ 2 * T.length := by omega
  have n4 : 2 * M.length ≤ 2 * T.length := by omega
  have HP2 : Hid (∃ m, m < 60 ∧ 2 * T.length = 2 ^ m) := Lib.hid (by
    obtain ⟨m, hm⟩ := hT.pow
    refine ⟨m + 1, Nat.lt_of_not_le fun h60 => ?_, by rw [hm, Nat.pow_succ]; omega⟩
    have h1 : 2 ^ 60 ≤ 2 ^ (m + 1) := Nat.pow_le_pow_right (by omega) h60
    have h3 : (2 : Nat) ^ 60 = 1152921504606846976 := by decide
    rw [Nat.pow_succ] at h1
    omega)
  go_enter Try.func16, Try.ntmps16
  go_wp2_with (go_at_call 19; refine HR.out.mono ?_; rintro e w1 ⟨⟨B, cap, ext, rfl, hB, hR1⟩, hb1⟩; have hD1 := h.below hb1; have c0 := hD1.c0; have f0 := hD1.f0; have hd1 := lt_of_block hD1.hd)
  have hsz1 := hb1.size
  have hst : GrowW w d B w1.heap.size M ext (2 * T.length) many 0 (List.replicate (2 * T.length) Slot.zero) ((w1.setCell ⟨d, 0, none⟩ (.slice (some ⟨w1.heap.size, 0, none⟩) (2 * T.length) (2 * T.length))).alloc (.cells (flatS (List.replicate (2 * T.length) Slot.zero)).toArray 48)) := by
    have hs1 : (w1.setCell ⟨d, 0, none⟩ (.slice (some ⟨w1.heap.size, 0, none⟩) (2 * T.length) (2 * T.length))).heap.size = w1.heap.size := by simp
    refine ⟨⟨?_, ?_⟩, FillSt.start _, ⟨?_⟩, ((Frm.of_below (F := fun b => b = d) hb1).set _ _ (fun _ => rfl)).alloc _⟩
    · rw [Below.heap_alloc _ _ _ (by rw [hs1]; exact hd1), heap_set_cell hD1.hd]; simp
    · have := heap_alloc_new (w1.setCell ⟨d, 0, none⟩ (.slice (some ⟨w1.heap.size, 0, none⟩) (2 * T.length) (2 * T.length))) (.cells (flatS (List.replicate (2 * T.length) Slot.zero)).toArray 48)
      rwa [hs1] at this
    · rw [Below.heap_alloc _ _ _ (by rw [hs1]; exact hR1.lt), Below.heap_setCell _ _ _ _ (by simp; omega)]; exact hR1.h
  have hBS := hR1.lt
  clear c0 f0 hD1
  generalize (w1.setCell ⟨d, 0, none⟩ (.slice (some ⟨w1.heap.size, 0, none⟩) (2 * T.length) (2 * T.length))).alloc (.cells (flatS (List.replicate (2 * T.length) Slot.zero)).toArray 48) = w2 at *
  generalize hS' : w1.heap.size = S' at *
  have HS' := Lib.hid hS'; clear hS'
  generalize hN2 : 2 * T.length = N2 at *
  have HN2 := Lib.hid hN2; clear hN2
  go_loopw [19] (GrowRel w d B S' M ext N2 many) (fun i _ => M.length - (intOf i).toNat)
  case atStart => exact ⟨0, _, by omega, rfl, hst⟩
  case round =>
    clear hst
    obtain ⟨k, T', hk, rfl, hg⟩ := hrel
    by_cases hkm : k < M.length
    · have hlen : T'.length = N2 := hg.fill.len
      obtain ⟨s0, s1, s2, s3, s4, s5⟩ := hg.old.slot (i := k) (by simpa using hkm)
      have hfresh := sorted_fresh hsort hkm
      have hstep := hg.fill.step M[k].1 M[k].2 hfresh (by simp; omega)
      have hkey := hkeys M[k] (List.getElem_mem hkm)
      have hTN : TabN T' := ⟨by rw [hlen]; exact HP2.out, by omega, by omega⟩
      have hE : ∃ e, e < T'.length ∧ (tat T' e).is = false := empty_ex (by
        have := hg.fill.perm.length_eq
        rw [this, hlen, List.length_take]; omega)
      rw [tat_map M k hkm] at s0 s1 s2 s3 s4 s5
      obtain ⟨hfl, hf2⟩ := hstep
      have hsz := Lib.hid hg.frm.size
      have hbA := (Below.refl wr.heap.size wr).alloc (Nat.le_refl _) (.cells (Slot.vals ⟨M[k].1, M[k].2, true⟩).toArray 48)
      have hDA := hg.dir.below hbA
      have c0 := Amid.cell hDA.c0
      obtain ⟨b0, b1, b2, b3, b4, b5⟩ := Box6.new (w := wr) (t := 48) (s := ⟨M[k].1, M[k].2, true⟩) (Below.refl _ _)
      have c6 := Amid.cell b0; have c7 := Amid.cell b1; have c8 := Amid.cell b2; have c9 := Amid.cell b3; have c10 := Amid.cell b4; have c11 := Amid.cell b5
      unfold Slot.vals at *
      have HF := Lib.hid (fun W (hW : DirW W d S' T' many) => kd_find M[k].1 hkey W d S' T' many hW hTN hE)
      have HDA := Lib.hid hDA
      have HG := Lib.hid hg
      have Hf2 := Lib.hid hf2
      have Hbox := Lib.hid hbA
      clear hDA hg hf2 hbA b0 b1 b2 b3 b4 b5 hfresh
      generalize findT T' M[k].1 = i at *
      go_wp2_with fail
      refine wp_amid_tail 10 (by kernel_rfl) (by kernel_rfl) ?_
      simp only [List.take_succ_cons, List.take_zero, List.drop_succ_cons, List.drop_zero]
      repeat (quiet_step ((go_at_call 14; exact Amid.call (HF.out _ (HDA.out.below (Amid.h _))))))
      refine wpQuiet_nil ?_
      rintro _ ⟨p, rfl⟩
      have hP := HDA.out.below p.h
      have fs := hP.fS
      obtain ⟨t0, t1, t2, t3, t4, t5⟩ := hP.slot (i := i) (by omega)
      go_wp2_with fail
      go_roundw
      case rel =>
        have hst := hP.store (i := i) (by omega) ⟨M[k].1, M[k].2, true⟩
        have hbp := Hbox.out.trans (p.h.mono (by simp))
        refine ⟨k + 1, _, by omega, by go_num, ⟨hst, ?_, ?_, ?_⟩⟩
        · rw [List.take_succ_eq_append_getElem hkm]; exact Hf2.out
        · exact (HG.out.old.below hbp).frm (Frm.store (F := fun b => b = S') (Frm.refl _ _) (fun _ => rfl) i ⟨M[k].1, M[k].2, true⟩) (by omega)
        · exact Frm.store (F := fun b => b = d) (HG.out.frm.then_below hbp) (fun hx => by omega) i ⟨M[k].1, M[k].2, true⟩
      case measure => simp [intOf]; omega
    · obtain rfl : k = M.length := by omega
      go_wp2_with fail
      go_end0
      exact ⟨rfl, ⟨S', T', hsz1, hg.dir, hg.fill.tab (by rw [List.take_length]) hsort n3 (let ⟨m, h⟩ := HP2.out; ⟨m, h.2⟩) n4, by rw [hg.fill.len]; exact HN2.out.symm⟩, hg.frm⟩
end Go.Proofs.Ytdllmflhgbponaa
