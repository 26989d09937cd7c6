/- thwartref12.Read -/
import Derived.Test.YtllaflgcladgoaaDoorRefPlain
import Derived.Test.YtllaflgcladgoaaDoorRefTake
import Derived.Test.YtllaflgcladgoaaDoorTo
import Derived.Deep.DeepCutAuto
namespace Go.Proofs.YtllaflgcladgoaaDoor
open Go Go.RowKit Go.Thw

def u64v (n : Nat) : Value := .int .u64 (n : Int)
theorem u64_info : (Tryd.prog.info? 54).map (fun i => (i.zero, i.size, i.bytes)) = some (some (.int .u64 0), 1, 8) := by kernel_rfl
def strLen : Value → Nat
  | .string s => s.size
  | _ => 0

/-- the result's box and the numbers' row -/
structure RrW (w : World) (lv : Value) (ns : List Nat) (wr : World) : Prop where
  hR : wr.heap[w.heap.size]? = some (.cells #[.int .i64 0, .slice none 0 0] 32 (0, 0))
  own : wr.ownsRow (w.heap.size + 1) 54 1 lv ns.length (ns.map u64v)
  bel : Below w.heap.size w wr
section
variable {w : World} {lv : Value} {ns : List Nat} {wr w1 : World}
theorem RrW.start : RrW w (.slice none 0 0) [] (w.alloc (.cells #[.int .i64 0, .slice none 0 0] 32)) :=
  ⟨heap_alloc_new w _, World.ownsRow_nil _ _ _ _, (Below.refl _ w).alloc (Nat.le_refl _) _⟩
theorem RrW.below (h : RrW w lv ns wr) (hb : Below wr.heap.size wr w1) : RrW w lv ns w1 := by
  refine ⟨(hb.block _ (lt_of_block h.hR)).trans h.hR, ?_, h.bel.trans (hb.mono h.bel.size)⟩
  obtain ⟨h1, h2⟩ := h.own
  refine ⟨h1, ?_⟩
  rcases h2 with h2 | ⟨g, cap, cur, hv, hg, hh, r⟩
  · exact Or.inl h2
  · exact Or.inr ⟨g, cap, cur, hv, hg, (hb.block _ (lt_of_block hh)).trans hh, r⟩
theorem RrW.app (h : RrW w lv ns wr) {v' : Value} {n : Nat} (ho : w1.ownsRow (w.heap.size + 1) 54 1 v' (ns.length + 1) (ns.map u64v ++ [.int .u64 n])) (hg : wr.grownBy w1 lv.ownBlock) : RrW w v' (ns ++ [n]) w1 := by
  have hlt := lt_of_block h.hR
  refine ⟨(hg.block _ hlt (fun e => by have := (h.own.lt _ e.symm).1; omega)).trans h.hR, by simpa [u64v] using ho, h.bel.grown hg h.bel.size (fun k hk => by have := (h.own.lt k hk).1; omega)⟩
theorem RrW.alloc (h : RrW w lv ns wr) (o : Obj) : RrW w lv ns (wr.alloc o) := h.below ((Below.refl _ _).alloc (Nat.le_refl _) o)
theorem RrW.c0 (h : RrW w lv ns wr) : wr.cell? ⟨w.heap.size, 0, none⟩ = some (.int .i64 0) := cell_of_row wr _ 0 _ _ _ h.hR
theorem RrW.c1 (h : RrW w lv ns wr) : wr.cell? ⟨w.heap.size, 1, none⟩ = some (.slice none 0 0) := cell_of_row wr _ 1 _ _ _ h.hR
theorem RrW.f0 (h : RrW w lv ns wr) : wr.frozen? ⟨w.heap.size, 0, none⟩ = false := frozen_of_row wr _ 0 _ _ h.hR
theorem RrW.f1 (h : RrW w lv ns wr) : wr.frozen? ⟨w.heap.size, 1, none⟩ = false := frozen_of_row wr _ 1 _ _ h.hR
end

def RrRel (w : World) (d : List UInt8) (sv lv : Value) (wr : World) : Prop :=
  ∃ (s : List UInt8) (ns : List Nat), sv = .string (bs s) ∧ s.length ≤ d.length ∧ ns.length + s.length ≤ d.length ∧ RrW w lv ns wr ∧ (∀ n ∈ ns, n ≤ 4294967295) ∧ allN d.length d = (allN s.length s).map (ns ++ ·)

def RrOut (w : World) (o : Int × Int × List SegD) (e : Ending) (w' : World) : Prop :=
  (∃ a c, e = .returned (.tuple #[.agg #[.int .i64 o.2.1, .slice a o.2.2.length c], .int .i64 o.1]) ∧ SegsIn w' a o.2.2) ∧ Below w.heap.size w w'
theorem RrW.bad {w : World} {lv : Value} {ns : List Nat} {wr : World} (h : RrW w lv ns wr) (n : Int) : RrOut w (n, 0, []) (.returned (.tuple #[.agg #[.int .i64 0, .slice none 0 0], .int .i64 n])) ((wr.setCell ⟨w.heap.size, 0, none⟩ (.int .i64 0)).setCell ⟨w.heap.size, 1, none⟩ (.slice none 0 0)) :=
  ⟨⟨none, 0, rfl, SegsIn.nil _ _⟩, (h.bel.setCell (by simp) _).setCell (by simp) _⟩

/-- m's box, its row -/
structure MmW (w0 : World) (v : Int) (sv : Value) (ys : List SegD) (wr : World) : Prop where
  hM : wr.heap[w0.heap.size]? = some (.cells #[.int .i64 v, sv] 32 (0, 0))
  own : wr.ownsRow (w0.heap.size + 1) 48 3 sv ys.length (ys.flatMap SegD.vals)
  bel : Below w0.heap.size w0 wr
section
variable {w0 : World} {v : Int} {sv : Value} {ys : List SegD} {wr : World}
theorem MmW.start (w0 : World) (v : Int) : MmW w0 v (.slice none 0 0) [] (w0.alloc (.cells #[.int .i64 v, .slice none 0 0] 32)) :=
  ⟨heap_alloc_new w0 _, World.ownsRow_nil _ _ _ _, (Below.refl _ w0).alloc (Nat.le_refl _) _⟩
theorem MmW.app (h : MmW w0 v sv ys wr) {w1 : World} {v' : Value} {ys' : List SegD} (ho : w1.ownsRow (w0.heap.size + 1) 48 3 v' ys'.length (ys'.flatMap SegD.vals)) (hg : wr.grownBy w1 sv.ownBlock) :
    MmW w0 v v' ys' (w1.setCell ⟨w0.heap.size, 1, none⟩ v') ∧ w1.cell? ⟨w0.heap.size, 1, none⟩ = some sv ∧ w1.frozen? ⟨w0.heap.size, 1, none⟩ = false := by
  have hlt := lt_of_block h.hM
  have b2 := (hg.block w0.heap.size hlt (fun e => by have := (h.own.lt _ e.symm).1; omega)).trans h.hM
  exact ⟨⟨(heap_set_two b2).2, ownsRow_setCell_below ho (by simp) _, (h.bel.grown hg h.bel.size (fun k hk => by have := (h.own.lt k hk).1; omega)).setCell (by simp) _⟩, cell_of_row w1 _ 1 _ _ _ b2, frozen_of_row w1 _ 1 _ _ b2⟩
theorem MmW.below {w1 : World} (h : MmW w0 v sv ys wr) (hb : Below wr.heap.size wr w1) : MmW w0 v sv ys w1 := by
  refine ⟨(hb.block _ (lt_of_block h.hM)).trans h.hM, ?_, h.bel.trans (hb.mono h.bel.size)⟩
  obtain ⟨h1, h2⟩ := h.own
  refine ⟨h1, ?_⟩
  rcases h2 with h2 | ⟨g, cap, cur, hv, hg, hh, r⟩
  · exact Or.inl h2
  · exact Or.inr ⟨g, cap, cur, hv, hg, (hb.block _ (lt_of_block hh)).trans hh, r⟩
theorem MmW.alloc (h : MmW w0 v sv ys wr) (o : Obj) : MmW w0 v sv ys (wr.alloc o) := h.below ((Below.refl _ _).alloc (Nat.le_refl _) o)
theorem MmW.drew (h : MmW w0 v sv ys wr) : MmW w0 v sv ys wr.drew := h.below (Below.refl _ _).drew
theorem MmW.form (h : MmW w0 v sv ys wr) : ∃ a c, sv = .slice a ys.length c := by
  rcases h.own.2 with ⟨h1, h2⟩ | ⟨g, cap, cur, hv, _⟩
  · rw [h2]; exact ⟨_, _, h1⟩
  · exact ⟨_, _, hv⟩
end
def MmRel (w0 : World) (v : Int) (xs : List SegD) (iv : Value) (wr : World) : Prop :=
  ∃ (j : Nat) (sv : Value), iv = .int .i64 ((2 + 3 * j : Nat) : Int) ∧ j ≤ xs.length ∧ MmW w0 v sv (xs.take j) wr

set_option maxRecDepth 20000 in
set_option maxHeartbeats 6400000 in
theorem ref_Read_c (w : World) (l : List UInt8) (hl : l.length ≤ 3000) :
    Calls Tryd.prog 12 #[.string (bs l)] w (RrOut w (refR l)) := by
  cases ho : openL l with
  | none =>
    have HO := Lib.hid (ref_Open_no l (by omega) ho)
    rw [show refR l = (4, 0, []) by simp only [refR, ho]]
    clear ho
    go_enter Tryd.func12, Tryd.ntmps12
    have h0 := RrW.start (w := w)
    go_wp2_with (go_at_call 32; refine (HO.out _).mono ?_; rintro e w1 ⟨rfl, hb1⟩; have h1 := h0.below hb1; have c0 := h1.c0; have c1 := h1.c1; have f0 := h1.f0; have f1 := h1.f1)
    refine bodyPost_ret (v := .tuple #[.agg #[.int .i64 0, .slice none 0 0], .int .i64 4]) ?_ rfl (h1.bad 4)
    simp [results, Tryd.results12, go_sem, c0, c1]
  | some d =>
    have HO := Lib.hid (ref_Open_ok l d (by omega) ho)
    have hdl : d.length ≤ 3000 := by
      have := openL_some ho
      rw [this] at hl
      simp only [sealL, List.length_append] at hl
      omega
    have hR : refR l = refD l d := by simp only [refR, ho]
    have HRr := Lib.hid hR
    clear ho hR
    generalize refR l = out at *
    go_enter Tryd.func12, Tryd.ntmps12
    have h0 := RrW.start (w := w)
    go_wp2_with (go_at_call 32; refine (HO.out _).mono ?_; rintro e w1 ⟨rfl, hb1⟩; have h1 := h0.below hb1)
    go_loopw [4, 6] (RrRel w d) (fun s _ _ => strLen s)
    case atStart => exact ⟨d, [], rfl, by omega, by simp, h1, by simp, by simp⟩
    case round =>
      clear h0 h1
      obtain ⟨s, ns, rfl, hsl, hnl, hw, hle, hall⟩ := hrel
      have c0 := hw.c0
      have c1 := hw.c1
      have f0 := hw.f0
      have f1 := hw.f1
      by_cases hs : s = []
      · subst hs
        have hall2 : allN d.length d = some ns := by rw [hall]; simp [allN]
        clear hall
        by_cases hlt2 : ns.length < 2
        · have hout : out = (2, 0, []) := by
            rw [HRr.out, refD, hall2]; simp only [if_pos hlt2]
          subst hout
          obtain ⟨a2, c2, rfl⟩ : ∃ a c, u6 = .slice a ns.length c := by
            rcases hw.own.2 with ⟨h1, h2⟩ | ⟨g, cap, cur, hv, _⟩
            · rw [h2]; exact ⟨_, _, h1⟩
            · exact ⟨_, _, hv⟩
          have q1 : decide ((ns.length : Int) < 2) = true := by simp; omega
          clear hall2 hle
          go_wp2_with fail
          refine bodyPost_ret (v := .tuple #[.agg #[.int .i64 0, .slice none 0 0], .int .i64 2]) ?_ rfl (hw.bad 2)
          simp [results, Tryd.results12, go_sem, c0, c1]
        · have hout : out = if bytesO (ns.getD 0 0 : Nat) (groupL (ns.drop 2)) = (l, 0) then ((0 : Int), ((ns.getD 0 0 : Nat) : Int), groupL (ns.drop 2)) else (2, 0, []) := by
            rw [HRr.out, refD, hall2]; simp only [if_neg hlt2]
          have hfit := group_fits (ns.drop 2) (fun n hn => hle n (List.mem_of_mem_drop hn))
          have hgl := group_len (ns.drop 2)
          rw [List.length_drop] at hgl
          have hga := group_at (ns.drop 2)
          rw [List.length_drop] at hga
          have hv0 : ns.getD 0 0 ≤ 4294967295 := hle _ (by
            rw [List.getD_eq_getElem?_getD, List.getElem?_eq_getElem (by omega), Option.getD_some]; exact List.getElem_mem _)
          have hvv : ∀ i, i < ns.length → ns.getD i 0 ≤ 4294967295 := fun i hi => hle _ (by
            rw [List.getD_eq_getElem?_getD, List.getElem?_eq_getElem hi, Option.getD_some]; exact List.getElem_mem _)
          obtain ⟨g, cap, rfl, hg1, hg2⟩ := hw.own.form (by omega)
          have hcl : ∀ i, i < ns.length → wr.cell? ⟨g, i, none⟩ = some (.int .u64 (ns.getD i 0 : Nat)) := by
            intro i hi
            have := hw.own.cells (g := g) rfl i (u64v (ns.getD i 0)) (by simp [u64v, List.getD_eq_getElem?_getD, List.getElem?_eq_getElem hi])
            rw [WideShapes.add_plain] at this
            simpa [u64v] using this
          have hc0 := hcl 0 (by omega)
          have Hfit := Lib.hid hfit
          have Hga := Lib.hid hga
          have Hvv := Lib.hid hvv
          have Hcl := Lib.hid hcl
          have Hout := Lib.hid hout
          clear hall2 hle hfit hga hvv hcl hout
          generalize hG : groupL (ns.drop 2) = gs at *
          have HG := Lib.hid hG; clear hG
          generalize hV : ns.getD 0 0 = v at *
          have HV := Lib.hid hV; clear hV
          have q1 : decide ((ns.length : Int) < 2) = false := by simp; omega
          have q2 : (0 : Int) < (ns.length : Int) := by omega
          have q3 : IntKind.i64.wrap (v : Int) = (v : Int) := IntWalk.i64_in _ (by omega)
          go_wp2_with fail
          generalize wr = W0 at *
          have hsn : gs.length ≤ 3000 := by omega
          go_loopw [11] (MmRel W0 v gs) (fun i _ => ns.length - (intOf i).toNat)
          case atStart => exact ⟨0, _, rfl, by omega, by simpa using MmW.start W0 v⟩
          case round =>
            obtain ⟨j, sv, rfl, hj, hm⟩ := hrel
            have cO : wr.cell? ⟨W0.heap.size, 1, none⟩ = some sv := cell_of_row wr _ 1 _ _ _ hm.hM
            by_cases hjl : j < gs.length
            · have x1 := hm.bel.cell (p := ⟨g, 2 + 3 * j, none⟩) hg2
              have x2 := hm.bel.cell (p := ⟨g, 2 + 3 * j + 1, none⟩) hg2
              have x3 := hm.bel.cell (p := ⟨g, 2 + 3 * j + 2, none⟩) hg2
              rw [Hcl.out _ (by omega)] at x1 x2 x3
              have b1 := Hvv.out (2 + 3 * j) (by omega)
              have b2 := Hvv.out (2 + 3 * j + 1) (by omega)
              have b3 := Hvv.out (2 + 3 * j + 2) (by omega)
              have hga := Hga.out j (by omega)
              have hd : ∀ k, (ns.drop 2).getD k 0 = ns.getD (2 + k) 0 := fun k => by simp [List.getD_eq_getElem?_getD, List.getElem?_drop]
              rw [hd, hd, hd, show 2 + (3 * j + 1) = 2 + 3 * j + 1 by omega, show 2 + (3 * j + 2) = 2 + 3 * j + 2 by omega] at hga
              generalize ns.getD (2 + 3 * j) 0 = a1 at *
              generalize ns.getD (2 + 3 * j + 1) 0 = a2 at *
              generalize ns.getD (2 + 3 * j + 2) 0 = a3 at *
              have htk : gs.take (j + 1) = gs.take j ++ [⟨(a1 : Int), (a2 : Int), a3⟩] := by
                rw [List.take_succ_eq_append_getElem hjl]
                rw [List.getElem?_eq_getElem hjl] at hga
                rw [Option.some.inj hga]
              have Htk := Lib.hid htk
              clear htk hga hd
              have hb2 : 2 + 3 * j + 2 < ns.length := by omega
              generalize hmm : 2 + 3 * j = m at *
              have Hm := Lib.hid hmm; clear hmm
              have w1' : IntKind.i64.wrap ((m : Int) + 1) = ((m + 1 : Nat) : Int) := IntWalk.i64_in _ (by omega)
              have w2' : IntKind.i64.wrap ((m : Int) + 2) = ((m + 2 : Nat) : Int) := IntWalk.i64_in _ (by omega)
              have w3' : IntKind.i64.wrap (a1 : Int) = (a1 : Int) := IntWalk.i64_in _ (by omega)
              have w4' : IntKind.i64.wrap (a2 : Int) = (a2 : Int) := IntWalk.i64_in _ (by omega)
              have w5' : IntKind.u32.wrap (a3 : Int) = (a3 : Int) := by rw [IntKind.wrap_u32]; omega
              have e1 : wr.cell? ⟨g, m, none⟩ = some (.int .u64 a1) := x1
              have e2 : wr.cell? ⟨g, m + 1, none⟩ = some (.int .u64 a2) := x2
              have e3 : wr.cell? ⟨g, m + 2, none⟩ = some (.int .u64 a3) := x3
              clear x1 x2 x3
              have hm1 : m + 1 < ns.length := by omega
              generalize hq1 : m + 1 = m1 at *
              generalize hq2 : m + 2 = m2 at *
              have Hq1 := Lib.hid hq1; clear hq1
              have Hq2 := Lib.hid hq2; clear hq2
              have i1 : (0 : Int) ≤ (m : Int) := Int.natCast_nonneg _
              have i2 : (m : Int) < (ns.length : Int) := by have := Hq1.out; omega
              have i3 : (0 : Int) ≤ (m1 : Int) := Int.natCast_nonneg _
              have i4 : (m1 : Int) < (ns.length : Int) := by omega
              have i5 : (0 : Int) ≤ (m2 : Int) := Int.natCast_nonneg _
              have i6 : (m2 : Int) < (ns.length : Int) := by omega
              obtain ⟨i0, hi, hz0, hz1, hz2⟩ := info_parts rseg_info
              have hown := hm.own
              rw [List.length_take, Nat.min_eq_left hj] at hown
              have L3 := lt_of_block hm.hM
              have ak : ∀ k, k < W0.heap.size + 1 → sv.ownBlock ≠ some k := fun k hk e => by have := (hm.own.lt k e).1; omega
              have Ak := Lib.hid ak; clear ak
              have hgne : g ≠ W0.heap.size := by omega
              go_upto_region 17 with (fail)
              refine wp_region_held_drew (S := (fun w' => w'.cell? ⟨g, m, none⟩ = some (.int .u64 a1) ∧ w'.cell? ⟨g, m1, none⟩ = some (.int .u64 a2) ∧ w'.cell? ⟨g, m2, none⟩ = some (.int .u64 a3))) (by kernel_rfl) ⟨e1, e2, e3⟩ (fun hHeld => ?_)
              refine wpAnyH_take (i := 0) (v := ?_) rfl (by kernel_rfl) (by kernel_rfl) (by kernel_rfl) (fun _ _ _ h => h) (Or.inl ⟨by rfl, ?_⟩) (by assumption) ?_
              rotate_left
              · (intro wz hSw; (try dsimp only at hSw); go_simp; try (with_reducible rfl))
              try simp only [Act.put]
              refine wpAnyH_take (i := 2) (v := ?_) rfl (by kernel_rfl) (by kernel_rfl) (by kernel_rfl) (fun _ _ _ h => h) (Or.inl ⟨by rfl, ?_⟩) (by assumption) ?_
              rotate_left
              · (intro wz hSw; (try dsimp only at hSw); go_simp; try (with_reducible rfl))
              try simp only [Act.put]
              refine wpAnyH_take (i := 3) (v := ?_) rfl (by kernel_rfl) (by kernel_rfl) (by kernel_rfl) (fun _ _ _ h => h) (Or.inl ⟨by rfl, ?_⟩) (by assumption) ?_
              rotate_left
              · (intro wz hSw; (try dsimp only at hSw); go_simp; try (with_reducible rfl))
              try simp only [Act.put]
              refine wpAnyH_take (i := 4) (v := ?_) rfl (by kernel_rfl) (by kernel_rfl) (by kernel_rfl) (fun _ _ _ h => h) (Or.inl ⟨by rfl, ?_⟩) (by assumption) ?_
              rotate_left
              · (intro wz hSw; (try dsimp only at hSw); go_simp; try (with_reducible rfl))
              try simp only [Act.put]
              refine wpAnyH_take (i := 5) (v := ?_) rfl (by kernel_rfl) (by kernel_rfl) (by kernel_rfl) (fun _ _ _ h => h) (Or.inl ⟨by rfl, ?_⟩) (by assumption) ?_
              rotate_left
              · (intro wz hSw; (try dsimp only at hSw); go_simp; try (with_reducible rfl))
              try simp only [Act.put]
              refine wpAnyH_take (i := 6) (v := ?_) rfl (by kernel_rfl) (by kernel_rfl) (by kernel_rfl) (fun _ _ _ h => h) (Or.inl ⟨by rfl, ?_⟩) (by assumption) ?_
              rotate_left
              · (intro wz hSw; (try dsimp only at hSw); go_simp; try (with_reducible rfl))
              try simp only [Act.put]
              refine wpAnyH_take (i := 7) (v := ?_) rfl (by kernel_rfl) (by kernel_rfl) (by kernel_rfl) (fun _ _ _ h => h) (Or.inl ⟨by rfl, ?_⟩) (by assumption) ?_
              rotate_left
              · (intro wz hSw; (try dsimp only at hSw); go_simp; try (with_reducible rfl))
              try simp only [Act.put]
              refine wpAnyH_take (i := 8) (v := ?_) rfl (by kernel_rfl) (by kernel_rfl) (by kernel_rfl) (fun _ _ _ h => h) (Or.inl ⟨by rfl, ?_⟩) (by assumption) ?_
              rotate_left
              · (intro wz hSw; (try dsimp only at hSw); go_simp; try (with_reducible rfl))
              try simp only [Act.put]
              refine wpAnyH_take (i := 9) (v := ?_) rfl (by kernel_rfl) (by kernel_rfl) (by kernel_rfl) (fun _ _ _ h => h) (Or.inl ⟨by rfl, ?_⟩) (by assumption) ?_
              rotate_left
              · (intro wz hSw; (try dsimp only at hSw); go_simp; try (with_reducible rfl))
              try simp only [Act.put]
              refine wpAnyH_take (i := 10) (v := ?_) rfl (by kernel_rfl) (by kernel_rfl) (by kernel_rfl) (fun _ _ _ h => h) (Or.inl ⟨by rfl, ?_⟩) (by assumption) ?_
              rotate_left
              · (intro wz hSw; (try dsimp only at hSw); go_simp; try (with_reducible rfl))
              try simp only [Act.put]
              refine wpAnyH_take (i := 11) (v := ?_) rfl (by kernel_rfl) (by kernel_rfl) (by kernel_rfl) (fun _ _ _ h => h) (Or.inl ⟨by rfl, ?_⟩) (by assumption) ?_
              rotate_left
              · (intro wz hSw; (try dsimp only at hSw); go_simp; try (with_reducible rfl))
              try simp only [Act.put]
              refine wpAnyH_take (i := 12) (v := ?_) rfl (by kernel_rfl) (by kernel_rfl) (by kernel_rfl) (fun _ _ _ h => h) (Or.inl ⟨by rfl, ?_⟩) (by assumption) ?_
              rotate_left
              · (intro wz hSw; (try dsimp only at hSw); go_simp; try (with_reducible rfl))
              try simp only [Act.put]
              refine wpAnyH_take (i := 13) (v := ?_) rfl (by kernel_rfl) (by kernel_rfl) (by kernel_rfl) (fun _ _ _ h => h) (Or.inl ⟨by rfl, ?_⟩) (by assumption) ?_
              rotate_left
              · (intro wz hSw; (try dsimp only at hSw); go_simp; try (with_reducible rfl))
              try simp only [Act.put]
              refine wpAnyH_take (i := 14) (v := ?_) rfl (by kernel_rfl) (by kernel_rfl) (by kernel_rfl) (fun _ _ _ h => h) (Or.inl ⟨by rfl, ?_⟩) (by assumption) ?_
              rotate_left
              · (intro wz hSw; (try dsimp only at hSw); go_simp; try (with_reducible rfl))
              try simp only [Act.put]
              refine wpAnyH_take (i := 15) (v := ?_) rfl (by kernel_rfl) (by kernel_rfl) (by kernel_rfl) (fun _ _ _ h => h) (Or.inl ⟨by rfl, ?_⟩) (by assumption) ?_
              rotate_left
              · (intro wz hSw; (try dsimp only at hSw); go_simp; try (with_reducible rfl))
              try simp only [Act.put]
              refine wpAnyH_take (i := 16) (v := ?_) rfl (by kernel_rfl) (by kernel_rfl) (by kernel_rfl) (fun _ _ _ h => h) (Or.inl ⟨by rfl, ?_⟩) (by assumption) ?_
              rotate_left
              · (intro wz hSw; (try dsimp only at hSw); go_simp; try (with_reducible rfl))
              try simp only [Act.put]
              refine wpAnyH_take (i := 17) (v := ?_) rfl (by kernel_rfl) (by kernel_rfl) (by kernel_rfl) (fun _ _ _ h => h) (Or.inl ⟨by rfl, ?_⟩) (by assumption) ?_
              rotate_left
              · (intro wz hSw; (try dsimp only at hSw); go_simp; try (with_reducible rfl))
              try simp only [Act.put]
              refine wpAnyH_take (i := 18) (v := ?_) rfl (by kernel_rfl) (by kernel_rfl) (by kernel_rfl) (fun _ _ _ h => h) (Or.inl ⟨by rfl, ?_⟩) (by assumption) ?_
              rotate_left
              · (intro wz hSw; (try dsimp only at hSw); go_simp; try (with_reducible rfl))
              try simp only [Act.put]
              refine wpAnyH_take (i := 19) (v := ?_) rfl (by kernel_rfl) (by kernel_rfl) (by kernel_rfl) (fun _ _ _ h => h) (Or.inl ⟨by rfl, ?_⟩) (by assumption) ?_
              rotate_left
              · (intro wz hSw; (try dsimp only at hSw); go_simp; try (with_reducible rfl))
              try simp only [Act.put]
              refine wpAnyH_ready (rs := [1, 20]) (by kernel_rfl) (by simp) ?_
              refine AllReadyH.cons rfl (fun K hK => ?_) (AllReadyH.cons rfl (fun K hK => ?_) AllReadyH.nil)
              · go_simp
                refine hK.out _ _ hHeld (fun hHeld => ?_)
                clear hK K
                try simp only [Act.put]
                refine wpAnyH_ready (rs := [20]) (by kernel_rfl) (by simp) ?_
                refine AllReadyH.cons rfl (fun K hK => ?_) AllReadyH.nil
                go_simp
                refine hK.out _ _ ?_ (fun hHeld => ?_)
                · go_keep
                clear hK K
                try simp only [Act.put]
                refine wpAnyH_ready (rs := [21]) (by kernel_rfl) (by simp) ?_
                refine AllReadyH.cons rfl (fun K hK => ?_) AllReadyH.nil
                refine step_append_lies _ (by rfl) _ _ _ (by rfl) (W0.heap.size + 1) 48 i0 _ 3 24 Tryd.underlying30 hi hz0 hz1 hz2 rfl (by omega) sv j _ (by rfl) ((hown.alloc _).drew)
                  ⟨wr.heap.size, 0, none⟩ 1 1 [.int .i64 a1, .int .i64 a2, .int .u32 a3] (by rfl) (by rfl) (World.news_of_block (cs := #[.int .i64 a1, .int .i64 a2, .int .u32 a3]) (t := 48) (fr := (0, 0)) (heap_alloc_new wr _)) (by simp [Value.oneCell'])
                  (by omega) (by unfold maxLen; omega) (by omega) (by simp; omega) (wr.heap.size + 1) (by simp) ?_
                intro gg cap2 w6 hown1 hgrow hat hlt1
                have hfar : ∀ (q : Addr) (u : Value), q.block < W0.heap.size → wr.cell? q = some u → w6.cell? q = some u := fun q u hq hu => (hgrow.cell_far _ (by simp; omega) (fun e => Ak.out q.block (by omega) e.symm)).trans ((((Below.refl wr.heap.size wr).alloc (Nat.le_refl _) _).drew.cell (p := q) (by omega)).trans hu)
                refine hK.out _ _ ⟨hfar _ _ hg2 e1, hfar _ _ hg2 e2, hfar _ _ hg2 e3⟩ (fun hHeld => ?_)
                clear hK K
                try simp only [Act.put]
                obtain ⟨hnew, hs1, hs2⟩ := (hm.alloc (.cells #[.int .i64 a1, .int .i64 a2, .int .u32 a3] 48)).drew.app (ys' := gs.take (j + 1)) (v' := .slice (some ⟨gg, 0, none⟩) (j + 1) cap2) (w1 := w6) (by rw [Htk.out]; simpa [SegD.vals, hj] using hown1) hgrow
                refine wpAnyH_take (i := 22) (v := ?_) rfl (by kernel_rfl) (by kernel_rfl) (by kernel_rfl) (fun _ _ _ h => h) (Or.inl ⟨by rfl, ?_⟩) (by assumption) ?_
                rotate_left
                · (intro wz hSw; (try dsimp only at hSw); go_simp; try (with_reducible rfl))
                try simp only [Act.put]
                refine wpAnyH_ready (rs := [23]) (by kernel_rfl) (by simp) ?_
                refine AllReadyH.cons rfl (fun K hK => ?_) AllReadyH.nil
                go_simp
                refine hK.out _ _ ?_ (fun hHeld => ?_)
                · obtain ⟨z1, z2, z3⟩ := hHeld
                  exact ⟨(World.cell?_setCell_other _ _ _ _ (by simp <;> omega)).trans z1, (World.cell?_setCell_other _ _ _ _ (by simp <;> omega)).trans z2, (World.cell?_setCell_other _ _ _ _ (by simp <;> omega)).trans z3⟩
                clear hK K
                try simp only [Act.put]
                refine wpAnyH_done (by kernel_rfl) ?_ _
                go_wp2_with fail
                go_roundw
                case rel => exact ⟨j + 1, _, by rw [show ((2 + 3 * (j + 1) : Nat) : Int) = (m : Int) + 3 by rw [← Hm.out]; omega], by omega, hnew⟩
                case measure => simp [intOf]; omega
              · go_simp
                refine hK.out _ _ ?_ (fun hHeld => ?_)
                · go_keep
                clear hK K
                try simp only [Act.put]
                refine wpAnyH_ready (rs := [1]) (by kernel_rfl) (by simp) ?_
                refine AllReadyH.cons rfl (fun K hK => ?_) AllReadyH.nil
                go_simp
                refine hK.out _ _ hHeld (fun hHeld => ?_)
                clear hK K
                try simp only [Act.put]
                refine wpAnyH_ready (rs := [21]) (by kernel_rfl) (by simp) ?_
                refine AllReadyH.cons rfl (fun K hK => ?_) AllReadyH.nil
                refine step_append_lies _ (by rfl) _ _ _ (by rfl) (W0.heap.size + 1) 48 i0 _ 3 24 Tryd.underlying30 hi hz0 hz1 hz2 rfl (by omega) sv j _ (by rfl) ((hown.alloc _).drew)
                  ⟨wr.heap.size, 0, none⟩ 1 1 [.int .i64 a1, .int .i64 a2, .int .u32 a3] (by rfl) (by rfl) (World.news_of_block (cs := #[.int .i64 a1, .int .i64 a2, .int .u32 a3]) (t := 48) (fr := (0, 0)) (heap_alloc_new wr _)) (by simp [Value.oneCell'])
                  (by omega) (by unfold maxLen; omega) (by omega) (by simp; omega) (wr.heap.size + 1) (by simp) ?_
                intro gg cap2 w6 hown1 hgrow hat hlt1
                have hfar : ∀ (q : Addr) (u : Value), q.block < W0.heap.size → wr.cell? q = some u → w6.cell? q = some u := fun q u hq hu => (hgrow.cell_far _ (by simp; omega) (fun e => Ak.out q.block (by omega) e.symm)).trans ((((Below.refl wr.heap.size wr).alloc (Nat.le_refl _) _).drew.cell (p := q) (by omega)).trans hu)
                refine hK.out _ _ ⟨hfar _ _ hg2 e1, hfar _ _ hg2 e2, hfar _ _ hg2 e3⟩ (fun hHeld => ?_)
                clear hK K
                try simp only [Act.put]
                obtain ⟨hnew, hs1, hs2⟩ := (hm.alloc (.cells #[.int .i64 a1, .int .i64 a2, .int .u32 a3] 48)).drew.app (ys' := gs.take (j + 1)) (v' := .slice (some ⟨gg, 0, none⟩) (j + 1) cap2) (w1 := w6) (by rw [Htk.out]; simpa [SegD.vals, hj] using hown1) hgrow
                refine wpAnyH_take (i := 22) (v := ?_) rfl (by kernel_rfl) (by kernel_rfl) (by kernel_rfl) (fun _ _ _ h => h) (Or.inl ⟨by rfl, ?_⟩) (by assumption) ?_
                rotate_left
                · (intro wz hSw; (try dsimp only at hSw); go_simp; try (with_reducible rfl))
                try simp only [Act.put]
                refine wpAnyH_ready (rs := [23]) (by kernel_rfl) (by simp) ?_
                refine AllReadyH.cons rfl (fun K hK => ?_) AllReadyH.nil
                go_simp
                refine hK.out _ _ ?_ (fun hHeld => ?_)
                · obtain ⟨z1, z2, z3⟩ := hHeld
                  exact ⟨(World.cell?_setCell_other _ _ _ _ (by simp <;> omega)).trans z1, (World.cell?_setCell_other _ _ _ _ (by simp <;> omega)).trans z2, (World.cell?_setCell_other _ _ _ _ (by simp <;> omega)).trans z3⟩
                clear hK K
                try simp only [Act.put]
                refine wpAnyH_done (by kernel_rfl) ?_ _
                go_wp2_with fail
                go_roundw
                case rel => exact ⟨j + 1, _, by rw [show ((2 + 3 * (j + 1) : Nat) : Int) = (m : Int) + 3 by rw [← Hm.out]; omega], by omega, hnew⟩
                case measure => simp [intOf]; omega
            · obtain rfl : j = gs.length := by omega
              rw [List.take_length] at hm
              obtain ⟨a', c', rfl⟩ := hm.form
              have cO0 : wr.cell? ⟨W0.heap.size, 0, none⟩ = some (.int .i64 v) := cell_of_row wr _ 0 _ _ _ hm.hM
              have hseg := Lib.hid (segs_ofOwn hm.own Hfit.out)
              have HB := Lib.hid (fun (W : World) (h : SegsIn W a' gs) => ref_Bytes_c W (v : Int) a' c' gs (by omega) h)
              have hE : (bytesO (v : Int) gs).2 = 0 ∨ (bytesO (v : Int) gs).2 = 1 := by unfold bytesO; split <;> simp
              have hwrap : IntKind.i64.wrap (((2 + 3 * gs.length : Nat) : Int) + 2) = ((2 + 3 * gs.length + 2 : Nat) : Int) := IntWalk.i64_in _ (by omega)
              have hend : ¬ (((2 + 3 * gs.length + 2 : Nat) : Int) < (ns.length : Int)) := by omega
              generalize hX : bytesO (v : Int) gs = X at *
              obtain ⟨x, e⟩ := X
              have Hout' := Lib.hid Hout.out
              simp only at hE HB
              clear Hout HRr hX hgl
              have hend' : decide (((2 + 3 * gs.length + 2 : Nat) : Int) < (ns.length : Int)) = false := by simpa using hend
              generalize ((2 + 3 * gs.length : Nat) : Int) = iv at *
              generalize ((2 + 3 * gs.length + 2 : Nat) : Int) = iw at *
              clear hend
              by_cases hxe : (x, e) = (l, 0)
              · simp only [Prod.mk.injEq] at hxe
                obtain ⟨rfl, rfl⟩ := hxe
                have ho2 : out = ((0 : Int), ((v : Nat) : Int), gs) := by rw [Hout'.out, if_pos rfl]
                subst ho2
                clear hE Hout'
                go_wp2_with (go_at_call 9; refine (HB.out _ hseg.out).mono ?_; rintro e w7 ⟨rfl, hb7⟩; have hm7 := hm.below hb7; have h7 := hw.below hm7.bel; have z0 := cell_of_row w7 _ 0 _ _ _ hm7.hM; have z1 := cell_of_row w7 _ 1 _ _ _ hm7.hM; have c0' := h7.c0; have c1' := h7.c1; have f0' := h7.f0; have f1' := h7.f1)
                refine bodyPost_ret (v := .tuple #[.agg #[.int .i64 (v : Int), .slice a' gs.length c'], .int .i64 0]) ?_ rfl ⟨⟨a', c', rfl, ?_⟩, (h7.bel.setCell (by simp) _).setCell (by simp) _⟩
                · simp [results, Tryd.results12, go_sem, c0', c1']
                · exact segs_ofOwn (ownsRow_setCell_below (ownsRow_setCell_below hm7.own (by simp; omega) _) (by simp; omega) _) Hfit.out
              · have ho2 : out = (2, 0, []) := by rw [Hout'.out, if_neg hxe]
                subst ho2
                rcases hE with rfl | rfl
                · have hxl : (x == l) = false := by simpa using fun e => hxe (by rw [e])
                  have hxl2 : (x != l) = true := by simpa using fun e => hxe (by rw [e])
                  clear hxe Hout'
                  go_wp2_with (go_at_call 9; refine (HB.out _ hseg.out).mono ?_; rintro e w7 ⟨rfl, hb7⟩; have hm7 := hm.below hb7; have h7 := hw.below hm7.bel; have c0' := h7.c0; have c1' := h7.c1; have f0' := h7.f0; have f1' := h7.f1)
                  refine bodyPost_ret (v := .tuple #[.agg #[.int .i64 0, .slice none 0 0], .int .i64 2]) ?_ rfl (h7.bad 2)
                  simp [results, Tryd.results12, go_sem, c0', c1']
                · clear hxe Hout'
                  go_wp2_with (go_at_call 9; refine (HB.out _ hseg.out).mono ?_; rintro e w7 ⟨rfl, hb7⟩; have hm7 := hm.below hb7; have h7 := hw.below hm7.bel; have c0' := h7.c0; have c1' := h7.c1; have f0' := h7.f0; have f1' := h7.f1)
                  refine bodyPost_ret (v := .tuple #[.agg #[.int .i64 0, .slice none 0 0], .int .i64 2]) ?_ rfl (h7.bad 2)
                  simp [results, Tryd.results12, go_sem, c0', c1']
      · have hpos : 0 < s.length := by
          rcases Nat.eq_zero_or_pos s.length with h | h
          · exact absurd (List.length_eq_zero_iff.1 h) hs
          · exact h
        have q0 : decide ((0 : Int) < (s.length : Int)) = true := by simpa using hpos
        obtain ⟨k, hk⟩ : ∃ k, s.length = k + 1 := ⟨s.length - 1, by omega⟩
        rw [hk, allN, if_neg hs] at hall
        have HT := Lib.hid (ref_Take s (by omega))
        cases htn : takeN 4294967295 s with
        | none =>
          rw [htn] at hall
          have hout : out = (2, 0, []) := by
            rw [HRr.out, refD, hall]; rfl
          subst hout
          have hbad := takeN_none htn
          clear htn hall hk hs hle
          generalize takeL s = T at *
          obtain ⟨n, r, cc⟩ := T
          unfold takeV at HT
          simp only at HT hbad
          by_cases hc : cc = 0
          · subst hc
            have q1 : decide ((4294967295 : Int) < (n : Int)) = true := by simp at hbad; simp; omega
            clear hbad
            go_wp2_with (go_at_call 33; refine (HT.out _).mono ?_; rintro e w2 ⟨rfl, hb2⟩; have h2 := hw.below hb2; have c0' := h2.c0; have c1' := h2.c1; have f0' := h2.f0; have f1' := h2.f1)
            refine bodyPost_ret (v := .tuple #[.agg #[.int .i64 0, .slice none 0 0], .int .i64 2]) ?_ rfl (h2.bad 2)
            simp [results, Tryd.results12, go_sem, c0', c1']
          · have q1 : ((cc : Int) != 0) = true := by simpa using hc
            clear hbad hc
            go_wp2_with (go_at_call 33; refine (HT.out _).mono ?_; rintro e w2 ⟨rfl, hb2⟩; have h2 := hw.below hb2; have c0' := h2.c0; have c1' := h2.c1; have f0' := h2.f0; have f1' := h2.f1)
            refine bodyPost_ret (v := .tuple #[.agg #[.int .i64 0, .slice none 0 0], .int .i64 2]) ?_ rfl (h2.bad 2)
            simp [results, Tryd.results12, go_sem, c0', c1']
        | some a =>
          obtain ⟨n, r⟩ := a
          obtain ⟨ht, hn⟩ := takeN_some htn
          have hrl := (takeL_put ht).1
          have hpp := putL_pos n
          have hlen : s.length = (putL n).length + r.length := by rw [← List.length_append, ← hrl]
          rw [htn] at hall
          simp only [Option.bind_some, Option.map_map] at hall
          rw [allN_fuel k r.length r (by omega) (Nat.le_refl _)] at hall
          have hall2 : allN d.length d = (allN r.length r).map ((ns ++ [n]) ++ ·) := by
            rw [hall]; congr 1; funext x; simp
          have Hall := Lib.hid hall2
          have hle2 : ∀ m ∈ ns ++ [n], m ≤ 4294967295 := by
            intro m hm
            rcases List.mem_append.1 hm with h | h
            · exact hle m h
            · simp at h; omega
          have Hle := Lib.hid hle2
          rw [ht] at HT
          unfold takeV at HT
          simp only at HT
          have q1 : decide ((4294967295 : Int) < (n : Int)) = false := by simp; omega
          clear hall hall2 htn ht hrl hs hle hle2
          obtain ⟨i0, hi, hz0, hz1, hz2⟩ := info_parts u64_info
          go_wp2_with (first
            | (at_builtin; refine wpList_append_own _ rfl _ _ 64 rfl (w.heap.size + 1) 54 i0 (.int .u64 0) 1 8 Tryd.underlying64 hi hz0 hz1 hz2 rfl (by decide) _ ns.length (ns.map u64v) rfl (h2.own.alloc _) ⟨w2.heap.size, 0, none⟩ 1 1 [.int .u64 n] rfl rfl ?c1 ?c2 ?c3 ?c4 ?c5 ?_)
            | (go_at_call 33; refine (HT.out _).mono ?_; rintro e w2 ⟨rfl, hb2⟩; have h2 := hw.below hb2))
          case c1 => exact cell_one_new _ _ _
          case c2 => intro u hu; simp at hu; subst hu; rfl
          case c3 => unfold maxLen; omega
          case c4 => omega
          case c5 => have := lt_of_block h2.hR; simp; omega
          · intro v' w5 hown' hgrow _
            have h5 := (h2.alloc _).app hown' hgrow
            clear hown' hgrow
            go_wp2_with fail
            go_roundw
            case rel => exact ⟨r, _, rfl, by omega, by simp; omega, h5, Hle.out, Hall.out⟩
            case measure => simp [strLen]; omega
end Go.Proofs.YtllaflgcladgoaaDoor
