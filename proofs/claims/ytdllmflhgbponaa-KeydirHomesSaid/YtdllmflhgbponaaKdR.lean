/- keydir: the rising slots: Clone, DeleteFunc, SortFunc at slots -/
import Derived.Test.YtdllmflhgbponaaKdP
import Derived.Test.YtdllmflhgbponaaShelf
import Derived.Test.YtdllmflhgbponaaSortK
import Derived.Lib.SliceRun
import Derived.WalkSpells
import Derived.Maps.AppendAt
namespace Go.Proofs.Ytdllmflhgbponaa
open Go Go.RowKit Go.Thw

/-- a row of slots, and what lies behind them in its block -/
structure RowS (w : World) (B : Nat) (L : List Slot) (ext : List Value) : Prop where
  h : w.heap[B]? = some (.cells (flatS L ++ ext).toArray 48 (0, 0))
section
variable {w w' : World} {B : Nat} {L : List Slot} {ext : List Value}
theorem RowS.lt (h : RowS w B L ext) : B < w.heap.size := lt_of_block h.h
theorem RowS.below (h : RowS w B L ext) (hb : Below w.heap.size w w') : RowS w' B L ext := ⟨(hb.block _ h.lt).trans h.h⟩
theorem RowS.frm {F : Nat → Prop} (h : RowS w B L ext) (hf : Frm F w w') (hn : ¬ F B) : RowS w' B L ext := ⟨hf.blk h.h hn⟩
theorem RowS.frz (h : RowS w B L ext) (i : Nat) : w.frozen? ⟨B, i, none⟩ = false := frozen_of_row w _ i _ _ h.h
theorem RowS.cS (h : RowS w B L ext) (i : Nat) {v : Value} (hv : (flatS L)[i]? = some v) : w.cell? ⟨B, i, none⟩ = some v := by
  rw [cell_of_row w _ i _ _ _ h.h]
  have hlt : i < (flatS L).length := (List.getElem?_eq_some_iff.1 hv).1
  simp only [List.getElem?_toArray]
  rw [List.getElem?_append_left hlt]; exact hv
theorem RowS.slot (h : RowS w B L ext) {i : Nat} (hi : i < L.length) : SlotC w B i (tat L i) := by
  obtain ⟨h0, h1, h2, h3, h4, h5⟩ := flatS_at L i hi
  exact ⟨h.cS _ h0, h.cS _ h1, h.cS _ h2, h.cS _ h3, h.cS _ h4, h.cS _ h5⟩
theorem RowS.store (h : RowS w B L ext) {i : Nat} (hi : i < L.length) (s : Slot) :
    RowS ((((((w.setCell ⟨B, i * 6, none⟩ (.string (bs s.key))).setCell ⟨B, i * 6 + 1, none⟩ (.int .i64 s.loc.seg)).setCell ⟨B, i * 6 + 2, none⟩ (.int .i64 s.loc.off)).setCell ⟨B, i * 6 + 3, none⟩ (.int .i64 s.loc.len)).setCell
      ⟨B, i * 6 + 4, none⟩ (.int .u64 s.loc.seq)).setCell ⟨B, i * 6 + 5, none⟩ (.bool s.is)) B (L.set i s) ext := by
  refine ⟨?_⟩
  have := heap_set_cell (off := i * 6 + 5) (v := .bool s.is) (heap_set_cell (off := i * 6 + 4) (v := .int .u64 s.loc.seq) (heap_set_cell (off := i * 6 + 3) (v := .int .i64 s.loc.len) (heap_set_cell (off := i * 6 + 2) (v := .int .i64 s.loc.off)
      (heap_set_cell (off := i * 6 + 1) (v := .int .i64 s.loc.seg) (heap_set_cell (off := i * 6) (v := .string (bs s.key)) h.h)))))
  rw [this, ← flatS_set L i hi s]
  have hl := flatS_len L
  simp only [List.setIfInBounds_toArray]
  rw [List.set_append_left _ _ (by omega), List.set_append_left _ _ (by simp; omega), List.set_append_left _ _ (by simp; omega), List.set_append_left _ _ (by simp; omega), List.set_append_left _ _ (by simp; omega), List.set_append_left _ _ (by simp; omega)]
end

set_option maxRecDepth 20000 in
set_option maxHeartbeats 400000 in
theorem kd_isnt (k : List UInt8) (l : LocD) (b : Bool) (w : World) : Calls Try.prog 26 #[.agg #[.string (bs k), .int .i64 l.seg, .int .i64 l.off, .int .i64 l.len, .int .u64 l.seq, .bool b]] w fun e w' => e = .returned (.bool (!b)) ∧ Below w.heap.size w w' := by
  go_enter Try.func26, Try.ntmps26
  go_wp2_with fail
  go_ret
  exact ⟨rfl, (Below.refl _ _).alloc (Nat.le_refl _) _⟩

set_option maxRecDepth 20000 in
set_option maxHeartbeats 400000 in
theorem kd_ahead (s t : Slot) (w : World) : Calls Try.prog 28 #[.agg s.vals.toArray, .agg t.vals.toArray] w fun e w' => e = .returned (.int .i64 (Lib.compareBytes s.key t.key)) ∧ Below w.heap.size w w' := by
  have hc := fun W => Try.strings_Compare (bs s.key) (bs t.key) W
  simp only [bs_data] at hc
  have HC := Lib.hid hc; clear hc
  unfold Slot.vals
  go_enter Try.func28, Try.ntmps28
  go_wp2_with (go_at_call 34; refine (HC.out _).mono ?_; rintro e w1 ⟨rfl, rfl⟩)
  go_ret
  exact ⟨rfl, ((Below.refl _ _).alloc (Nat.le_refl _) _).alloc (by simp) _⟩

def IdxRel (w : World) (n : Nat) (iv : Value) (wr : World) : Prop := ∃ k : Nat, k ≤ n ∧ iv = .int .i64 k ∧ Below w.heap.size w wr

set_option maxRecDepth 20000 in
set_option maxHeartbeats 400000 in
theorem kd_idx_some (w : World) (B cap : Nat) (L : List Slot) (ext : List Value) (h : RowS w B L ext) (hn : L.length ≤ 1073741824) (i0 : Nat) (h1 : i0 < L.length) (h2 : (tat L i0).is = false) (h3 : ∀ j, j < i0 → (tat L j).is = true) :
    Calls Try.prog 31 #[.slice (some ⟨B, 0, none⟩) L.length cap, .func (.func 26) #[] #[]] w fun e w' => e = .returned (.int .i64 i0) ∧ Below w.heap.size w w' := by
  have H3 := Lib.hid h3; clear h3
  go_enter Try.func31, Try.ntmps31
  go_wp2_with fail
  go_loopw [8] (IdxRel w i0) (fun i _ => i0 - (intOf i).toNat)
  case atStart => exact ⟨0, by omega, rfl, Below.refl _ _⟩
  case round =>
    obtain ⟨k, hk, rfl, hb⟩ := hrel
    have hkl : k < L.length := by omega
    obtain ⟨s0, s1, s2, s3, s4, s5⟩ := (h.below hb).slot hkl
    by_cases hki : k < i0
    · have hi := H3.out k hki
      have HS := Lib.hid (fun W => kd_isnt (tat L k).key (tat L k).loc true W)
      rw [hi] at s5
      clear hi
      generalize tat L k = s at *
      go_wp2_with (go_at_call 26; refine (HS.out _).mono ?_; rintro e w1 ⟨rfl, hb1⟩)
      go_roundw
      case rel => exact ⟨k + 1, by omega, by go_num, hb.trans (hb1.mono hb.size)⟩
      case measure => simp [intOf]; omega
    · obtain rfl : k = i0 := by omega
      have HS := Lib.hid (fun W => kd_isnt (tat L k).key (tat L k).loc false W)
      rw [h2] at s5
      clear h2
      generalize tat L k = s at *
      go_wp2_with (go_at_call 26; refine (HS.out _).mono ?_; rintro e w1 ⟨rfl, hb1⟩)
      go_ret
      exact ⟨rfl, hb.trans (hb1.mono hb.size)⟩

set_option maxRecDepth 20000 in
set_option maxHeartbeats 400000 in
theorem kd_idx_none (w : World) (B cap : Nat) (L : List Slot) (ext : List Value) (h : RowS w B L ext) (hn : L.length ≤ 1073741824) (h3 : ∀ j, j < L.length → (tat L j).is = true) :
    Calls Try.prog 31 #[.slice (some ⟨B, 0, none⟩) L.length cap, .func (.func 26) #[] #[]] w fun e w' => e = .returned (.int .i64 (-1)) ∧ Below w.heap.size w w' := by
  have H3 := Lib.hid h3; clear h3
  go_enter Try.func31, Try.ntmps31
  go_wp2_with fail
  go_loopw [8] (IdxRel w L.length) (fun i _ => L.length - (intOf i).toNat)
  case atStart => exact ⟨0, by omega, rfl, Below.refl _ _⟩
  case round =>
    obtain ⟨k, hk, rfl, hb⟩ := hrel
    by_cases hki : k < L.length
    · obtain ⟨s0, s1, s2, s3, s4, s5⟩ := (h.below hb).slot hki
      have hi := H3.out k hki
      have HS := Lib.hid (fun W => kd_isnt (tat L k).key (tat L k).loc true W)
      rw [hi] at s5
      clear hi
      generalize tat L k = s at *
      go_wp2_with (go_at_call 26; refine (HS.out _).mono ?_; rintro e w1 ⟨rfl, hb1⟩)
      go_roundw
      case rel => exact ⟨k + 1, by omega, by go_num, hb.trans (hb1.mono hb.size)⟩
      case measure => simp [intOf]; omega
    · obtain rfl : k = L.length := by omega
      go_wp2_with fail
      go_ret
      exact ⟨rfl, hb⟩

/-- a box of a slot's own -/
structure Box6 (w : World) (B : Nat) (s : Slot) : Prop where
  c0 : w.cell? ⟨B, 0, none⟩ = some (.string (bs s.key))
  c1 : w.cell? ⟨B, 1, none⟩ = some (.int .i64 s.loc.seg)
  c2 : w.cell? ⟨B, 2, none⟩ = some (.int .i64 s.loc.off)
  c3 : w.cell? ⟨B, 3, none⟩ = some (.int .i64 s.loc.len)
  c4 : w.cell? ⟨B, 4, none⟩ = some (.int .u64 s.loc.seq)
  c5 : w.cell? ⟨B, 5, none⟩ = some (.bool s.is)
theorem box_below {w w1 : World} {o : Obj} (hb : Below (w.alloc o).heap.size (w.alloc o) w1) : Below w.heap.size w w1 := ((Below.refl w.heap.size w).alloc (Nat.le_refl _) o).trans (hb.mono (by simp))
theorem Box6.new {w w1 : World} {t : TypeId} {s : Slot} (hb : Below (w.alloc (.cells s.vals.toArray t)).heap.size (w.alloc (.cells s.vals.toArray t)) w1) : Box6 w1 w.heap.size s :=
  ⟨keep_cell hb (World.cell?_alloc_new w _ t 0), keep_cell hb (World.cell?_alloc_new w _ t 1), keep_cell hb (World.cell?_alloc_new w _ t 2), keep_cell hb (World.cell?_alloc_new w _ t 3), keep_cell hb (World.cell?_alloc_new w _ t 4), keep_cell hb (World.cell?_alloc_new w _ t 5)⟩

def keepS (L : List Slot) : List Slot := L.filter (·.is)
theorem setCells_row (b : Nat) (t : TypeId) (vs : List Value) : ∀ (w : World) (o : Nat) (cs : Array Value), w.heap[b]? = some (.cells cs t (0, 0)) →
    (∃ cs' : Array Value, (w.setCells b o vs).heap[b]? = some (.cells cs' t (0, 0)) ∧ cs'.size = cs.size ∧ ∀ j, j < o → cs'[j]? = cs[j]?) ∧ Frm (fun k => k = b) w (w.setCells b o vs) := by
  induction vs with
  | nil => intro w o cs h; exact ⟨⟨cs, h, rfl, fun _ _ => rfl⟩, Frm.refl _ _⟩
  | cons v r ih =>
    intro w o cs h
    have h1 := heap_set_cell (off := o) (v := v) h
    obtain ⟨⟨cs', h2, h3, h4⟩, h5⟩ := ih (w.setCell ⟨b, o, none⟩ v) (o + 1) _ h1
    refine ⟨⟨cs', h2, by rw [h3]; simp, fun j hj => ?_⟩, ((Frm.refl (fun k => k = b) w).set ⟨b, o, none⟩ v (fun _ => rfl)).tr h5⟩
    rw [h4 j (by omega), Array.getElem?_setIfInBounds_ne (by omega)]
theorem flatS_take (L : List Slot) (i : Nat) : (flatS L).take (i * 6) = flatS (L.take i) := by
  induction L generalizing i with
  | nil => simp [flatS]
  | cons x r ih =>
    rcases i with _ | i
    · simp [flatS]
    · show (x.vals ++ flatS r).take ((i + 1) * 6) = x.vals ++ flatS (r.take i)
      rw [← ih, List.take_append, List.take_of_length_le (by simp [Slot.vals]; omega)]
      congr 2
      simp [Slot.vals]; omega
theorem run_clear_slots (w : World) (B cap i : Nat) (L : List Slot) (ext : List Value) (h : RowS w B L ext) (hi : i < L.length) :
    ∃ W', (∀ ty, (Builtin.clear_ #[43] ty #[.slice (some ⟨B, i * 6, none⟩) (L.length - i) (cap - i)]).run Try.prog w = .ok (.tuple #[]) W') ∧
      (∃ ext', RowS W' B (L.take i) ext' ∧ ext'.length + i * 6 = (flatS L ++ ext).length) ∧ Frm (fun k => k = B) w W' := by
  have hz : (zeroValue 48).run Try.prog w = .ok (.agg #[.string (bs []), .int .i64 0, .int .i64 0, .int .i64 0, .int .u64 0, .bool false]) w := by kernel_rfl
  obtain ⟨zs, hzs⟩ : ∃ zs, (Builtin.zeroCells (Value.agg #[.string (bs []), .int .i64 0, .int .i64 0, .int .i64 0, .int .u64 0, .bool false]).cells (L.length - i)).toList = zs := ⟨_, rfl⟩
  have hzl : zs.length = (L.length - i) * 6 := by rw [← hzs]; simp [Builtin.zeroCells, Value.cells]
  have hz1 : ∀ v ∈ zs, v.oneCell' = true := by
    intro v hv
    rw [← hzs] at hv
    simp only [Builtin.zeroCells, Value.cells, Array.toList_map, List.mem_map] at hv
    obtain ⟨j, _, rfl⟩ := hv
    have : j % 6 < 6 := Nat.mod_lt _ (by omega)
    have h6 : ∀ q, q < 6 → (#[Value.string (bs []), .int .i64 0, .int .i64 0, .int .i64 0, .int .u64 0, .bool false][q]!).oneCell' = true := by
      intro q hq
      have : q = 0 ∨ q = 1 ∨ q = 2 ∨ q = 3 ∨ q = 4 ∨ q = 5 := by omega
      rcases this with rfl | rfl | rfl | rfl | rfl | rfl <;> rfl
    exact h6 _ this
  have hlen := flatS_len L
  have hst := run_storeCells_cells (P := Try.prog) B (i * 6) zs 0 w (fun j hj => ?_) (fun j hj => h.frz _) hz1
  · obtain ⟨⟨cs', h2, h3, h4⟩, h5⟩ := setCells_row B 48 zs w (i * 6) _ h.h
    refine ⟨w.setCells B (i * 6) zs, fun ty => ?_, ⟨cs'.toList.drop (i * 6), ⟨?_⟩, ?_⟩, h5⟩
    · obtain ⟨m, hm⟩ : ∃ m, L.length - i = m + 1 := ⟨L.length - i - 1, by omega⟩
      rw [hm] at hzs ⊢
      simp only [Nat.add_zero] at hst
      simp [Builtin.clear_, run_underlying Try.underlying43, hz, hzs, hst]
    · rw [h2, ← flatS_take]
      have : (flatS L).take (i * 6) = cs'.toList.take (i * 6) := by
        apply List.ext_getElem?
        intro j
        rw [List.getElem?_take, List.getElem?_take]
        split
        · next hj =>
          have := h4 j hj
          simp only [List.getElem?_toArray] at this
          rw [List.getElem?_append_left (by omega)] at this
          rw [← this]; simp
        · rfl
      rw [this, List.take_append_drop]
    · simp at h3 ⊢; omega
  · have : i * 6 + 0 + j < (flatS L).length := by omega
    rw [h.cS _ (List.getElem?_eq_getElem this)]
    rfl

theorem tat_drop {L L' : List Slot} {j i : Nat} (h : L'.drop j = L.drop j) (hi : j ≤ i) : tat L' i = tat L i := by
  have e : ∀ M : List Slot, tat M i = (M.drop j).getD (i - j) Slot.zero := fun M => by
    simp only [tat, List.getD_eq_getElem?_getD, List.getElem?_drop]
    rw [show j + (i - j) = i by omega]
  rw [e, e, h]
theorem keepS_take (L : List Slot) (j : Nat) (h : j < L.length) : keepS (L.take (j + 1)) = if (tat L j).is = true then keepS (L.take j) ++ [tat L j] else keepS (L.take j) := by
  rw [List.take_succ_eq_append_getElem h, tat_lt h]
  unfold keepS
  rw [List.filter_append]
  cases hx : L[j].is <;> simp [hx]

def DelFRel (w : World) (B : Nat) (L : List Slot) (ext : List Value) (iv jv : Value) (wr : World) : Prop :=
  ∃ (i j : Nat) (L' : List Slot), iv = .int .i64 i ∧ jv = .int .i64 j ∧ i < j ∧ j ≤ L.length ∧ L'.length = L.length ∧ L'.take i = keepS (L.take j) ∧ L'.drop j = L.drop j ∧ RowS wr B L' ext ∧ Frm (fun b => b = B) w wr

theorem kd_del_all (w : World) (B cap : Nat) (L : List Slot) (ext : List Value) (h : RowS w B L ext) (hn : L.length ≤ 1073741824) (h3 : ∀ j, j < L.length → (tat L j).is = true) :
    Calls Try.prog 24 #[.slice (some ⟨B, 0, none⟩) L.length cap, .func (.func 26) #[] #[]] w fun e w' => e = .returned (.slice (some ⟨B, 0, none⟩) L.length cap) ∧ Below w.heap.size w w' := by
  have HN := Lib.hid (kd_idx_none w B cap L ext h hn h3)
  clear h3
  go_enter Try.func24, Try.ntmps24
  go_wp2_with (go_at_call 31; refine HN.out.mono ?_; rintro e w1 ⟨rfl, hb1⟩)
  go_ret
  exact ⟨rfl, hb1⟩

set_option maxRecDepth 20000 in
set_option maxHeartbeats 800000 in
theorem kd_del_some (w : World) (B cap : Nat) (L : List Slot) (ext : List Value) (h : RowS w B L ext) (hn : L.length ≤ 1073741824) (hc : L.length ≤ cap) (hc2 : cap ≤ 9223372036854775807) (i0 : Nat) (h1 : i0 < L.length) (h2 : (tat L i0).is = false) (h3 : ∀ j, j < i0 → (tat L j).is = true) :
    Calls Try.prog 24 #[.slice (some ⟨B, 0, none⟩) L.length cap, .func (.func 26) #[] #[]] w fun e w' => e = .returned (.slice (some ⟨B, 0, none⟩) (keepS L).length cap) ∧
      (∃ ext', RowS w' B (keepS L) ext' ∧ ext'.length + (keepS L).length * 6 = (flatS L ++ ext).length) ∧ Frm (fun b => b = B) w w' := by
  have HN := Lib.hid (kd_idx_some w B cap L ext h hn i0 h1 h2 h3)
  have hk0 : L.take i0 = keepS (L.take (i0 + 1)) := by
    rw [keepS_take L i0 h1, h2]
    simp only [Bool.false_eq_true, if_false]
    refine (List.filter_eq_self.2 fun s hs => ?_).symm
    obtain ⟨j, hj, rfl⟩ := List.getElem_of_mem hs
    simp at hj
    have := h3 j (by omega)
    rw [tat_lt (by omega)] at this
    simpa using this
  have Hk := Lib.hid hk0
  have q1 : ((i0 : Int) == -1) = false := by simp
  clear h2 h3 hk0
  go_enter Try.func24, Try.ntmps24
  go_wp2_with (go_at_call 31; refine HN.out.mono ?_; rintro e w1 ⟨rfl, hb1⟩)
  go_loopw [5, 6] (DelFRel w B L ext) (fun _ j _ => L.length - (intOf j).toNat)
  case atStart => exact ⟨i0, i0 + 1, L, rfl, by go_num, by omega, by omega, rfl, Hk.out, rfl, h.below hb1, Frm.of_below hb1⟩
  case round =>
    obtain ⟨i, j, L', rfl, rfl, hij, hj, hl, ht, hd, hr, hf⟩ := hrel
    by_cases hjl : j < L.length
    · have hs := hr.slot (i := j) (by omega)
      have he := tat_drop hd (Nat.le_refl j)
      have hkt := keepS_take L j hjl
      rw [he] at hs
      obtain ⟨s0, s1, s2, s3, s4, s5⟩ := hs
      have Hd := Lib.hid hd
      have Ht := Lib.hid ht
      have Hl := Lib.hid hl
      have Hkt := Lib.hid hkt
      clear hd ht hl hkt he
      cases hx : (tat L j).is
      · have HS := Lib.hid (fun W => kd_isnt (tat L j).key (tat L j).loc false W)
        rw [hx] at s5
        have Hx := Lib.hid hx; clear hx
        go_wp2_with (go_at_call 26; refine (HS.out _).mono ?_; rintro e w2 ⟨rfl, hb2⟩)
        go_roundw
        case rel => 
          have hb3 := ((Below.refl wr.heap.size wr).alloc (Nat.le_refl _) (.cells #[.string (bs (tat L j).key), .int .i64 (tat L j).loc.seg, .int .i64 (tat L j).loc.off, .int .i64 (tat L j).loc.len, .int .u64 (tat L j).loc.seq, .bool false] 48)).trans (hb2.mono (by simp))
          exact ⟨i, j + 1, L', rfl, by go_num, by omega, by omega, Hl.out, by rw [Hkt.out, if_neg (by rw [Hx.out]; simp)]; exact Ht.out, by rw [← List.drop_drop, Hd.out, List.drop_drop], hr.below hb3, hf.then_below hb3⟩
        case measure => simp [intOf]; omega
      · have HS := Lib.hid (fun W => kd_isnt (tat L j).key (tat L j).loc true W)
        rw [hx] at s5
        have Hx := Lib.hid hx; clear hx
        go_wp2_with (go_at_call 26; refine (HS.out _).mono ?_; rintro e w2 ⟨rfl, hb2⟩; have hb3 := box_below hb2; have hr3 := hr.below hb3; have fs := hr3.frz; obtain ⟨t0, t1, t2, t3, t4, t5⟩ := hr3.slot (i := i) (by have := Hl.out; omega); obtain ⟨b0, b1, b2, b3, b4, b5⟩ := Box6.new (s := ⟨(tat L j).key, (tat L j).loc, true⟩) hb2)
        go_roundw
        case rel =>
          have hes : (⟨(tat L j).key, (tat L j).loc, true⟩ : Slot) = tat L j := by have := Hx.out; generalize tat L j = s at *; cases s; simp only at this; subst this; rfl
          have hst := hr3.store (i := i) (by have := Hl.out; omega) ⟨(tat L j).key, (tat L j).loc, true⟩
          refine ⟨i + 1, j + 1, L'.set i (tat L j), by go_num, by go_num, by omega, by omega, by rw [List.length_set]; exact Hl.out, ?_, ?_, ?_, ?_⟩
          · rw [Hkt.out, if_pos Hx.out, ← Ht.out, List.take_succ_eq_append_getElem (by rw [List.length_set, Hl.out]; omega), List.take_set_of_le (Nat.le_refl _), List.getElem_set_self]
          · rw [List.drop_set_of_lt (by omega), ← List.drop_drop, Hd.out, List.drop_drop]
          · rw [← hes]; exact hst
          · exact Frm.store (F := fun b => b = B) (hf.then_below hb3) (fun _ => rfl) i ⟨(tat L j).key, (tat L j).loc, true⟩
        case measure => simp [intOf]; omega
    · obtain rfl : j = L.length := by omega
      rw [List.take_length] at ht
      obtain ⟨W', hcl, ⟨ext', hr', hl'⟩, hf'⟩ := run_clear_slots wr B cap i L' ext hr (by omega)
      rw [hl] at hcl
      have hil : i = (keepS L).length := by rw [← ht, List.length_take]; omega
      rw [ht] at hr'
      have hlen : (flatS L' ++ ext).length = (flatS L ++ ext).length := by simp [flatS_len, hl]
      rw [hlen, hil] at hl'
      have Hfin := Lib.hid (And.intro hil (And.intro hr' hl'))
      clear ht hl hd hil hr' hl' hlen Hk
      go_wp2_with fail
      go_ret
      exact ⟨by rw [Hfin.out.1]; rfl, ⟨ext', Hfin.out.2.1, Hfin.out.2.2⟩, hf.tr hf'⟩

theorem flatS_one (L : List Slot) : ∀ u ∈ flatS L, u.oneCell' = true := by
  intro u hu
  simp only [flatS, List.mem_flatMap] at hu
  obtain ⟨s, _, hu⟩ := hu
  simp only [Slot.vals, List.mem_cons, List.not_mem_nil, or_false] at hu
  rcases hu with rfl | rfl | rfl | rfl | rfl | rfl <;> rfl
theorem slot_info : (Try.prog.info? 48).map (fun i => (i.zero, i.size, i.bytes)) = some (some (.agg #[.string (bs []), .int .i64 0, .int .i64 0, .int .i64 0, .int .u64 0, .bool false]), 6, 56) := by kernel_rfl

set_option maxRecDepth 20000 in
set_option maxHeartbeats 800000 in
theorem kd_clone (w : World) (S : Nat) (L : List Slot) (ext : List Value) (h : RowS w S L ext) (hn : L.length ≤ 1073741824) (h0 : 0 < L.length) :
    Calls Try.prog 25 #[.slice (some ⟨S, 0, none⟩) L.length L.length] w fun e w' => (∃ B cap ext', e = .returned (.slice (some ⟨B, 0, none⟩) L.length cap) ∧ w.heap.size ≤ B ∧ L.length ≤ cap ∧ cap ≤ maxLen ∧ RowS w' B L ext') ∧ Below w.heap.size w w' := by
  obtain ⟨i0, hi, hz0, hz1, hz2⟩ := info_parts slot_info
  have hfl := flatS_len L
  have hnil := fun W => Lib.run_eql_slice_nil (P := Try.prog) W 43 48 (some ⟨S, 0, none⟩) L.length L.length 0 0 Try.underlying43
  simp only [Option.isNone_some] at hnil
  go_enter Try.func25, Try.ntmps25
  go_wp2_with (at_builtin; refine wpList_append_own _ rfl _ _ 43 rfl w.heap.size 48 i0 (.agg #[.string (bs []), .int .i64 0, .int .i64 0, .int .i64 0, .int .u64 0, .bool false]) 6 56 Try.underlying43 hi hz0 hz1 hz2 rfl (by decide) _ 0 [] rfl ?c0 ⟨S, 0, none⟩ L.length L.length (flatS L) rfl ?c6 ?c1 ?c2 ?c3 ?c4 ?c5 ?_)
  case c0 => exact ⟨by simp, .inr ⟨w.heap.size, 0, #[], rfl, Nat.le_refl _, heap_alloc_new w _, Nat.le_refl _, Nat.zero_le _, by simp, by simp⟩⟩
  case c6 => exact hfl
  case c1 =>
    intro j u hu
    have e : (⟨S, 0, none⟩ : Addr).add j = ⟨S, j, none⟩ := by unfold Addr.add; split <;> simp_all
    rw [e]
    exact (h.below ((Below.refl _ w).alloc (Nat.le_refl _) _)).cS j hu
  case c2 => exact flatS_one L
  case c3 => unfold maxLen; omega
  case c4 => omega
  case c5 => simp
  · intro v' w1 hown' hg _
    have hb : Below w.heap.size w w1 := ((Below.refl w.heap.size w).alloc (Nat.le_refl _) (.cells #[] 48)).grown hg (by simp) (fun k hk => by cases hk; exact Nat.le_refl _)
    rcases hown'.2 with ⟨_, hx⟩ | ⟨g, cap, cur, rfl, hg1, hg2, hg3, hg4, hg5, hg6⟩
    · omega
    · have g3 : L.length ≤ cap := by simpa using hg3
      have g6 : cur.toList.take (L.length * 6) = flatS L := by simpa using hg6
      have Hfin := Lib.hid (show RowS w1 g L (cur.toList.drop (L.length * 6)) from ⟨by rw [hg2, ← g6, List.take_append_drop]⟩)
      clear hown' hg hg2 hg5 hg6 hg3 g6
      go_wp2_with fail
      go_ret
      exact ⟨⟨g, cap, _, rfl, hg1, g3, hg4, Hfin.out⟩, hb⟩

open Go.Sort Go.Lib in
theorem kd_ahead_grow (s t : Slot) (w : World) : Calls Try.prog 28 #[.agg s.vals.toArray, .agg t.vals.toArray] w fun e w' => e = .returned (.int .i64 (Lib.compareBytes s.key t.key)) ∧ ∃ q os', w' = grow (w.drewN q) os' := by
  have hc := fun W => Try.strings_Compare (bs s.key) (bs t.key) W
  simp only [bs_data] at hc
  have HC := Lib.hid hc; clear hc
  unfold Slot.vals
  go_enter Try.func28, Try.ntmps28
  go_wp2_with (go_at_call 34; refine (HC.out _).mono ?_; rintro e w1 ⟨rfl, rfl⟩)
  go_ret
  exact ⟨rfl, 0, _, by rw [alloc_eq_grow, alloc_eq_grow, grow_grow]; rfl⟩

instance : Inhabited Slot := ⟨Slot.zero⟩
def cmpS (s t : Slot) : Int := Lib.compareBytes s.key t.key
open Go.Sort in
theorem cmpS_lt (s t : Slot) : ltOf cmpS s t = decide (s.key < t.key) := by
  unfold ltOf cmpS
  exact decide_eq_decide.2 (cmp_neg _ _)
open Go.Sort in
theorem cmpS_swo : SWO (ltOf cmpS) where
  irrefl x := by rw [cmpS_lt]; simp
  trans x y z h1 h2 := by rw [cmpS_lt] at *; simp only [decide_eq_true_eq] at *; exact lt_tr h1 h2
  ntrans x y z h1 h2 := by
    rw [cmpS_lt] at *
    simp only [decide_eq_false_iff_not] at *
    intro h
    rcases Classical.em (x.key = y.key) with e | e
    · rw [e] at h; exact h2 h
    · exact h2 (lt_tr (lt_of_not h1 e) h)
theorem slotVals_len (s : Slot) : s.vals.length = 6 := by simp [Slot.vals]
open Go.Sort in
theorem kd_sort (w : World) (B cap : Nat) (L : List Slot) (ext : List Value) (h : RowS w B L ext) (hn : L.length ≤ 1073741824) :
    Calls Try.prog 27 #[.slice (some ⟨B, 0, none⟩) L.length cap, .func (.func 28) #[] #[]] w fun e w' => e = .returned (.tuple #[]) ∧ (∃ L', L'.Perm L ∧ L'.Pairwise (fun a b => ¬ b.key < a.key) ∧ RowS w' B L' ext) ∧ Frm (fun b => b = B) w w' := by
  have eg : ∀ args w, (callFunc 28 args).run Try.prog w = .ok (.enter 28 args) w := enters_of Try.func28 (by kernel_rfl) rfl
  have hcon := AnyQ.slices_SortFunc Try.sortS 6 Try.isAgg48 Try.sizeOf48 Slot.vals slotVals_len (fun x v hv => flatS_one [x] v (by simpa [flatS] using hv)) cmpS cmpS_swo 28 #[] B 0 cap L.toArray w eg
    (fun _ _ _ _ x y => kd_ahead_grow x y _) (holdsK_block slotVals_len (by omega) h.h) h.lt (by simp; omega)
  refine Calls.mono (f := 27) hcon ?_
  rintro e w' ⟨rfl, d', n, os, ⟨hp1, _, hp2⟩, hs, rfl⟩
  obtain ⟨L', rfl⟩ : ∃ L' : List Slot, d' = L'.toArray := ⟨d'.toList, by simp⟩
  have hl : L'.length = L.length := by simpa using hp1
  have hperm : L'.Perm L := by
    have h2 := hp2
    simp at h2
    rwa [List.take_of_length_le (by omega)] at h2
  refine ⟨rfl, ⟨L', hperm, ?_, ⟨sortWorldK_block slotVals_len (by omega) h.h hl⟩⟩, sortWorldK_frm⟩
  rw [List.pairwise_iff_getElem]
  intro i j hi hj hij hlt
  have := hs i j (Nat.zero_le _) hij (by simpa [hl] using hj)
  rw [cmpS_lt] at this
  simp only [decide_eq_false_iff_not] at this
  rw [getElem!_pos L'.toArray j (by simpa using hj), getElem!_pos L'.toArray i (by simpa using hi)] at this
  exact this hlt
end Go.Proofs.Ytdllmflhgbponaa
