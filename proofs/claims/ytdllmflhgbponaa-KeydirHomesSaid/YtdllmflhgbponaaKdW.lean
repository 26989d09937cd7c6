/- keydir: the table in memory; next, find -/
import Derived.Test.YtdllmflhgbponaaHash
import Derived.Deep.LoopGhost
import Derived.OneCell
namespace Go.Thw
open Go Go.RowKit
def LocD.vals (l : LocD) : List Value := [.int .i64 l.seg, .int .i64 l.off, .int .i64 l.len, .int .u64 l.seq]
def Slot.vals (s : Slot) : List Value := [.string (bs s.key), .int .i64 s.loc.seg, .int .i64 s.loc.off, .int .i64 s.loc.len, .int .u64 s.loc.seq, .bool s.is]
def flatS (T : List Slot) : List Value := T.flatMap Slot.vals
theorem flatS_at (T : List Slot) (i : Nat) (h : i < T.length) :
    (flatS T)[i * 6]? = some (.string (bs (tat T i).key)) ∧ (flatS T)[i * 6 + 1]? = some (.int .i64 (tat T i).loc.seg) ∧ (flatS T)[i * 6 + 2]? = some (.int .i64 (tat T i).loc.off) ∧
    (flatS T)[i * 6 + 3]? = some (.int .i64 (tat T i).loc.len) ∧ (flatS T)[i * 6 + 4]? = some (.int .u64 (tat T i).loc.seq) ∧ (flatS T)[i * 6 + 5]? = some (.bool (tat T i).is) := by
  induction T generalizing i with
  | nil => simp at h
  | cons x r ih =>
    rcases i with _ | i
    · simp [flatS, Slot.vals, tat]
    · have := ih i (by simpa using h)
      have e : ∀ j, (flatS (x :: r))[(i + 1) * 6 + j]? = (flatS r)[i * 6 + j]? := fun j => by
        show (x.vals ++ flatS r)[(i + 1) * 6 + j]? = _
        rw [List.getElem?_append_right (by simp [Slot.vals]; omega)]
        congr 1; simp [Slot.vals]; omega
      have e2 : tat (x :: r) (i + 1) = tat r i := by simp [tat]
      rw [e2]
      exact ⟨(e 0).trans this.1, (e 1).trans this.2.1, (e 2).trans this.2.2.1, (e 3).trans this.2.2.2.1, (e 4).trans this.2.2.2.2.1, (e 5).trans this.2.2.2.2.2⟩
theorem flatS_len (T : List Slot) : (flatS T).length = T.length * 6 := by
  induction T with
  | nil => rfl
  | cons x r ih => show (x.vals ++ flatS r).length = _; rw [List.length_append, ih]; simp [Slot.vals]; omega

end Go.Thw
namespace Go.Proofs.Ytdllmflhgbponaa
open Go Go.RowKit Go.Thw

/-- a Dir at d, whose slots lie in block S -/
structure DirW (w : World) (d S : Nat) (T : List Slot) (many : Nat) : Prop where
  hd : w.heap[d]? = some (.cells #[.slice (some ⟨S, 0, none⟩) T.length T.length, .int .i64 many] 45 (0, 0))
  hs : w.heap[S]? = some (.cells (flatS T).toArray 48 (0, 0))
section
variable {w w' : World} {d S : Nat} {T : List Slot} {many : Nat}
theorem DirW.below (h : DirW w d S T many) (hb : Below w.heap.size w w') : DirW w' d S T many :=
  ⟨(hb.block _ (lt_of_block h.hd)).trans h.hd, (hb.block _ (lt_of_block h.hs)).trans h.hs⟩
theorem DirW.c0 (h : DirW w d S T many) : w.cell? ⟨d, 0, none⟩ = some (.slice (some ⟨S, 0, none⟩) T.length T.length) := cell_of_row w _ 0 _ _ _ h.hd
theorem DirW.c1 (h : DirW w d S T many) : w.cell? ⟨d, 1, none⟩ = some (.int .i64 many) := cell_of_row w _ 1 _ _ _ h.hd
theorem DirW.f0 (h : DirW w d S T many) : w.frozen? ⟨d, 0, none⟩ = false := frozen_of_row w _ 0 _ _ h.hd
theorem DirW.f1 (h : DirW w d S T many) : w.frozen? ⟨d, 1, none⟩ = false := frozen_of_row w _ 1 _ _ h.hd
theorem DirW.fS (h : DirW w d S T many) (i : Nat) : w.frozen? ⟨S, i, none⟩ = false := frozen_of_row w _ i _ _ h.hs
theorem DirW.cS (h : DirW w d S T many) (i : Nat) {v : Value} (hv : (flatS T)[i]? = some v) : w.cell? ⟨S, i, none⟩ = some v := cell_of_row w _ i _ _ _ (by rw [h.hs]) |>.trans (by simpa using hv)
/-- a slot's cells -/
structure SlotC (w : World) (S i : Nat) (s : Slot) : Prop where
  c0 : w.cell? ⟨S, i * 6, none⟩ = some (.string (bs s.key))
  c1 : w.cell? ⟨S, i * 6 + 1, none⟩ = some (.int .i64 s.loc.seg)
  c2 : w.cell? ⟨S, i * 6 + 2, none⟩ = some (.int .i64 s.loc.off)
  c3 : w.cell? ⟨S, i * 6 + 3, none⟩ = some (.int .i64 s.loc.len)
  c4 : w.cell? ⟨S, i * 6 + 4, none⟩ = some (.int .u64 s.loc.seq)
  c5 : w.cell? ⟨S, i * 6 + 5, none⟩ = some (.bool s.is)
theorem DirW.slot (h : DirW w d S T many) {i : Nat} (hi : i < T.length) : SlotC w S i (tat T i) := by
  obtain ⟨h0, h1, h2, h3, h4, h5⟩ := flatS_at T i hi
  exact ⟨h.cS _ h0, h.cS _ h1, h.cS _ h2, h.cS _ h3, h.cS _ h4, h.cS _ h5⟩
end

/-- the sizes of a table -/
structure TabN (T : List Slot) : Prop where
  pow : ∃ m, m < 60 ∧ T.length = 2 ^ m
  pos : 1 ≤ T.length
  le : T.length ≤ 1073741824

set_option maxRecDepth 20000 in
set_option maxHeartbeats 400000 in
theorem kd_next (w : World) (d S : Nat) (T : List Slot) (many : Nat) (h : DirW w d S T many) (hT : TabN T) (i : Nat) (hi : i < T.length) :
    Calls Try.prog 15 #[.pointer (some ⟨d, 0, none⟩), .int .i64 i] w fun e w' => e = .returned (.int .i64 ((i + 1) % T.length : Nat)) ∧ w = w' := by
  obtain ⟨⟨m, hm60, hm⟩, hpos, hle⟩ := hT
  have a1 := i64_mask ((i : Int) + 1) m hm60
  rw [← hm] at a1
  have e : ((i : Int) + 1) % (T.length : Int) = (((i + 1) % T.length : Nat) : Int) := by simp
  rw [e] at a1
  have A1 := Lib.hid a1; clear a1 e hm
  have c0 := h.c0
  clear h
  generalize T.length = N at *
  go_enter Try.func15, Try.ntmps15
  go_wp2_with fail
  go_ret
  exact ⟨by rw [A1.out]; rfl, rfl⟩

/-- the test of the way's loop -/
theorem stop_yes {T : List Slot} {k : List UInt8} {i : Nat} (h : stopB T k i = true) : (tat T i).is = false ∨ ((tat T i).is = true ∧ ((tat T i).key == k) = true) := by
  unfold stopB at h
  cases hx : (tat T i).is
  · exact Or.inl rfl
  · rw [hx] at h; simp at h; exact Or.inr ⟨rfl, by simpa using h⟩
theorem stop_no {T : List Slot} {k : List UInt8} {i : Nat} (h : stopB T k i = false) : (tat T i).is = true ∧ ((tat T i).key == k) = false := by
  obtain ⟨h1, h2⟩ := stopB_false h
  exact ⟨h1, by simpa using h2⟩

def FindRel (w : World) (k : List UInt8) (T : List Slot) (dd : Nat) (g : Nat) (iv : Value) (wr : World) : Prop :=
  ∃ e, e + g = dd ∧ iv = .int .i64 ((homeN k T.length + e) % T.length : Nat) ∧ Below w.heap.size w wr

set_option maxRecDepth 20000 in
set_option maxHeartbeats 800000 in
theorem kd_find (k : List UInt8) (hk : k.length ≤ 140737488351232) (w : World) (d S : Nat) (T : List Slot) (many : Nat) (h : DirW w d S T many) (hT : TabN T) (hE : ∃ e, e < T.length ∧ (tat T e).is = false) :
    Calls Try.prog 14 #[.pointer (some ⟨d, 0, none⟩), .string (bs k)] w fun e w' => e = .returned (.int .i64 (findT T k : Nat)) ∧ Below w.heap.size w w' := by
  obtain ⟨e0, he0, hs0⟩ := hE
  obtain ⟨dd, hw⟩ := way_ex k he0 hs0
  clear he0 hs0
  have c0 := h.c0
  have HP := Lib.hid (hash_Place k hk T.length hT.pos hT.le (let ⟨m, h⟩ := hT.pow; ⟨m, h.2⟩))
  have hlt := hw.lt
  have hle := hT.le
  go_enter Try.func14, Try.ntmps14
  go_wp2_with (go_at_call 17; refine (HP.out _).mono ?_; rintro e w1 ⟨rfl, hb⟩)
  go_loopg [5] dd (FindRel w k T dd)
  case atStart => exact ⟨0, by omega, by rw [Nat.add_zero, Nat.mod_eq_of_lt (homeN_lt k hT.pos)], hb⟩
  case round =>
    obtain ⟨e, he, rfl, hb2⟩ := hrel
    have hil : (homeN k T.length + e) % T.length < T.length := Nat.mod_lt _ hT.pos
    have hD := h.below hb2
    obtain ⟨s0, s1, s2, s3, s4, s5⟩ := hD.slot hil
    have d0 := hD.c0
    have hnext := fun W (hx : DirW W d S T many) => kd_next W d S T many hx hT _ hil
    have hne : ((homeN k T.length + e) % T.length + 1) % T.length = (homeN k T.length + (e + 1)) % T.length := by rw [Nat.mod_add_mod, Nat.add_assoc]
    rw [hne] at hnext
    have HN := Lib.hid hnext; clear hnext hne
    have Hb2 := Lib.hid hb2; clear hb2
    have HD := Lib.hid hD
    clear hD c0 hb
    rcases Nat.eq_zero_or_pos gk with hg | hg
    · obtain rfl : e = dd := by omega
      have hst := hw.stop
      have hfd := hw.find
      have Hfd := Lib.hid hfd; clear hfd
      generalize (homeN k T.length + e) % T.length = i at *
      rcases stop_yes hst with hx | ⟨hx, hy⟩
      · rw [hx] at s5
        clear hst hx
        go_wp2_with fail
        go_quiet (fail)
        go_wp2_with fail
        go_ret
        exact ⟨by rw [Hfd.out]; rfl, below_drewN Hb2.out _⟩
      · rw [hx] at s5
        clear hst hx
        go_wp2_with fail
        go_quiet (fail)
        go_wp2_with fail
        go_ret
        exact ⟨by rw [Hfd.out]; rfl, below_drewN Hb2.out _⟩
    · have hst := hw.on e (by omega)
      generalize hi : (homeN k T.length + e) % T.length = i at *
      obtain ⟨hx, hy⟩ := stop_no hst
      rw [hx] at s5
      clear hst hx hi
      go_wp2_with fail
      go_quiet (fail)
      go_wp2_with (go_at_call 15; refine (HN.out _ (HD.out.below (below_drewN (Below.refl _ _) _))).mono ?_; rintro e w1 ⟨rfl, rfl⟩)
      go_roundg (gk - 1)
      case rel => exact ⟨e + 1, by omega, rfl, below_drewN Hb2.out _⟩
      case measure => omega
end Go.Proofs.Ytdllmflhgbponaa
