/- layer 10: the operations in memory; light, awake -/
import Derived.Test.YtdllmflhgbponaaKdL
namespace Go.Thw
open Go Go.RowKit
structure OpD where
  Do : Int
  Key : List UInt8
  L : LocD
/-- a slice at this address holds these operations -/
structure OpsIn (w : World) (a : Option Addr) (xs : List OpD) : Prop where
  at_ : ∀ i (h : i < xs.length), ∃ b o, a = some ⟨b, o, none⟩ ∧ b < w.heap.size ∧ w.cell? ⟨b, o + i * 6, none⟩ = some (.int .i64 xs[i].Do) ∧ w.cell? ⟨b, o + i * 6 + 1, none⟩ = some (.string (bs xs[i].Key)) ∧
    w.cell? ⟨b, o + i * 6 + 2, none⟩ = some (.int .i64 xs[i].L.seg) ∧ w.cell? ⟨b, o + i * 6 + 3, none⟩ = some (.int .i64 xs[i].L.off) ∧ w.cell? ⟨b, o + i * 6 + 4, none⟩ = some (.int .i64 xs[i].L.len) ∧ w.cell? ⟨b, o + i * 6 + 5, none⟩ = some (.int .u64 xs[i].L.seq)
theorem OpsIn.below {w w' : World} {a : Option Addr} {xs : List OpD} (h : OpsIn w a xs) (hb : Below w.heap.size w w') : OpsIn w' a xs := by
  refine ⟨fun i hi => ?_⟩
  obtain ⟨b, o, ha, hlt, h1, h2, h3, h4, h5, h6⟩ := h.at_ i hi
  exact ⟨b, o, ha, Nat.lt_of_lt_of_le hlt hb.size, (hb.cell (p := ⟨b, _, none⟩) hlt).trans h1, (hb.cell (p := ⟨b, _, none⟩) hlt).trans h2, (hb.cell (p := ⟨b, _, none⟩) hlt).trans h3, (hb.cell (p := ⟨b, _, none⟩) hlt).trans h4, (hb.cell (p := ⟨b, _, none⟩) hlt).trans h5, (hb.cell (p := ⟨b, _, none⟩) hlt).trans h6⟩
end Go.Thw
namespace Go.Proofs.Ytdllmflhgbponaa
open Go Go.RowKit Go.Thw Go.Shelf

set_option maxRecDepth 20000 in
set_option maxHeartbeats 800000 in
theorem law_light (w : World) (a : Option Addr) (c : Nat) (xs : List OpD) (ha : OpsIn w a xs) :
    Calls Try.prog 5 #[.slice a xs.length c] w fun e w' => (∃ t, e = .returned (.bool t) ∧ (t = true → xs.length ≤ 150 ∧ ∀ x ∈ xs, x.Key.length ≤ 100)) ∧ w = w' := by
  go_enter Try.func5, Try.ntmps5
  go_wp2_with fail
  go_loopw [3] (fun i wr => ∃ k : Nat, k ≤ xs.length ∧ k ≤ 200 ∧ i = .int .i64 k ∧ w = wr ∧ ∀ j (h : j < xs.length), j < k → xs[j].Key.length ≤ 100) (fun i _ => xs.length - (intOf i).toNat)
  case atStart => exact ⟨0, by omega, by omega, rfl, rfl, fun j _ h => absurd h (by omega)⟩
  case round =>
    obtain ⟨k, hk, hk2, rfl, rfl, hall⟩ := hrel
    have Hall := Lib.hid hall; clear hall
    by_cases h : k < xs.length
    · obtain ⟨b, o, rfl, hlt, e1, e2, _⟩ := ha.at_ k h
      by_cases h2 : k < 200
      · by_cases h3 : 100 < (xs[k].Key.length : Int)
        · generalize xs[k].Key = K at *
          go_wp2_with fail
          go_ret
          exact ⟨⟨_, rfl, fun h => by simp at h⟩, rfl⟩
        · have Hall2 := Lib.hid (show ∀ j (h : j < xs.length), j < k + 1 → xs[j].Key.length ≤ 100 from fun j hj hjk => by
            rcases Nat.lt_or_ge j k with h | h
            · exact Hall.out j hj h
            · obtain rfl : j = k := by omega
              omega)
          generalize xs[k].Key = K at *
          go_wp2_with fail
          go_roundw
          case rel => exact ⟨k + 1, by omega, by omega, by simp, by trivial, Hall2.out⟩
          case measure => simp [intOf]; omega
      · obtain rfl : k = 200 := by omega
        go_wp2_with fail
        go_ret
        exact ⟨⟨_, rfl, fun h => by simp at h; omega⟩, by trivial⟩
    · obtain rfl : k = xs.length := by omega
      have Hm := Lib.hid (show ∀ x ∈ xs, x.Key.length ≤ 100 from fun x hx => by
        obtain ⟨i, hi, rfl⟩ := List.mem_iff_getElem.1 hx
        exact Hall.out i hi hi)
      go_wp2_with fail
      go_ret
      exact ⟨⟨_, rfl, fun h => ⟨by simp at h; omega, Hm.out⟩⟩, rfl⟩
structure AwW (w : World) (d S L : Nat) (wr : World) : Prop where
  D : DirAt wr d S [([107], ⟨1, 2, 3, 4⟩)] 8
  l : wr.heap[L]? = some (.cells #[.int .i64 1, .int .i64 2, .int .i64 3, .int .u64 4] 29 (0, 0))
  b : Below w.heap.size w wr
theorem AwW.below {w wr w' : World} {d S L : Nat} (h : AwW w d S L wr) (hb : Below wr.heap.size wr w') : AwW w d S L w' := ⟨h.D.below hb, heap_keep hb h.l, h.b.trans (hb.mono h.b.size)⟩
theorem AwW.c {w wr : World} {d S L : Nat} (h : AwW w d S L wr) : wr.cell? ⟨L, 0, none⟩ = some (.int .i64 1) ∧ wr.cell? ⟨L, 1, none⟩ = some (.int .i64 2) ∧ wr.cell? ⟨L, 2, none⟩ = some (.int .i64 3) ∧ wr.cell? ⟨L, 3, none⟩ = some (.int .u64 4) :=
  ⟨cell_of_row _ _ 0 _ _ _ h.l, cell_of_row _ _ 1 _ _ _ h.l, cell_of_row _ _ 2 _ _ _ h.l, cell_of_row _ _ 3 _ _ _ h.l⟩

theorem get_k : GetV (getM [107] [([107], ⟨1, 2, 3, 4⟩)]) = .tuple #[.agg #[.int .i64 1, .int .i64 2, .int .i64 3, .int .u64 4], .bool true] := by simp [GetV, getM]
theorem get_j : GetV (getM [106] [([107], ⟨1, 2, 3, 4⟩)]) = .tuple #[.agg #[.int .i64 0, .int .i64 0, .int .i64 0, .int .u64 0], .bool false] := by simp [GetV, getM, LocD.zero]
theorem ins_nil (k : List UInt8) (l : LocD) : insM k l [] = [(k, l)] := rfl
theorem awake_put {w w1 w2 : World} {d S' N' : Nat} (hD : DirAt w2 d S' [([107], ⟨1, 2, 3, 4⟩)] N') (hN : N' ≤ 8 ∨ N' < 4) (hl : w2.heap[w1.heap.size]? = some (.cells #[.int .i64 1, .int .i64 2, .int .i64 3, .int .u64 4] 29 (0, 0))) (hb : Below w.heap.size w w2) : AwW w d S' w1.heap.size w2 := by
  have := hD.room.2
  obtain rfl : N' = 8 := by omega
  exact ⟨hD, hl, hb⟩
set_option maxRecDepth 100000 in
set_option maxHeartbeats 2000000 in
theorem law_awake (w : World) : Calls Try.prog 4 #[] w fun e w' => e = .returned (.bool true) ∧ Below w.heap.size w w' := by
  have HNew := Lib.hid (fun W => kd_New W)
  go_enter Try.func4, Try.ntmps4
  go_wp2_with (first
    | (go_at_call 10; refine (kd_Cap _ _ _ _ _ h6.D (by omega)).mono ?_; rintro e w7 ⟨rfl, rfl⟩)
    | (go_at_call 11; refine (kd_Len _ _ _ _ _ h6.D).mono ?_; rintro e w7 ⟨rfl, rfl⟩)
    | (go_at_call 13; refine (law_keys _ _ 8 [97] _ ([107], ⟨1, 2, 3, 4⟩) _ (by omega) h5.D rfl).mono ?_; rintro e w6 ⟨⟨s6, c6, v6, rfl⟩, hb6⟩
       have h6 := h5.below hb6
       have x6 := heap_keep hb6 x5
       obtain ⟨l0, l1, l2, l3⟩ := h6.c
       obtain ⟨y0, y1, y2, y3⟩ : w6.cell? ⟨w3.heap.size, 0, none⟩ = some (.int .i64 1) ∧ w6.cell? ⟨w3.heap.size, 1, none⟩ = some (.int .i64 2) ∧ w6.cell? ⟨w3.heap.size, 2, none⟩ = some (.int .i64 3) ∧ w6.cell? ⟨w3.heap.size, 3, none⟩ = some (.int .u64 4) := ⟨cell_of_row _ _ 0 _ _ _ x6, cell_of_row _ _ 1 _ _ _ x6, cell_of_row _ _ 2 _ _ _ x6, cell_of_row _ _ 3 _ _ _ x6⟩)
    | (go_at_call 9; refine (kd_Far [107] (by simp) _ _ _ _ _ h4.D (by omega)).mono ?_; rintro e w5 ⟨hf, hb5⟩
       obtain ⟨hx, _⟩ | ⟨_, n, hn1, hn2, rfl⟩ := hf
       · simp [getM] at hx
       obtain rfl : n = 0 := by simp at hn2; omega
       have h5 := h4.below hb5
       have x5 := heap_keep hb5 x4
       clear h4 x4)
    | (go_at_call 12; refine (kd_Get [106] (by simp) _ _ _ _ _ h3.D (by omega)).mono ?_; rw [get_j]; rintro e w4 ⟨rfl, hb4⟩
       have h4 := (h3.below hb4).below ((Below.refl _ w4).alloc (Nat.le_refl _) (.cells #[.int .i64 0, .int .i64 0, .int .i64 0, .int .u64 0] 29))
       have x4 := heap_keep ((Below.refl _ w4).alloc (Nat.le_refl _) (.cells #[.int .i64 0, .int .i64 0, .int .i64 0, .int .u64 0] 29)) (heap_keep hb4 x3)
       clear h3 x3)
    | (go_at_call 12; refine (kd_Get [107] (by simp) _ _ _ _ _ h2.D (by omega)).mono ?_; rw [get_k]; rintro e w3 ⟨rfl, hb3⟩
       have h3 := (h2.below hb3).below ((Below.refl _ w3).alloc (Nat.le_refl _) (.cells #[.int .i64 1, .int .i64 2, .int .i64 3, .int .u64 4] 29))
       have x3 := heap_alloc_new w3 (.cells #[.int .i64 1, .int .i64 2, .int .i64 3, .int .u64 4] 29)
       clear h2)
    | (go_at_call 8
       go_loud (
       refine (kd_Put [107] ⟨1, 2, 3, 4⟩ (by simp) _ _ _ 8 [] (hD1.below ((Below.refl _ w1).alloc (Nat.le_refl _) _)) (by omega)).mono ?_; rintro e w2 ⟨rfl, ⟨S', N', hD2, hN2, _⟩, hF2⟩
       have h2 : AwW w (w.heap.size + 1) S' w1.heap.size w2 := awake_put hD2 hN2 (hF2.blk (heap_alloc_new w1 _) (fun e => by omega)) ((hb1.alloc hb1.size _).trans (hF2.below (by simp; omega) (fun k hk e => by omega)))
       clear hD1 hD2 hN2 hF2))
    | (go_at_call 6; refine (HNew.out _).mono ?_; rintro e w1 ⟨rfl, hD1, hb1⟩
       have hz1 := hD1.lt; have hz2 := hb1.size))
  go_ret
  exact ⟨by trivial, h6.b⟩
end Go.Proofs.Ytdllmflhgbponaa
