/- Version of the document; Of, both -/
import Derived.Test.YtllaflgcladgoaaDoorVersion
namespace Go.Proofs.YtllaflgcladgoaaDoor
open Go Go.RowKit Go.Thw

theorem _root_.Go.Thw.Boxed0.heap {w : World} {o : Obj} {wr : World} (h : Boxed0 w o wr) : wr.heap[w.heap.size]? = some o :=
  (h.below.block w.heap.size (by omega)).trans (heap_alloc_new w o)

def RVerRel (l : List UInt8) (nv iv : Value) : Prop :=
  ∃ k : Nat, k ≤ 6 ∧ k ≤ l.length - 1 ∧ iv = .int .i64 ((k + 1 : Nat) : Int) ∧ nv = .int .i64 (numFold ((l.drop 1).take k))

theorem ver_snoc (l : List UInt8) (k : Nat) (h : k + 1 < l.length) : numFold ((l.drop 1).take (k + 1)) = 10 * numFold ((l.drop 1).take k) + (l[k + 1].toNat : Int) - 48 := by
  have h1 : k < (l.drop 1).length := by simp; omega
  rw [List.take_succ_eq_append_getElem h1, numFold_snoc]
  have : (l.drop 1)[k] = l[k + 1] := by rw [List.getElem_drop]; congr 1; omega
  rw [this]

/-- the loop's end -/
def verN (l : List UInt8) : Int := numFold ((l.drop 1).take 6)

set_option maxRecDepth 20000 in
set_option maxHeartbeats 1600000 in
theorem ref_Version (l : List UInt8) (hl : l.length ≤ 140737488351232) (n : Int) (t : Bool) (w : World)
    (hcase : (t = true ∧ ∃ m : Nat, n = m ∧ 1 ≤ m ∧ m ≤ 999999 ∧ l = nameL 109 m) ∨ (t = false ∧ n = 0 ∧ ∀ m : Nat, 1 ≤ m → m ≤ 999999 → l ≠ nameL 109 m)) :
    Calls Tryd.prog 17 #[.string (bs l)] w fun e w' => e = .returned (.tuple #[.int .i64 n, .bool t]) ∧ Below w.heap.size w w' := by
  have Hcase := Lib.hid hcase; clear hcase
  go_enter Tryd.func17, Tryd.ntmps17
  go_wp2_with fail
  go_loop [4, 5] (RVerRel l) (fun _ i => 10 - (intOf i).toNat)
  case atStart => exact ⟨0, by omega, by omega, rfl, rfl⟩
  case round =>
    obtain ⟨k, hk, hkl, rfl, rfl⟩ := hrel
    have hbd := numFold_bound ((l.drop 1).take k) (by simp; omega)
    by_cases hend : k + 1 < l.length ∧ k < 6
    · obtain ⟨h1, h2⟩ := hend
      have d1 : decide (((k + 1 : Nat) : Int) < (l.length : Int)) = true := by simp; omega
      have hs := ver_snoc l k h1
      have hb := l[k + 1].toNat_lt
      have q0 : (((k + 1 : Nat) : Int)).toNat = k + 1 := by omega
      have q1 : ((k + 1 : Nat) : Int) < (l.length : Int) := by omega
      have q2 : ((k + 1 : Nat) : Int) < 7 := by omega
      generalize hf2 : numFold ((l.drop 1).take (k + 1)) = f2 at *
      have Hf2 := Lib.hid hf2; clear hf2
      generalize numFold ((l.drop 1).take k) = f at *
      have Hs := Lib.hid hs; clear hs
      go_wp2_with fail
      go_round
      case rel => exact ⟨k + 1, by omega, by omega, by go_num, by rw [Hf2.out, Hs.out]⟩
      case measure => simp [intOf]; omega
    · have hv : numFold ((l.drop 1).take k) = verN l := by
        unfold verN
        by_cases h6 : k = 6
        · rw [h6]
        · rw [List.take_of_length_le (i := k) (by simp; omega), List.take_of_length_le (i := 6) (by simp; omega)]
      have hvb := numFold_bound ((l.drop 1).take 6) (by simp; omega)
      change _ ≤ verN l ∧ verN l ≤ _ at hvb
      rw [hv]
      clear hv hbd
      have hend2 : ¬ (((k + 1 : Nat) : Int) < (l.length : Int)) ∨ ((((k + 1 : Nat) : Int) < (l.length : Int)) ∧ ¬ (((k + 1 : Nat) : Int) < 7)) := by omega
      clear hend
      rcases Hcase.out with ⟨rfl, m, rfl, m1, m2, rfl⟩ | ⟨rfl, rfl, hno⟩
      · have hvm : verN (nameL 109 m) = (m : Int) := by
          unfold verN nameL
          rw [List.drop_one, List.tail_cons, List.take_of_length_le (by rw [digK_len]; omega)]
          exact numFold_digK 6 m (by omega)
        rw [hvm]
        clear hvm hvb Hcase
        have hne : (nameL 109 m).isEmpty = false := by simp [nameL]
        have hlen := nameL_len 109 m
        generalize hL : nameL 109 m = L at *
        have hq : (nameL 109 m == L) = true := by simp [hL]
        have HL := Lib.hid hL; clear hL
        rcases hend2 with hd | ⟨hd, hd2⟩
        · clear hlen
          go_wp2_with (go_at_call 21; refine (ref_Name_ok m m1 m2 _).mono ?_; rintro e w1 ⟨rfl, hb1⟩)
          go_ret2
          exact ⟨rfl, hb1⟩
        · clear hlen
          go_wp2_with (go_at_call 21; refine (ref_Name_ok m m1 m2 _).mono ?_; rintro e w1 ⟨rfl, hb1⟩)
          go_ret2
          exact ⟨rfl, hb1⟩
      · by_cases hnil : l = []
        · subst hnil
          go_wp2_with fail
          go_ret2
          exact ⟨rfl, Below.refl _ _⟩
        · have hne : l.isEmpty = false := by simpa using hnil
          by_cases hr : 1 ≤ verN l ∧ verN l ≤ 999999
          · obtain ⟨m, hm⟩ : ∃ m : Nat, verN l = m := ⟨(verN l).toNat, by omega⟩
            rw [hm] at hr hvb ⊢
            have m1 : 1 ≤ m := by omega
            have m2 : m ≤ 999999 := by omega
            have hq : (nameL 109 m == l) = false := by simpa using fun e => hno m m1 m2 e.symm
            have Hno := Lib.hid hno; clear hno hm hr
            rcases hend2 with hd | ⟨hd, hd2⟩
            · go_wp2_with (go_at_call 21; refine (ref_Name_ok m m1 m2 _).mono ?_; rintro e w1 ⟨rfl, hb1⟩)
              go_ret2
              exact ⟨rfl, hb1⟩
            · go_wp2_with (go_at_call 21; refine (ref_Name_ok m m1 m2 _).mono ?_; rintro e w1 ⟨rfl, hb1⟩)
              go_ret2
              exact ⟨rfl, hb1⟩
          · have hq : (([] : List UInt8) == l) = false := by simpa using hnil
            have Hno := Lib.hid hno; clear hno
            generalize verN l = v at *
            rcases hend2 with hd | ⟨hd, hd2⟩
            · go_wp2_with (go_at_call 21; refine (ref_Name_no v (by omega) _).mono ?_; rintro e w1 ⟨rfl, rfl⟩)
              go_ret2
              exact ⟨rfl, Below.refl _ _⟩
            · go_wp2_with (go_at_call 21; refine (ref_Name_no v (by omega) _).mono ?_; rintro e w1 ⟨rfl, rfl⟩)
              go_ret2
              exact ⟨rfl, Below.refl _ _⟩

def SegV (s : SegD) : Value := .agg #[.int .i64 s.N, .int .i64 s.Size, .int .u32 (s.Sum : Int)]
/-- what is known of a segment's bytes -/
def ofL (n : Int) (l : List UInt8) : SegD := ⟨n, l.length, moreL 0 l⟩

set_option maxRecDepth 20000 in
set_option maxHeartbeats 800000 in
theorem man_Of (n : Int) (l : List UInt8) (hl : l.length ≤ 140737488351232) (w : World) :
    Calls Tryd.prog 18 #[.int .i64 n, .string (bs l)] w fun e w' => e = .returned (SegV (ofL n l)) ∧ Below w.heap.size w w' := by
  have hone : (#[.int .i64 n, .int .i64 l.length, .int .u32 (moreL 0 l : Nat)] : Array Value).all (·.oneCell') = true := by simp [Value.oneCell']
  have hinf : (Tryd.prog.info? 46).map (·.size) = some 3 := by kernel_rfl
  have Hone := Lib.hid hone; clear hone
  have Hinf := Lib.hid hinf; clear hinf
  go_enter Tryd.func18, Tryd.ntmps18
  go_wp2_with (first
    | (go_at_call 36; refine (crc_Sum l hl _).mono ?_; rintro e w1 ⟨rfl, hb1⟩; have hbx := (Boxed0.start w (.cells #[.int .i64 0, .int .i64 0, .int .u32 0] 46)).trans hb1; have Hh := Lib.hid hbx.heap)
    | (refine wpList_store_row rfl 46 _ _ rfl w.heap.size #[.int .i64 n, .int .i64 l.length, .int .u32 (moreL 0 l : Nat)] rfl rfl 46 _ Hh.out Hinf.out rfl Hone.out ?_))
  exact bodyPost_ret (results_cell_row rfl _ _ w.heap.size 46 #[.int .i64 n, .int .i64 l.length, .int .u32 (moreL 0 l : Nat)] (0, 0) _ rfl (setRow_heap _ _ _ _ _ _ Hh.out) Tryd.underlying46 rfl Hinf.out) rfl ⟨rfl, below_setRow hbx.old (Nat.le_refl _) _⟩

set_option maxRecDepth 20000 in
set_option maxHeartbeats 800000 in
theorem ref_Of (n : Int) (l : List UInt8) (hl : l.length ≤ 140737488351232) (w : World) :
    Calls Tryd.prog 19 #[.int .i64 n, .string (bs l)] w fun e w' => e = .returned (SegV (ofL n l)) ∧ Below w.heap.size w w' := by
  go_enter Tryd.func19, Tryd.ntmps19
  go_wp2_with (go_at_call 37; refine (ref_Sum l hl _).mono ?_; rintro e w1 ⟨rfl, rfl⟩)
  exact bodyPost_ret (results_cell_row rfl _ _ w.heap.size 48 #[.int .i64 n, .int .i64 l.length, .int .u32 (moreL 0 l : Nat)] (0, 0) _ rfl (heap_alloc_new _ _) Tryd.underlying48 rfl (by kernel_rfl)) rfl ⟨rfl, (Below.refl _ _).alloc (Nat.le_refl _) _⟩
end Go.Proofs.YtllaflgcladgoaaDoor
