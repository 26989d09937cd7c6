/- the law's own small case -/
import Derived.Test.YtllaflgcladgoaaDoorPlain
import Derived.Test.YtllaflgcladgoaaDoorRead
import Derived.Test.YtllaflgcladgoaaDoorBytes
import Derived.Test.YtllaflgcladgoaaDoorRefVersion
import Derived.Test.YtllaflgcladgoaaDoorVersion
import Derived.Deep.RegionHeld3
import Derived.Deep.DeepCutAuto
namespace Go.Proofs.YtllaflgcladgoaaDoor
open Go Go.RowKit Go.Thw

def abc : List UInt8 := [97, 98, 99]
theorem abc_bs : (ByteArray.mk #[97, 98, 99]) = bs abc := rfl
theorem aw_right : rightB ((7 : Nat) : Int) [ofL 3 abc] = true := by decide
theorem aw_fits : ∀ s ∈ [ofL 3 abc], s.fits := by
  intro s hs
  simp at hs
  subst hs
  exact ⟨by simp [ofL], by simp [ofL, abc], by have := moreL_lt abc; simpa [ofL] using this⟩
theorem aw_open : openL (bytesL 7 [ofL 3 abc]) = some (bodyL 7 [ofL 3 abc]) := openL_seal _
theorem aw_parse : parseMan (bodyL 7 [ofL 3 abc]) = some (7, [ofL 3 abc]) := parseMan_of aw_right aw_fits
theorem aw_len : (bytesL 7 [ofL 3 abc]).length ≤ 140737488351232 := by
  have := flat_len [ofL 3 abc] (right_facts aw_right).1 aw_fits 1
  have a := putL_len10 (n := 7) (by omega)
  have b := putL_len10 (n := 1) (by omega)
  simp only [List.take_succ_cons, List.take_zero] at this
  simp [bytesL, sealL, bodyL, le4] at *; omega
theorem name7 : nameL 109 7 = [109, 48, 48, 48, 48, 48, 55] := by decide +kernel
theorem name3 : nameL 111 3 = [111, 48, 48, 48, 48, 48, 51] := by decide +kernel
theorem bs7 : (ByteArray.mk #[109, 48, 48, 48, 48, 48, 55]) = bs (nameL 109 7) := by rw [name7]; rfl
theorem bs3 : (ByteArray.mk #[111, 48, 48, 48, 48, 48, 51]) = bs (nameL 111 3) := by rw [name3]; rfl

structure AwW (w : World) (S : Nat) (s : SegD) (wr : World) : Prop where
  hS : wr.heap[S]? = some (.cells #[.int .i64 s.N, .int .i64 s.Size, .int .u32 (s.Sum : Int)] 46 (0, 0))
  hM : wr.heap[S + 1]? = some (.cells #[.int .i64 7, .slice (some ⟨S, 0, none⟩) 1 1] 24 (0, 0))
  bel : Below w.heap.size w wr
section
variable {w : World} {S : Nat} {s : SegD} {wr : World}
theorem AwW.start {w1 : World} (hb : Below w.heap.size w w1) (s : SegD) : AwW w w1.heap.size s ((w1.alloc (.cells #[.int .i64 s.N, .int .i64 s.Size, .int .u32 (s.Sum : Int)] 46)).alloc (.cells #[.int .i64 7, .slice (some ⟨w1.heap.size, 0, none⟩) 1 1] 24)) := by
  refine ⟨?_, ?_, (hb.alloc hb.size _).alloc (by have := hb.size; simp; omega) _⟩
  · rw [Below.heap_alloc _ _ _ (by simp)]; exact heap_alloc_new w1 _
  · have := heap_alloc_new (w1.alloc (.cells #[.int .i64 s.N, .int .i64 s.Size, .int .u32 (s.Sum : Int)] 46)) (.cells #[.int .i64 7, .slice (some ⟨w1.heap.size, 0, none⟩) 1 1] 24)
    simpa using this
theorem AwW.below {w1 : World} (h : AwW w S s wr) (hb : Below wr.heap.size wr w1) : AwW w S s w1 :=
  ⟨(hb.block _ (lt_of_block h.hS)).trans h.hS, (hb.block _ (lt_of_block h.hM)).trans h.hM, h.bel.trans (hb.mono h.bel.size)⟩
theorem AwW.alloc (h : AwW w S s wr) (o : Obj) : AwW w S s (wr.alloc o) := h.below ((Below.refl _ wr).alloc (Nat.le_refl _) o)
theorem AwW.segs (h : AwW w S s wr) (hf : s.fits) : SegsIn wr (some ⟨S, 0, none⟩) [s] := by
  refine ⟨fun i hi => ?_, fun x hx => by simp at hx; rw [hx]; exact hf⟩
  obtain rfl : i = 0 := by simpa using hi
  exact ⟨S, 0, rfl, lt_of_block h.hS, cell_of_row wr S 0 _ _ _ h.hS, cell_of_row wr S 1 _ _ _ h.hS, cell_of_row wr S 2 _ _ _ h.hS⟩
theorem AwW.c0 (h : AwW w S s wr) : wr.cell? ⟨S, 0, none⟩ = some (.int .i64 s.N) := cell_of_row wr S 0 _ _ _ h.hS
theorem AwW.c1 (h : AwW w S s wr) : wr.cell? ⟨S, 1, none⟩ = some (.int .i64 s.Size) := cell_of_row wr S 1 _ _ _ h.hS
theorem AwW.c2 (h : AwW w S s wr) : wr.cell? ⟨S, 2, none⟩ = some (.int .u32 (s.Sum : Int)) := cell_of_row wr S 2 _ _ _ h.hS
theorem AwW.m0 (h : AwW w S s wr) : wr.cell? ⟨S + 1, 0, none⟩ = some (.int .i64 7) := cell_of_row wr _ 0 _ _ _ h.hM
theorem AwW.m1 (h : AwW w S s wr) : wr.cell? ⟨S + 1, 1, none⟩ = some (.slice (some ⟨S, 0, none⟩) 1 1) := cell_of_row wr _ 1 _ _ _ h.hM
theorem keep_cell {w1 : World} {p : Addr} {v : Value} (hb : Below wr.heap.size wr w1) (h : wr.cell? p = some v) : w1.cell? p = some v := (hb.cell (World.block_lt_of_cell? _ _ h)).trans h
end

set_option maxRecDepth 20000 in
set_option maxHeartbeats 3200000 in
theorem aw (w : World) (hv : Vars w) :
    Calls Tryd.prog 7 #[] w fun e w' => e = .returned (.bool true) ∧ Below w.heap.size w w' := by
  have Hv := Lib.hid hv; clear hv
  have HO := Lib.hid (man_Of 3 abc (by decide))
  have HR := Lib.hid (man_Read_parse _ _ aw_len aw_open)
  rw [aw_parse] at HR
  have HB := Lib.hid (show (∀ (W : World) (a : Option Addr), SegsIn W a [ofL 3 abc] → Calls Tryd.prog 8 #[.agg #[.int .i64 7, .slice a 1 1]] W fun e w' => e = .returned (.tuple #[.string (bs (bytesL 7 [ofL 3 abc])), .int .i64 0]) ∧ Below W.heap.size W w') from
    (fun W a h => man_Bytes_ok W 7 a 1 [ofL 3 abc] (by simp) h aw_right))
  have Hf := Lib.hid (aw_fits _ (List.mem_singleton.2 rfl))
  have H7 := Lib.hid bs7
  have H3 := Lib.hid bs3
  have Hsz := Lib.hid (show (ofL 3 abc).Size = 3 from rfl)
  generalize ofL 3 abc = s at *
  unfold SegV at HO
  go_enter Tryd.func7, Tryd.ntmps7
  go_wp2_with (first
    | (go_at_call 18; refine (HO.out _).mono ?_; rintro e w1 ⟨rfl, hb1⟩; have haw := AwW.start hb1 s)
    | (go_at_call 8; refine (HB.out _ _ (haw.segs Hf.out)).mono ?_; rintro e w2 ⟨rfl, hb2⟩; have haw2 := haw.below hb2)
    | (go_at_call 11; refine (HR.out _).mono ?_; rintro e w3 ⟨hb3, a, c, rfl, hsg⟩; have haw3 := haw2.below hb3)
    | (go_at_call 16; rw [H7.out]; refine (man_Version_ok 7 (by decide) (by decide) _ (Hv.out.below (haw3.alloc _).bel)).mono ?_; rintro e w4 ⟨rfl, hb4⟩)
    | (go_at_call 16; fail))
  have haw4 := (haw3.alloc _).below hb4
  obtain ⟨b, o, rfl, hlt, e1, e2, e3⟩ := hsg.at_ 0 (by simp)
  have f0 : w4.cell? ⟨w3.heap.size, 0, none⟩ = some (.int .i64 7) := keep_cell hb4 (World.cell?_alloc_new w3 _ _ 0)
  have f1 : w4.cell? ⟨w3.heap.size, 1, none⟩ = some (.slice (some ⟨b, o, none⟩) 1 c) := keep_cell hb4 (World.cell?_alloc_new w3 _ _ 1)
  have hb34 : Below w3.heap.size w3 w4 := ((Below.refl _ w3).alloc (Nat.le_refl _) _).trans (hb4.mono (by simp))
  have g1 : w4.cell? ⟨b, o, none⟩ = some (.int .i64 s.N) := keep_cell hb34 (by simpa using e1)
  have g2 : w4.cell? ⟨b, o + 1, none⟩ = some (.int .i64 3) := keep_cell hb34 (by rw [← Hsz.out]; simpa using e2)
  have g3 : w4.cell? ⟨b, o + 2, none⟩ = some (.int .u32 (s.Sum : Int)) := keep_cell hb34 (by simpa using e3)
  have k1 := haw4.c0
  have k2 : w4.cell? ⟨w1.heap.size, 1, none⟩ = some (.int .i64 3) := by rw [← Hsz.out]; exact haw4.c1
  have k3 := haw4.c2
  have k5 := haw4.m1
  have hv4 := Lib.hid (Hv.out.below haw4.bel)
  have hbel := Lib.hid haw4.bel
  clear hb1 haw hb2 haw2 hb3 haw3 hb4 haw4 hsg hlt e1 e2 e3 hb34 HO HR HB
  generalize w1.heap.size = S at *
  generalize w3.heap.size = M at *
  have test : (fun w' => (w'.cell? ⟨M, 0, none⟩ = some (.int .i64 7) ∧ w'.cell? ⟨M, 1, none⟩ = some (.slice (some ⟨b, o, none⟩) 1 c) ∧ w'.cell? ⟨b, o, none⟩ = some (.int .i64 s.N) ∧ w'.cell? ⟨b, o + 1, none⟩ = some (.int .i64 3) ∧ w'.cell? ⟨b, o + 2, none⟩ = some (.int .u32 (s.Sum : Int)) ∧
      w'.cell? ⟨S, 0, none⟩ = some (.int .i64 s.N) ∧ w'.cell? ⟨S, 1, none⟩ = some (.int .i64 3) ∧ w'.cell? ⟨S, 2, none⟩ = some (.int .u32 (s.Sum : Int)) ∧ w'.cell? ⟨S + 1, 1, none⟩ = some (.slice (some ⟨S, 0, none⟩) 1 1)) ∧ Below w4.heap.size w4 w') w4.drew := ⟨⟨f0, f1, g1, g2, g3, k1, k2, k3, k5⟩, (Below.refl _ _).drew⟩
  go_region_held3 (fun w' => (w'.cell? ⟨M, 0, none⟩ = some (.int .i64 7) ∧ w'.cell? ⟨M, 1, none⟩ = some (.slice (some ⟨b, o, none⟩) 1 c) ∧ w'.cell? ⟨b, o, none⟩ = some (.int .i64 s.N) ∧ w'.cell? ⟨b, o + 1, none⟩ = some (.int .i64 3) ∧ w'.cell? ⟨b, o + 2, none⟩ = some (.int .u32 (s.Sum : Int)) ∧
      w'.cell? ⟨S, 0, none⟩ = some (.int .i64 s.N) ∧ w'.cell? ⟨S, 1, none⟩ = some (.int .i64 3) ∧ w'.cell? ⟨S, 2, none⟩ = some (.int .u32 (s.Sum : Int)) ∧ w'.cell? ⟨S + 1, 1, none⟩ = some (.slice (some ⟨S, 0, none⟩) 1 1)) ∧ Below w4.heap.size w4 w')
    (first
      | go_keep
      | (exact test)
      | (go_split_ands
         have hsz5 : w4.heap.size ≤ _ := Below.size (by assumption)
         refine ⟨⟨?_, ?_, ?_, ?_, ?_, ?_, ?_, ?_, ?_⟩, (by assumption : Below w4.heap.size w4 _).trans (hb5.mono hsz5)⟩ <;> exact keep_cell hb5 (by assumption)))
    (first
      | (go_at_call 22; refine (man_Object_ok 3 (by decide) _ ?_).mono ?_; (go_split_ands; exact hv4.out.below (by assumption)); rintro e w5 ⟨rfl, hb5⟩))
  all_goals
    go_split_ands
    have hfin : Below w.heap.size w _ := hbel.out.trans ((by assumption : Below w4.heap.size w4 _).mono hbel.out.size)
    have hq : (nameL 111 3 == [111, 48, 48, 48, 48, 48, 51]) = true := by rw [name3]; rfl
    rw [hq]
    go_wp2_with fail
    go_ret
    exact ⟨rfl, hfin⟩
end Go.Proofs.YtllaflgcladgoaaDoor
