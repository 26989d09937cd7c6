/- crc.More -/
import Derived.Test.YtllaflgcladgoaaDoorProg
import Derived.Test.YtllaflgcladgoaaDoorBase
import Derived.Test.YtllaflgcladgoaaDoorCrc
import Derived.Deep.WholeRow
namespace Go.Proofs.YtllaflgcladgoaaDoor
open Go Go.RowKit Go.Thw

structure MoreW (w : World) (g : Nat) (l : List UInt8) (wr : World) : Prop where
  tab : ∀ i, wr.cell? ⟨g, i, none⟩ = tabV.toArray[i]?
  byt : ∀ j (h : j < l.length), wr.cell? ⟨g + 1, j, none⟩ = some (.int .u8 (l[j].toNat : Int))
  bel : Below w.heap.size w wr

def MoreIn (w : World) (g : Nat) (s : Nat) (l : List UInt8) (cv iv : Value) (wr : World) : Prop :=
  MoreW w g l wr ∧ ∃ k : Nat, k ≤ l.length ∧ iv = .int .i64 k ∧ cv = .int .u32 (crcL (4294967295 - s) (l.take k) : Nat)

theorem more_start (w w1 : World) (hb : Below w.heap.size w w1) (l : List UInt8) (Z : Array Value) (t e c m : Nat) :
    MoreW w w1.heap.size l ((((w1.alloc (.cells Z t)).setRow w1.heap.size tabV.toArray).alloc (.cells (bytesRow (bs l) c) e (m, m + 1))).drew) := by
  rw [World.setRow_alloc_new]
  refine ⟨fun i => ?_, fun j h => ?_, ?_⟩
  · rw [World.cell?_drew, World.cell?_alloc_lt _ _ _ (by simp)]
    exact World.cell?_alloc_new _ _ _ _
  · rw [World.cell?_drew]
    have := World.cell?_alloc_mark (w1.alloc (.cells tabV.toArray t)) (bytesRow (bs l) c) e (m, m + 1) j
    rw [World.size_alloc] at this
    rw [this, bytesRow_at (bs l) c j (by simpa using h)]
    rfl
  · exact ((hb.alloc hb.size _).alloc (by simp; have := hb.size; omega) _).drew

theorem tab_at (m : Nat) (h : m < 256) : tabV.toArray[m]? = some (.int .u32 (step8 m : Nat)) := by
  simp [tabV, h, tv]

set_option maxRecDepth 20000 in
set_option maxHeartbeats 400000 in
theorem crc_More (s : Nat) (hs : s < 4294967296) (l : List UInt8) (hl : l.length ≤ 140737488351232) (w : World) :
    Calls Tryd.prog 44 #[.int .u32 s, .string (bs l)] w fun e w' => e = .returned (.int .u32 (moreL s l : Nat)) ∧ Below w.heap.size w w' := by
  have hsz : (Tryd.prog.info? 88).map (·.size) = some tabV.toArray.size := by rw [tabV_size]; kernel_rfl
  have hz : Tryd.zeroCells88.size = tabV.toArray.size := by rw [tabV_size]; kernel_rfl
  have Hsz := Lib.hid hsz; clear hsz
  have Hz := Lib.hid hz; clear hz
  have hnot := u32_not s hs
  have Hs := Lib.hid hs; clear hs
  have hcv := fun w => run_bytes_of_string (P := Tryd.prog) w 9 76 5 (bs l) Tryd.underlying9 Tryd.underlying76 Tryd.underlying5
  go_enter Tryd.func44, Tryd.ntmps44
  go_wp2_with (first | (go_at_call 54; refine (crc_table _).mono ?_; rintro e w1 ⟨rfl, hb1⟩) | (refine wpList_store_row rfl 88 _ _ rfl _ tabV.toArray rfl rfl 88 _ (heap_alloc_new _ _) Hsz.out Hz.out tabV_one ?_))
  go_loopw [6, 15] (MoreIn w w1.heap.size s l) (fun _ i _ => l.length - (intOf i).toNat)
  case atStart => exact ⟨more_start w w1 hb1 l _ _ _ _ _, 0, by omega, rfl, rfl⟩
  case round =>
    obtain ⟨F, k, hk, rfl, rfl⟩ := hrel
    clear hcv hnot
    by_cases h : k < l.length
    · have hc : crcL (4294967295 - s) (l.take k) < 4294967296 := crcL_lt (by omega) _
      have hsn : crcL (4294967295 - s) (l.take (k + 1)) = step8 (crcL (4294967295 - s) (l.take k) ^^^ (l[k]).toNat) := by
        rw [List.take_succ_eq_append_getElem h, crcL_snoc]
      generalize crcL (4294967295 - s) (l.take k) = c at hc hsn
      have hb := F.byt k h
      have hlt := l[k].toNat_lt
      generalize l[k].toNat = b at hb hsn hlt
      have hix : bits .xor .u8 ((c : Int) % 256) (b : Int) = (((c % 256) ^^^ b : Nat) : Int) := by
        have := u8_xor_nat (c % 256) b (by omega) hlt
        rw [← this]; congr 1
      have hm : (c % 256) ^^^ b < 256 := Nat.xor_lt_two_pow (n := 8) (by omega) hlt
      have ht := (F.tab ((c % 256) ^^^ b)).trans (tab_at _ hm)
      have hfin : bits .xor .u32 (step8 ((c % 256) ^^^ b) : Nat) ((c : Int) / 256) = (step8 (c ^^^ b) : Nat) := by
        have := u32_xor_nat (step8 ((c % 256) ^^^ b)) (c / 256) (step8_lt (by omega)) (by omega)
        rw [tab_byte] at this
        rw [← this]; congr 1
      rw [← hsn] at hfin
      have Hsn := Lib.hid hsn; clear hsn
      generalize step8 ((c % 256) ^^^ b) = tm at ht hfin
      generalize (c % 256) ^^^ b = m at hix hm ht
      generalize hc' : crcL (4294967295 - s) (l.take (k + 1)) = c' at hfin Hsn
      have Hc' := Lib.hid hc'; clear hc'
      have hm' : (m : Int) < 256 := by omega
      have Hc := Lib.hid hc; clear hc
      go_wp2
      go_roundw
      case rel => exact ⟨F, k + 1, by omega, by go_num, by rw [Hc'.out]⟩
      case measure => simp [intOf]; omega
    · obtain rfl : k = l.length := by omega
      have hc : crcL (4294967295 - s) l < 4294967296 := crcL_lt (by omega) _
      rw [List.take_length]
      have hnot := u32_not _ hc
      have hm : 4294967295 - crcL (4294967295 - s) l = moreL s l := rfl
      rw [hm] at hnot
      clear hm
      generalize crcL (4294967295 - s) l = c at hc hnot
      generalize hml : moreL s l = m at hnot
      have Hml := Lib.hid hml; clear hml
      have Hc := Lib.hid hc; clear hc
      go_wp2
      all_goals
        go_ret
        exact ⟨by rw [Hml.out]; rfl, F.bel⟩

set_option maxRecDepth 20000 in
set_option maxHeartbeats 400000 in
theorem crc_Sum (l : List UInt8) (hl : l.length ≤ 140737488351232) (w : World) :
    Calls Tryd.prog 36 #[.string (bs l)] w fun e w' => e = .returned (.int .u32 (moreL 0 l : Nat)) ∧ Below w.heap.size w w' := by
  go_enter Tryd.func36, Tryd.ntmps36
  go_wp2_with (go_at_call 44; refine (crc_More 0 (by omega) l hl _).mono ?_; rintro e w1 ⟨rfl, hb1⟩)
  go_ret
  exact ⟨rfl, hb1⟩
end Go.Proofs.YtllaflgcladgoaaDoor
