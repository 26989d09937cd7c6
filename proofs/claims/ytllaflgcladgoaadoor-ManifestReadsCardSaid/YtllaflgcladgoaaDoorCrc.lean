/- crc.table, More, Sum, Seal, Open -/
import Derived.Test.YtllaflgcladgoaaDoorProg
import Derived.Test.YtllaflgcladgoaaDoorBase
import Derived.Deep.WholeRow
import Derived.Laws.CopyOwn
namespace Go.Proofs.YtllaflgcladgoaaDoor
open Go Go.RowKit Go.Thw


def TabRel (w : World) (iv : Value) (wr : World) : Prop :=
  ∃ (k : Nat) (cs : List Value), iv = .int .i64 k ∧ k ≤ 256 ∧ cs.length = 256 ∧ wr = (w.alloc (.cells Tryd.zeroCells88 88)).alloc (.cells cs.toArray 88) ∧
    cs.take k = (List.range k).map tv
def TabIn (k : Nat) (cv jv : Value) : Prop := ∃ j : Nat, j ≤ 8 ∧ jv = .int .i64 j ∧ cv = .int .u32 (stepN j k : Nat)

set_option maxRecDepth 20000 in
set_option maxHeartbeats 400000 in
theorem crc_table (w : World) :
    Calls Tryd.prog 54 #[] w fun e w' => e = .returned (.agg tabV.toArray) ∧ Below w.heap.size w w' := by
  go_enter Tryd.func54, Tryd.ntmps54
  go_wp2
  go_loopw [4] (TabRel w) (fun i _ => 256 - (intOf i).toNat)
  case atStart => exact ⟨0, Tryd.zeroCells88.toList, rfl, by omega, by simp [Tryd.zeroCells88], rfl, rfl⟩
  case round =>
    obtain ⟨k, cs, rfl, hk, hl, rfl, htk⟩ := hrel
    have Htk := Lib.hid htk; clear htk
    by_cases h : k < 256
    · obtain ⟨x, hx⟩ : ∃ x, cs[k]? = some x := ⟨cs[k], List.getElem?_eq_getElem (by omega)⟩
      have Hl := Lib.hid hl; clear hl
      go_wp2
      go_loop [3, 9] (TabIn k) (fun _ j => 8 - (intOf j).toNat)
      case atStart => exact ⟨0, by omega, rfl, rfl⟩
      case round =>
        obtain ⟨j, hj, rfl, rfl⟩ := hrel
        by_cases h8 : j < 8
        · go_wp2
          go_round
          case rel => exact ⟨j + 1, by omega, by go_num, congrArg (Value.int .u32) (tab_step _ (stepN_lt (by omega) j))⟩
          case measure => simp [intOf]; omega
        · obtain rfl : j = 8 := by omega
          go_wp2
          go_roundw
          case rel =>
            refine ⟨k + 1, cs.set k (tv k), by go_num, by omega, by simp [Hl.out], rfl, tab_close Hl.out h Htk.out⟩
          case measure => simp [intOf]; omega
    · obtain rfl : k = 256 := by omega
      have htk' := Htk; clear Htk
      obtain rfl : cs = tabV := by have := htk'.out; rw [List.take_of_length_le (by omega)] at this; exact this
      clear hl htk'
      have hsz : (Tryd.prog.info? 88).map (·.size) = some tabV.toArray.size := by rw [tabV_size]; kernel_rfl
      have hz : Tryd.zeroCells88.size = tabV.toArray.size := by rw [tabV_size]; kernel_rfl
      have hg0 : ∀ o, ((w.alloc (.cells Tryd.zeroCells88 88)).alloc o).heap[w.heap.size]? = some (.cells Tryd.zeroCells88 88) := fun o => heap_alloc2_old w _ o
      have hg1 : ((w.alloc (.cells Tryd.zeroCells88 88)).alloc (.cells tabV.toArray 88)).heap[w.heap.size + 1]? = some (.cells tabV.toArray 88) := heap_alloc2_new w _ _
      have Hsz := Lib.hid hsz; clear hsz
      have Hz := Lib.hid hz; clear hz
      have Hg0 := Lib.hid hg0; clear hg0
      have Hg1 := Lib.hid hg1; clear hg1
      go_wp2_with (first | (refine wpList_load_row rfl 88 _ rfl (w.heap.size + 1) rfl 88 tabV.toArray _ _ Hg1.out Tryd.underlying88 rfl Hsz.out ?_) | (refine wpList_store_row rfl 88 _ _ rfl w.heap.size tabV.toArray rfl rfl 88 _ (Hg0.out _) Hsz.out Hz.out tabV_one ?_))
      have hb : Below w.heap.size w (((w.alloc (.cells Tryd.zeroCells88 88)).alloc (.cells tabV.toArray 88)).setRow w.heap.size tabV.toArray) :=
        below_setRow (((Below.refl _ _).alloc (Nat.le_refl _) _).alloc (by simp) _) (Nat.le_refl _) _
      exact bodyPost_ret (results_cell_row rfl _ _ w.heap.size 88 tabV.toArray (0, 0) _ rfl (setRow_heap _ _ _ _ _ _ (Hg0.out _)) Tryd.underlying88 rfl Hsz.out) rfl ⟨rfl, hb⟩
end Go.Proofs.YtllaflgcladgoaaDoor
