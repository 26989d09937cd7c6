/- manifest.Read -/
import Derived.Test.YtllaflgcladgoaaDoorReadW
import Derived.Test.YtllaflgcladgoaaDoorOpen
import Derived.Deep.RegionHeld3
import Derived.Deep.DeepCutAuto
namespace Go.Proofs.YtllaflgcladgoaaDoor
open Go Go.RowKit Go.Thw

def noMan (n : Int) : Value := .tuple #[.agg #[.int .i64 0, .slice none 0 0], .int .i64 n]

/-- the results' cells alone -/
structure ResW (w : World) (c0 c1 x : Value) (wr : World) : Prop where
  hm : wr.heap[w.heap.size]? = some (.cells #[c0, c1] 24 (0, 0))
  he : wr.heap[w.heap.size + 1]? = some (.cells #[x] 26 (0, 0))
  bel : Below w.heap.size w wr
section
variable {w : World} {R : Nat} {v : Int} {sv : Value} {s : List UInt8} {xs : List SegD} {wr : World} {c0 c1 x : Value}
theorem ReadW.res (h : ReadW w R v sv s xs wr) : ResW w (.int .i64 v) sv (.int .i64 0) wr := ⟨h.hm, h.he, h.bel⟩
theorem ResW.start {w1 : World} (hb : Below ((w.alloc (.cells #[c0, c1] 24)).alloc (.cells #[x] 26)).heap.size ((w.alloc (.cells #[c0, c1] 24)).alloc (.cells #[x] 26)) w1) : ResW w c0 c1 x w1 := by
  refine ⟨(hb.block _ (by simp; omega)).trans ?_, (hb.block _ (by simp)).trans ?_, (((Below.refl _ w).alloc (Nat.le_refl _) _).alloc (by simp) _).trans (hb.mono (by simp; omega))⟩
  · rw [Below.heap_alloc _ _ _ (by simp)]; exact heap_alloc_new w _
  · have := heap_alloc_new (w.alloc (.cells #[c0, c1] 24)) (.cells #[x] 26)
    simpa using this
theorem ResW.cell0 (h : ResW w c0 c1 x wr) : wr.cell? ⟨w.heap.size, 0, none⟩ = some c0 := cell_of_row wr _ 0 _ _ _ h.hm
theorem ResW.cell1 (h : ResW w c0 c1 x wr) : wr.cell? ⟨w.heap.size, 1, none⟩ = some c1 := cell_of_row wr _ 1 _ _ _ h.hm
theorem ResW.cellE (h : ResW w c0 c1 x wr) : wr.cell? ⟨w.heap.size + 1, 0, none⟩ = some x := cell_of_row wr _ 0 _ _ _ h.he
theorem ResW.free0 (h : ResW w c0 c1 x wr) : wr.frozen? ⟨w.heap.size, 0, none⟩ = false := frozen_of_row wr _ 0 _ _ h.hm
theorem ResW.free1 (h : ResW w c0 c1 x wr) : wr.frozen? ⟨w.heap.size, 1, none⟩ = false := frozen_of_row wr _ 1 _ _ h.hm
theorem ResW.freeE (h : ResW w c0 c1 x wr) : wr.frozen? ⟨w.heap.size + 1, 0, none⟩ = false := frozen_of_row wr _ 0 _ _ h.he
theorem ResW.set0 (h : ResW w c0 c1 x wr) (u : Value) : ResW w u c1 x (wr.setCell ⟨w.heap.size, 0, none⟩ u) :=
  ⟨(heap_set_two h.hm).1, by rw [Below.heap_setCell _ _ _ _ (by simp)]; exact h.he, h.bel.setCell (by simp) _⟩
theorem ResW.set1 (h : ResW w c0 c1 x wr) (u : Value) : ResW w c0 u x (wr.setCell ⟨w.heap.size, 1, none⟩ u) :=
  ⟨(heap_set_two h.hm).2, by rw [Below.heap_setCell _ _ _ _ (by simp)]; exact h.he, h.bel.setCell (by simp) _⟩
theorem ResW.setE (h : ResW w c0 c1 x wr) (u : Value) : ResW w c0 c1 u (wr.setCell ⟨w.heap.size + 1, 0, none⟩ u) :=
  ⟨by rw [Below.heap_setCell _ _ _ _ (by simp)]; exact h.hm, one_setCell h.he, h.bel.setCell (by simp) _⟩

theorem read_leaves {Q : Ending → World → Prop} (h : ResW w c0 c1 x wr) (t : Array Value) (h2 : t[2]? = some (.pointer (some ⟨w.heap.size, 0, none⟩))) (h3 : t[3]? = some (.pointer (some ⟨w.heap.size + 1, 0, none⟩)))
    (hQ : Q (.returned (.tuple #[.agg #[c0, c1], x])) wr) : Leaves Tryd.prog Tryd.f11 t Q [] .returning wr := by
  have a0 := h.cell0
  have a1 := h.cell1
  have a2 := h.cellE
  refine ⟨_, ?_, hQ⟩
  simp [results, Tryd.results11, go_sem, h2, h3, a0, a1, a2]
/-- the door behind a panic -/
theorem door_bad {Q : Ending → World → Prop} (h : ResW w c0 c1 x wr) (t : Array Value) (h2 : t[2]? = some (.pointer (some ⟨w.heap.size, 0, none⟩))) (h3 : t[3]? = some (.pointer (some ⟨w.heap.size + 1, 0, none⟩)))
    (hQ : ∀ w', Below w.heap.size w w' → Q (.returned (noMan 2)) w') :
    bodyPostD Tryd.prog Tryd.f11 Q (.panic formPanic) { tmps := t, defers := [{ target := .fn (.func 28) #[.pointer (some ⟨w.heap.size, 0, none⟩), .pointer (some ⟨w.heap.size + 1, 0, none⟩)], args := #[] }] } wr := by
  refine leaves_cons (f := 28) (args := #[.pointer (some ⟨w.heap.size, 0, none⟩), .pointer (some ⟨w.heap.size + 1, 0, none⟩)]) (by simp) (by simp [go_sem]) ?_
  refine (catch_panicking w.heap.size _ _ _ [] _ h.hm h.he).mono ?_
  rintro e u' w'' ⟨rfl, rfl, rfl⟩
  have h' := ((h.set0 (.int .i64 0)).set1 (.slice none 0 0)).setE (.int .i64 2)
  exact read_leaves h' t h2 h3 (hQ _ h'.bel)
theorem door_ok {Q : Ending → World → Prop} (h : ResW w c0 c1 x wr) (t : Array Value) (h2 : t[2]? = some (.pointer (some ⟨w.heap.size, 0, none⟩))) (h3 : t[3]? = some (.pointer (some ⟨w.heap.size + 1, 0, none⟩)))
    (hQ : Q (.returned (.tuple #[.agg #[c0, c1], x])) wr) :
    bodyPostD Tryd.prog Tryd.f11 Q .ret { tmps := t, defers := [{ target := .fn (.func 28) #[.pointer (some ⟨w.heap.size, 0, none⟩), .pointer (some ⟨w.heap.size + 1, 0, none⟩)], args := #[] }] } wr := by
  refine leaves_cons (f := 28) (args := #[.pointer (some ⟨w.heap.size, 0, none⟩), .pointer (some ⟨w.heap.size + 1, 0, none⟩)]) (by simp) (by simp [go_sem]) ?_
  refine (catch_idle w.heap.size _).mono ?_
  rintro e u' w'' ⟨rfl, rfl, rfl⟩
  exact read_leaves h t h2 h3 hQ
end

set_option maxRecDepth 20000 in
set_option maxHeartbeats 800000 in
theorem man_Read_sum (l : List UInt8) (hl : l.length ≤ 140737488351232) (ho : openL l = none) (w : World) :
    Calls Tryd.prog 11 #[.string (bs l)] w fun e w' => e = .returned (noMan 4) ∧ Below w.heap.size w w' := by
  have H := Lib.hid (crc_Open_no l hl ho)
  clear ho
  have hmf : ∀ (fn : Fn) (first cap : Array Value) (w : World), (Instr.makeFunc fn first cap).run Tryd.prog w = .ok (.func fn first cap) w := fun _ _ _ _ => rfl
  go_enter_defers Tryd.func11, Tryd.ntmps11
  go_wp2_with (first
    | (go_at_call 29; refine (H.out _).mono ?_; rintro e w1 ⟨rfl, hb1⟩; have h := ResW.start hb1; have a0 := h.cell0; have a1 := h.cell1; have a2 := h.cellE; have b0 := h.free0; have b1 := h.free1; have b2 := h.freeE))
  have h' := ((h.set0 (.int .i64 0)).set1 (.slice none 0 0)).setE (.int .i64 4)
  exact door_ok h' _ rfl rfl ⟨rfl, h'.bel⟩

theorem ReadW.start {w w1 : World} (h : ResW w (.int .i64 0) (.slice none 0 0) (.int .i64 0) w1) (d : List UInt8) : ReadW w w1.heap.size 0 (.slice none 0 0) d [] (w1.alloc (.cells #[.string (bs d)] 61)) := by
  have hl := lt_of_block h.he
  refine ⟨hl, ?_, ?_, heap_alloc_new w1 _, World.ownsRow_nil _ _ _ _, h.bel.alloc h.bel.size _⟩
  · rw [Below.heap_alloc _ _ _ (by omega)]; exact h.hm
  · rw [Below.heap_alloc _ _ _ hl]; exact h.he

theorem ReadW.grown {w : World} {R : Nat} {v : Int} {sv : Value} {s : List UInt8} {xs : List SegD} {wr w1 : World} (h : ReadW w R v sv s xs wr) (hg : wr.grownBy w1 sv.ownBlock) :
    w1.cell? ⟨w.heap.size, 1, none⟩ = some sv ∧ w1.frozen? ⟨w.heap.size, 1, none⟩ = false := by
  have hR := h.rlt
  have hl := h.lt
  have b0 := (hg.block w.heap.size (by omega) (fun e => by have := (h.own.lt _ e.symm).1; omega)).trans h.hm
  exact ⟨cell_of_row w1 _ 1 _ _ _ b0, frozen_of_row w1 _ 1 _ _ b0⟩
theorem ReadW.app1 {w : World} {R : Nat} {v : Int} {sv : Value} {s : List UInt8} {xs : List SegD} {wr w1 : World} {v' : Value} {a b c : Int} {n : Nat} (hc : c = (n : Int)) (h : ReadW w R v sv s xs wr) (ho : w1.ownsRow (R + 1) 46 3 v' (xs.length + 1) (xs.flatMap SegD.vals ++ [.int .i64 a, .int .i64 b, .int .u32 c])) (hg : wr.grownBy w1 sv.ownBlock) :
    ReadW w R v v' s (xs ++ [⟨a, b, n⟩]) (w1.setCell ⟨w.heap.size, 1, none⟩ v') := by
  refine h.app ?_ hg
  subst hc
  simpa [SegD.vals] using ho
theorem seg_info : (Tryd.prog.info? 46).map (fun i => (i.zero, i.size, i.bytes)) = some (some (.agg #[.int .i64 0, .int .i64 0, .int .u32 0]), 3, 24) := by kernel_rfl
theorem cell_three_new (w : World) (a b c : Value) (t : TypeId) : ∀ j u, [a, b, c][j]? = some u → (w.alloc (.cells #[a, b, c] t)).cell? ((⟨w.heap.size, 0, none⟩ : Addr).add j) = some u := by
  intro j u hj
  match j, hj with
  | 0, hj => simp at hj; subst hj; simp [Addr.add]
  | 1, hj => simp at hj; subst hj; simp [Addr.add]
  | 2, hj => simp at hj; subst hj; simp [Addr.add]
  | j + 3, hj => simp at hj

def ReadOut (w : World) (po : Option (Nat × List SegD)) (e : Ending) (w' : World) : Prop :=
  Below w.heap.size w w' ∧ match po with
    | none => e = .returned (noMan 2)
    | some (v, xs) => ∃ a c, e = .returned (.tuple #[.agg #[.int .i64 (v : Int), .slice a xs.length c], .int .i64 0]) ∧ SegsIn w' a xs

def ReadRel (w : World) (R : Nat) (v m : Nat) (po : Option (Nat × List SegD)) (iv : Value) (wr : World) : Prop :=
  ∃ (k : Nat) (sv : Value) (s : List UInt8) (ys : List SegD), iv = .int .i64 k ∧ k ≤ m ∧ ys.length = k ∧ s.length ≤ 140737488351232 ∧ ReadW w R v sv s ys wr ∧ (∀ s ∈ ys, s.fits) ∧
    po = (parseSegs (m - k) s).bind fun r => if r.2 = [] ∧ rightB (v : Int) (ys ++ r.1) = true then some (v, ys ++ r.1) else none

set_option maxRecDepth 20000 in
set_option maxHeartbeats 3200000 in
theorem man_Read_parse (l d : List UInt8) (hl : l.length ≤ 140737488351232) (ho : openL l = some d) (w : World) :
    Calls Tryd.prog 11 #[.string (bs l)] w (ReadOut w (parseMan d)) := by
  have H := Lib.hid (crc_Open_ok l d hl ho)
  have hdl : d.length ≤ 140737488351232 := by
    unfold openL at ho; split at ho
    · cases ho; simp; omega
    · cases ho
  clear ho hl
  have hmf : ∀ (fn : Fn) (first cap : Array Value) (w : World), (Instr.makeFunc fn first cap).run Tryd.prog w = .ok (.func fn first cap) w := fun _ _ _ _ => rfl
  generalize hpo : parseMan d = po
  rcases h1 : takeN 999999 d with _ | ⟨v, d1⟩
  · have hpn : po = none := by rw [← hpo, parseMan, h1]; rfl
    subst hpn
    have Hpo := Lib.hid hpo; clear hpo
    have H1 := Lib.hid h1; clear h1
    go_enter_defers Tryd.func11, Tryd.ntmps11
    go_wp2_with (first
      | (go_at_call 29; refine (H.out _).mono ?_; rintro e w1 ⟨rfl, hb1⟩; have h := ResW.start hb1)
      | (go_at_call 30; refine (take_badW 999999 hdl H1.out (ReadW.start h d)).mono ?_; rintro e w2 ⟨rfl, hr⟩))
    exact door_bad hr.res _ rfl rfl (fun w' hb => ⟨hb, rfl⟩)
  · have hv : v ≤ 999999 := (takeN_some h1).2
    have hd1 := takeN_len h1
    rcases h2 : takeN 200 d1 with _ | ⟨m, d2⟩
    · have hpn : po = none := by rw [← hpo, parseMan, h1]; simp [h2]
      subst hpn
      have Hpo := Lib.hid hpo; clear hpo
      have H1 := Lib.hid h1; clear h1
      have H2 := Lib.hid h2; clear h2
      have qv : IntKind.i64.wrap (v : Int) = (v : Int) := IntWalk.i64_in _ (by omega)
      go_enter_defers Tryd.func11, Tryd.ntmps11
      go_wp2_with (first
        | (go_at_call 29; refine (H.out _).mono ?_; rintro e w1 ⟨rfl, hb1⟩; have h := ResW.start hb1)
        | (go_at_call 30; refine (take_badW 200 (by omega) H2.out (hr.setV v)).mono ?_; rintro e w3 ⟨rfl, hr3⟩)
        | (go_at_call 30; refine (take_okW 999999 v d1 hdl H1.out (ReadW.start h d)).mono ?_; rintro e w2 ⟨rfl, hr⟩; have c0 := hr.cell0; have f0 := hr.free0))
      exact door_bad hr3.res _ rfl rfl (fun w' hb => ⟨hb, rfl⟩)
    · have hm : m ≤ 200 := (takeN_some h2).2
      have hd2 := takeN_len h2
      have hpp : po = (parseSegs m d2).bind fun r => if r.2 = [] ∧ rightB (v : Int) ([] ++ r.1) = true then some (v, [] ++ r.1) else none := by rw [← hpo, parseMan, h1]; simp [h2]
      have Hpp := Lib.hid hpp; clear hpp hpo
      have H1 := Lib.hid h1; clear h1
      have H2 := Lib.hid h2; clear h2
      have qv : IntKind.i64.wrap (v : Int) = (v : Int) := IntWalk.i64_in _ (by omega)
      have qm : IntKind.i64.wrap (m : Int) = (m : Int) := IntWalk.i64_in _ (by omega)
      go_enter_defers Tryd.func11, Tryd.ntmps11
      go_wp2_with (first
        | (go_at_call 29; refine (H.out _).mono ?_; rintro e w1 ⟨rfl, hb1⟩; have h := ResW.start hb1)
        | (go_at_call 30; refine (take_okW 200 m d2 (by omega) H2.out (hr.setV v)).mono ?_; rintro e w3 ⟨rfl, hr3⟩)
        | (go_at_call 30; refine (take_okW 999999 v d1 hdl H1.out (ReadW.start h d)).mono ?_; rintro e w2 ⟨rfl, hr⟩; have c0 := hr.cell0; have f0 := hr.free0))
      go_loopw [29] (ReadRel w w1.heap.size v m po) (fun i _ => m - (intOf i).toNat)
      case atStart => exact ⟨0, _, d2, [], rfl, by omega, rfl, by omega, hr3, fun s h => absurd h (by simp), Hpp.out⟩
      case round =>
        clear hr3 hr c0 f0 h Hpp
        obtain ⟨k, sv, s, ys, rfl, hk, hyl, hsl, hr, hfit, hpo⟩ := hrel
        generalize w1.heap.size = R at *
        have hdq : ¬ (m : Int) < 0 := by omega
        by_cases hkm : k < m
        · have hj : m - k = (m - (k + 1)) + 1 := by omega
          rw [hj, parseSegs] at hpo
          rcases g1 : takeN 999999 s with _ | ⟨n1, s1⟩
          · have hpn : po = none := by rw [hpo, g1]; rfl
            subst hpn
            have G1 := Lib.hid g1; clear g1 hpo
            go_wp2_with (first
              | (go_at_call 30; refine (take_badW 999999 hsl G1.out hr).mono ?_; rintro e w2 ⟨rfl, hr2⟩))
            exact door_bad hr2.res _ rfl rfl (fun w' hb => ⟨hb, rfl⟩)
          · have l1 := takeN_len g1
            have b1 := (takeN_some g1).2
            rcases g2 : takeN 1048576 s1 with _ | ⟨n2, s2⟩
            · have hpn : po = none := by rw [hpo, g1]; simp [g2]
              subst hpn
              have G1 := Lib.hid g1; have G2 := Lib.hid g2; clear g1 g2 hpo
              go_wp2_with (first
                | (go_at_call 30; refine (take_badW 1048576 (by omega) G2.out hr2).mono ?_; rintro e w2 ⟨rfl, hr3⟩)
                | (go_at_call 30; refine (take_okW 999999 n1 s1 hsl G1.out hr).mono ?_; rintro e w2 ⟨rfl, hr2⟩))
              exact door_bad hr3.res _ rfl rfl (fun w' hb => ⟨hb, rfl⟩)
            · have l2 := takeN_len g2
              have b2 := (takeN_some g2).2
              rcases g3 : takeN 4294967295 s2 with _ | ⟨n3, s3⟩
              · have hpn : po = none := by rw [hpo, g1]; simp [g2, g3]
                subst hpn
                have G1 := Lib.hid g1; have G2 := Lib.hid g2; have G3 := Lib.hid g3; clear g1 g2 g3 hpo
                go_wp2_with (first
                  | (go_at_call 30; refine (take_badW 4294967295 (by omega) G3.out hr3).mono ?_; rintro e w2 ⟨rfl, hr4⟩)
                  | (go_at_call 30; refine (take_okW 1048576 n2 s2 (by omega) G2.out hr2).mono ?_; rintro e w2 ⟨rfl, hr3⟩)
                  | (go_at_call 30; refine (take_okW 999999 n1 s1 hsl G1.out hr).mono ?_; rintro e w2 ⟨rfl, hr2⟩))
                exact door_bad hr4.res _ rfl rfl (fun w' hb => ⟨hb, rfl⟩)
              · have l3 := takeN_len g3
                have b3 := (takeN_some g3).2
                have hpn : po = (parseSegs (m - (k + 1)) s3).bind fun r => if r.2 = [] ∧ rightB (v : Int) ((ys ++ [⟨(n1 : Int), (n2 : Int), n3⟩]) ++ r.1) = true then some (v, (ys ++ [⟨(n1 : Int), (n2 : Int), n3⟩]) ++ r.1) else none := by
                  rw [hpo, g1]
                  simp only [Option.bind_some, g2, g3, Option.bind_map, List.append_assoc, List.cons_append, List.nil_append]
                  rfl
                have Hpn := Lib.hid hpn; clear hpn
                have hfit' : ∀ s ∈ ys ++ [(⟨(n1 : Int), (n2 : Int), n3⟩ : SegD)], s.fits := by
                  intro s hs
                  rcases List.mem_append.1 hs with hs | hs
                  · exact hfit s hs
                  · simp at hs; subst hs; exact ⟨⟨by simp only; omega, by simp only; omega⟩, ⟨by simp only; omega, by simp only; omega⟩, by simp only; omega⟩
                have Hfit := Lib.hid hfit'
                have G1 := Lib.hid g1; have G2 := Lib.hid g2; have G3 := Lib.hid g3; clear g1 g2 g3 hpo hfit hfit'
                obtain ⟨i0, hi, hz0, hz1, hz2⟩ := info_parts seg_info
                have q1 : IntKind.i64.wrap (n1 : Int) = (n1 : Int) := IntWalk.i64_in _ (by omega)
                have q2 : IntKind.i64.wrap (n2 : Int) = (n2 : Int) := IntWalk.i64_in _ (by omega)
                have q3 : IntKind.u32.wrap (n3 : Int) = (n3 : Int) := by rw [IntKind.wrap_u32]; omega
                go_wp2_with (first
                  | (at_builtin; refine wpList_append_own _ rfl _ _ 22 rfl (R + 1) 46 i0 (.agg #[.int .i64 0, .int .i64 0, .int .u32 0]) 3 24 Tryd.underlying22 hi hz0 hz1 hz2 rfl (by decide) _ ys.length (ys.flatMap SegD.vals) rfl (hr4.own.alloc _) ⟨w4.heap.size, 0, none⟩ 1 1 [.int .i64 n1, .int .i64 n2, .int .u32 n3] rfl rfl ?c1 ?c2 ?c3 ?c4 ?c5 ?_)
                  | (go_at_call 30; refine (take_okW 4294967295 n3 s3 (by omega) G3.out hr3).mono ?_; rintro e w4 ⟨rfl, hr4⟩; have c0 := hr4.cell1; have f0 := hr4.free1)
                  | (go_at_call 30; refine (take_okW 1048576 n2 s2 (by omega) G2.out hr2).mono ?_; rintro e w2 ⟨rfl, hr3⟩)
                  | (go_at_call 30; refine (take_okW 999999 n1 s1 hsl G1.out hr).mono ?_; rintro e w2 ⟨rfl, hr2⟩))
                case c1 => exact cell_three_new _ _ _ _ _
                case c2 => intro u hu; simp at hu; rcases hu with rfl | rfl | rfl <;> rfl
                case c3 => unfold maxLen; omega
                case c4 => omega
                case c5 => have := hr4.rlt; simp; omega
                · intro v' w5 hown' hgrow _
                  obtain ⟨d0, e0⟩ := (hr4.alloc _).grown hgrow
                  rw [← hyl] at hown'
                  have hr5 := (hr4.alloc _).app1 rfl hown' hgrow
                  obtain ⟨a', c', hv'⟩ := hr5.ofOwn
                  simp only [List.length_append, List.length_singleton, hyl] at hv'
                  subst hv'
                  clear hown' hgrow c0 f0
                  go_wp2_with fail
                  go_roundw
                  case rel => exact ⟨k + 1, _, s3, _, by go_num, by omega, by simp; omega, by omega, hr5, Hfit.out, Hpn.out⟩
                  case measure => simp [intOf]; omega
        · obtain rfl : k = m := by omega
          subst hyl
          rw [Nat.sub_self, parseSegs, Option.bind_some] at hpo
          simp only [List.append_nil] at hpo
          have Hfit := Lib.hid hfit; clear hfit
          obtain ⟨a, c, hsv⟩ := hr.ofOwn
          have c0 := hr.cell0
          have c1 := hr.cell1
          have cR := hr.cellR
          subst hsv
          by_cases hs : s = []
          · subst hs
            cases hrb : rightB (v : Int) ys
            · have hpn : po = none := by rw [hpo, hrb]; rfl
              subst hpn
              have H4 := fun W (ha : SegsIn W a ys) => (hrb ▸ man_Right W v a c ys (by omega) ha : Calls Tryd.prog _ _ _ fun e w' => e = .returned (.bool false) ∧ _)
              have H5 := Lib.hid H4; clear hpo hrb H4
              go_wp2_with (first
                | (go_at_call 14; refine (H5.out _ (SegsIn.ofOwn hr.own Hfit.out)).mono ?_; rintro e w2 ⟨rfl, hb2⟩)
                | (go_at_call 31; refine (must_false _).mono ?_; rintro e w2 ⟨rfl, rfl⟩))
              exact door_bad (hr.below hb2).res _ rfl rfl (fun w' hb => ⟨hb, rfl⟩)
            · have hpn : po = some (v, ys) := by rw [hpo, hrb]; rfl
              subst hpn
              have H4 := fun W (ha : SegsIn W a ys) => (hrb ▸ man_Right W v a c ys (by omega) ha : Calls Tryd.prog _ _ _ fun e w' => e = .returned (.bool true) ∧ _)
              have H5 := Lib.hid H4; clear hpo hrb H4
              go_wp2_with (first
                | (go_at_call 14; refine (H5.out _ (SegsIn.ofOwn hr.own Hfit.out)).mono ?_; rintro e w2 ⟨rfl, hb2⟩; have h6 := (hr.below hb2).res; have a0 := h6.cell0; have a1 := h6.cell1; have a2 := h6.cellE; have b0 := h6.free0; have b1 := h6.free1; have b2 := h6.freeE)
                | (go_at_call 31; refine (must_true _).mono ?_; rintro e w2 ⟨rfl, rfl⟩))
              have h7 := ((h6.set0 (.int .i64 v)).set1 (.slice a ys.length c)).setE (.int .i64 0)
              refine door_ok h7 _ rfl rfl ⟨h7.bel, a, c, rfl, ?_⟩
              have hl := hr.lt
              exact SegsIn.ofOwn (ownsRow_setCell_below (ownsRow_setCell_below (ownsRow_setCell_below (hr.below hb2).own (by simp; omega) _) (by simp; omega) _) (by simp; omega) _) Hfit.out
          · have hsb : (s == []) = false := by simpa using hs
            have hpn : po = none := by rw [hpo]; simp [hs]
            subst hpn
            clear hpo hs
            go_wp2_with (first
              | (go_at_call 31; refine (must_false _).mono ?_; rintro e w2 ⟨rfl, rfl⟩))
            exact door_bad hr.res _ rfl rfl (fun w' hb => ⟨hb, rfl⟩)
end Go.Proofs.YtllaflgcladgoaaDoor
