/- thwartlaw10.KeydirHomes: the walk -/
import Derived.Test.YtdllmflhgbponaaKdO
namespace Go.Proofs.Ytdllmflhgbponaa
open Go Go.RowKit Go.Thw Go.Shelf

structure HomeW (w : World) (d S : Nat) (M : List Ent) (N k : Nat) (wr : World) : Prop where
  D : DirAt wr d S M N
  m : M.length ≤ k
  n : N ≤ 8 + 4 * k
  b : Below w.heap.size w wr
  d : w.heap.size ≤ d
  s : w.heap.size ≤ S
theorem HomeW.below {w wr w' : World} {d S N k : Nat} {M : List Ent} (h : HomeW w d S M N k wr) (hb : Below wr.heap.size wr w') : HomeW w d S M N k w' := ⟨h.D.below hb, h.m, h.n, h.b.trans (hb.mono h.b.size), h.d, h.s⟩
theorem ins_len (k : List UInt8) (l : LocD) (M : List Ent) : (insM k l M).length ≤ M.length + 1 := by
  induction M with
  | nil => simp [insM]
  | cons x r ih =>
    unfold insM
    split
    · simp
    · split
      · simp
      · simp only [List.length_cons]; omega
theorem HomeW.put {w wr w' : World} {d S N k : Nat} {M : List Ent} {key : List UInt8} {l : LocD} (h : HomeW w d S M N k wr) (hp : PutOut wr d S N key l M w') (hF : Frm (fun b => b = d ∨ b = S) wr w') : ∃ S' M' N', HomeW w d S' M' N' (k + 1) w' := by
  obtain ⟨S', N', h1, h2, h3⟩ := hp
  have := ins_len key l M
  have hm := h.m
  have hn := h.n
  have hd := h.d
  have hs := h.s
  have hz := h.b.size
  exact ⟨S', _, N', h1, by omega, by omega, h.b.trans (hF.below hz (fun j hj e => by omega)), h.d, by omega⟩
theorem HomeW.del {w wr w' : World} {d S N k : Nat} {M : List Ent} {key : List UInt8} (h : HomeW w d S M N k wr) (h1 : DirAt w' d S (delM key M) N) (hF : Frm (fun b => b = d ∨ b = S) wr w') : ∃ S' M' N', HomeW w d S' M' N' (k + 1) w' := by
  have := List.length_filter_le (fun x : Ent => !(x.1 == key)) M
  have hm := h.m
  have hn := h.n
  have hd := h.d
  have hs := h.s
  exact ⟨S, _, N, h1, by unfold delM; omega, by omega, h.b.trans (hF.below h.b.size (fun j hj e => by omega)), h.d, h.s⟩

theorem far_forms {M : List Ent} {N : Nat} {k : List UInt8} {e : Ending} (h : FarOut M N k e) (hN : 8 ≤ N) : ∃ (n : Nat) (t : Bool), e = .returned (.tuple #[.int .i64 n, .bool t]) ∧ n < N ∧ (t = true → n < M.length) ∧ (t = false → n = 0) := by
  rcases h with ⟨_, rfl⟩ | ⟨_, n, h1, h2, rfl⟩
  · exact ⟨0, false, rfl, by omega, by simp, by simp⟩
  · exact ⟨n, true, rfl, h1, fun _ => h2, by simp⟩
set_option maxRecDepth 100000 in
set_option maxHeartbeats 2000000 in
theorem homes_walk (w : World) (a : Option Addr) (c : Nat) (xs : List OpD) (ha : OpsIn w a xs) :
    Calls Try.prog 3 #[.slice a xs.length c] w fun e w' => e = .returned (.bool true) ∧ Below w.heap.size w w' := by
  have hmix : Try.prog.follows .mixedOrders = true := by kernel_rfl
  have HA := Lib.hid (fun W => law_awake W)
  have HL := Lib.hid (fun (W : World) (h : OpsIn W a xs) => law_light W a c xs h)
  have HNew := Lib.hid (fun W => kd_New W)
  go_enter Try.func3, Try.ntmps3
  go_upto_region 4 with (first
    | (go_at_call 6; refine (HNew.out _).mono ?_; rintro e w3 ⟨rfl, hD3, hb3⟩)
    | (go_at_call 5; refine (HL.out _ (ha.below hb1)).mono ?_; rintro e w2 ⟨⟨t, rfl, ht⟩, rfl⟩)
    | (go_at_call 4; refine (HA.out _).mono ?_; rintro e w1 ⟨rfl, hb1⟩))
  cases t with
  | false =>
    go_wp2_with fail
    go_ret
    exact ⟨by trivial, hb1.trans (hb3.mono hb1.size)⟩
  | true =>
    obtain ⟨hx1, hx2⟩ := ht rfl
    have hH : HomeW w (w1.heap.size + 1) w1.heap.size [] 8 0 w3 := ⟨hD3, by simp, by omega, hb1.trans (hb3.mono hb1.size), by have := hb1.size; omega, hb1.size⟩
    clear hD3 hb3 hb1 ht
    generalize w1.heap.size + 1 = d at *
    generalize w1.heap.size = S0 at *
    go_wp2_with fail
    go_loopw [6] (fun i wr => ∃ (k S : Nat) (M : List Ent) (N : Nat), k ≤ xs.length ∧ i = .int .i64 k ∧ HomeW w d S M N k wr) (fun i _ => xs.length - (intOf i).toNat)
    case atStart => exact ⟨0, S0, [], 8, by omega, rfl, hH⟩
    case round =>
      obtain ⟨k, S, M, N, hk, rfl, hst⟩ := hrel
      clear hH
      by_cases h : k < xs.length
      · obtain ⟨b, o, rfl, hlt, g1, g2, g3, g4, g5, g6⟩ := ha.at_ k h
        have hkey := hx2 _ (List.getElem_mem h)
        have HX := Lib.hid hx2
        have HL1 := Lib.hid (show k + 1 ≤ xs.length ∧ k ≤ 150 from ⟨h, by omega⟩)
        clear hx2
        generalize xs[k] = x at *
        obtain ⟨Do, key, l⟩ := x
        simp only at g1 g2 g3 g4 g5 g6 hkey
        have HK := Lib.hid (fun (W : World) (hb : Below w.heap.size w W) => And.intro ((hb.cell (p := ⟨b, _, none⟩) hlt).trans g1) (And.intro ((hb.cell (p := ⟨b, _, none⟩) hlt).trans g2) (And.intro ((hb.cell (p := ⟨b, _, none⟩) hlt).trans g3) (And.intro ((hb.cell (p := ⟨b, _, none⟩) hlt).trans g4) (And.intro ((hb.cell (p := ⟨b, _, none⟩) hlt).trans g5) ((hb.cell (p := ⟨b, _, none⟩) hlt).trans g6))))))
        obtain ⟨e1, e2, e3, e4, e5, e6⟩ := HK.out _ hst.b
        clear g1 g2 g3 g4 g5 g6 ha HL HA HNew
        have HF := Lib.hid (fun W S M N (hD : HomeW w d S M N (k + 1) W) => kd_Far key (by omega) W d S N M hD.D (by have := hD.n; have := HL1.out; omega))
        by_cases hDo : Do = 4
        · subst hDo
          have HDel := Lib.hid (kd_Delete key (by omega) _ _ _ _ _ hst.D (by have := hst.n; have := HL1.out; omega))
          go_upto_region 13 with (first
            | (go_at_call 9; refine (HF.out _ _ _ _ h4).mono ?_; rintro e w5 ⟨hf, hb5⟩; have h5 := h4.below hb5; obtain ⟨n, t, rfl, hn1, hn2, hn3⟩ := far_forms hf h4.D.room.2)
            | (go_at_call 7; refine HDel.out.mono ?_; rintro e w4 ⟨rfl, hD4, hF4⟩; obtain ⟨S', M', N', h4⟩ := hst.del hD4 hF4; obtain ⟨-, f2, -, -, -, -⟩ := HK.out _ h4.b))
          have q1 : decide ((N' : Int) ≤ (n : Int)) = false := by simp; omega
          have q0 : decide ((n : Int) < 0) = false := by simp
          have q1' : (n : Int) < (N' : Int) := by omega
          have HC := Lib.hid (kd_Cap _ _ _ _ _ h5.D (by have := h5.n; have := HL1.out; omega))
          have HN := Lib.hid (kd_Len _ _ _ _ _ h5.D)
          have hn1' := Lib.hid hn1
          clear hn1
          cases t with
          | true =>
            have hn2' := hn2 rfl
            have q2 : decide ((M'.length : Int) ≤ (n : Int)) = false := by simp; omega
            have q2' : (n : Int) < (M'.length : Int) := by omega
            clear hn2 hn3 hn2'
            have HH := Lib.hid h5
            clear h5 h4
            go_wp2_with (first
              | (go_at_call 10; refine HC.out.mono ?_; rintro e w7 ⟨rfl, rfl⟩)
              | (go_at_call 11; refine HN.out.mono ?_; rintro e w7 ⟨rfl, rfl⟩))
            go_roundw
            case rel => exact ⟨k + 1, S', M', N', HL1.out.1, by simp, HH.out⟩
            case measure => have := HL1.out.1; simp [intOf]; omega
          | false =>
            obtain rfl := hn3 rfl
            clear hn2 hn3
            simp only [Int.natCast_zero] at q1 q1' q0
            have HH := Lib.hid h5
            clear h5 h4
            go_wp2_with (first
              | (go_at_call 10; refine HC.out.mono ?_; rintro e w7 ⟨rfl, rfl⟩)
              | (go_at_call 11; refine HN.out.mono ?_; rintro e w7 ⟨rfl, rfl⟩))
            go_roundw
            case rel => exact ⟨k + 1, S', M', N', HL1.out.1, by simp, HH.out⟩
            case measure => have := HL1.out.1; simp [intOf]; omega
        · have hDo' : (Do == 4) = false := by simpa using hDo
          have HPut := Lib.hid (fun W (h : HomeW w d S M N k W) => kd_Put key l (by omega) W d S N M h.D (by have := h.n; have := HL1.out; omega))
          go_upto_region 11 with fail
          have z2 := Amid.cell e2
          have z3 := Amid.cell e3
          have z4 := Amid.cell e4
          have z5 := Amid.cell e5
          have z6 := Amid.cell e6
          refine wp_amid_tail 11 (by kernel_rfl) (by kernel_rfl) ?_
          simp only [List.take_succ_cons, List.take_zero, List.drop_succ_cons, List.drop_zero]
          repeat (quiet_step (fail))
          refine wpQuiet_nil ?_
          rintro _ ⟨p, rfl⟩
          have h3 := hst.below p.h
          go_upto_region 13 with (first
            | (go_at_call 9; refine (HF.out _ _ _ _ h4).mono ?_; rintro e w5 ⟨hf, hb5⟩; have h5 := h4.below hb5; obtain ⟨n, t, rfl, hn1, hn2, hn3⟩ := far_forms hf h4.D.room.2)
            | (go_at_call 8; refine (HPut.out _ h3).mono ?_; rintro e w4 ⟨rfl, hD4, hF4⟩; obtain ⟨S', M', N', h4⟩ := h3.put hD4 hF4; obtain ⟨-, f2, -, -, -, -⟩ := HK.out _ h4.b))
          have q1 : decide ((N' : Int) ≤ (n : Int)) = false := by simp; omega
          have q0 : decide ((n : Int) < 0) = false := by simp
          have q1' : (n : Int) < (N' : Int) := by omega
          have HC := Lib.hid (kd_Cap _ _ _ _ _ h5.D (by have := h5.n; have := HL1.out; omega))
          have HN := Lib.hid (kd_Len _ _ _ _ _ h5.D)
          have hn1' := Lib.hid hn1
          clear hn1
          cases t with
          | true =>
            have hn2' := hn2 rfl
            have q2 : decide ((M'.length : Int) ≤ (n : Int)) = false := by simp; omega
            have q2' : (n : Int) < (M'.length : Int) := by omega
            clear hn2 hn3 hn2'
            have HH := Lib.hid h5
            clear h5 h4
            go_wp2_with (first
              | (go_at_call 10; refine HC.out.mono ?_; rintro e w7 ⟨rfl, rfl⟩)
              | (go_at_call 11; refine HN.out.mono ?_; rintro e w7 ⟨rfl, rfl⟩))
            go_roundw
            case rel => exact ⟨k + 1, S', M', N', HL1.out.1, by simp, HH.out⟩
            case measure => have := HL1.out.1; simp [intOf]; omega
          | false =>
            obtain rfl := hn3 rfl
            clear hn2 hn3
            simp only [Int.natCast_zero] at q1 q1' q0
            have HH := Lib.hid h5
            clear h5 h4
            go_wp2_with (first
              | (go_at_call 10; refine HC.out.mono ?_; rintro e w7 ⟨rfl, rfl⟩)
              | (go_at_call 11; refine HN.out.mono ?_; rintro e w7 ⟨rfl, rfl⟩))
            go_roundw
            case rel => exact ⟨k + 1, S', M', N', HL1.out.1, by simp, HH.out⟩
            case measure => have := HL1.out.1; simp [intOf]; omega
      · obtain rfl : k = xs.length := by omega
        have hb := Lib.hid hst.b
        go_wp2_with fail
        go_ret
        exact ⟨by trivial, hb.out⟩
end Go.Proofs.Ytdllmflhgbponaa
