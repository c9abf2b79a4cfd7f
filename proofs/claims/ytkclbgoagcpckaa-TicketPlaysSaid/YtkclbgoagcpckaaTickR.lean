import Derived.Test.YtkclbgoagcpckaaTickQ
import Derived.Test.YtkclbgoagcpckaaTickP
namespace Go.Proofs.Ytkclbgoagcpckaa
open Go.RowKit

theorem three_arr (W2 : World) (k : Nat) : Arr (((W2.alloc (.cells (madeCells #[.int .i64 0] k) 3)).alloc (.cells (madeCells #[.int .i64 0] k) 3)).alloc (.cells (madeCells #[.int .i64 0] k) 3)).drew W2.heap.size k (fun _ => .int .i64 0) 3 ∧
    Arr (((W2.alloc (.cells (madeCells #[.int .i64 0] k) 3)).alloc (.cells (madeCells #[.int .i64 0] k) 3)).alloc (.cells (madeCells #[.int .i64 0] k) 3)).drew (W2.heap.size + 1) k (fun _ => .int .i64 0) 3 ∧
    Arr (((W2.alloc (.cells (madeCells #[.int .i64 0] k) 3)).alloc (.cells (madeCells #[.int .i64 0] k) 3)).alloc (.cells (madeCells #[.int .i64 0] k) 3)).drew (W2.heap.size + 1 + 1) k (fun _ => .int .i64 0) 3 ∧
    Fr (fun _ => False) W2 (((W2.alloc (.cells (madeCells #[.int .i64 0] k) 3)).alloc (.cells (madeCells #[.int .i64 0] k) 3)).alloc (.cells (madeCells #[.int .i64 0] k) 3)).drew :=
  ⟨(((Arr.at_new _ _ rfl).alloc _).alloc _).drew, ((Arr.at_new _ _ (by simp)).alloc _).drew, (Arr.at_new _ _ (by simp)).drew, ((((Fr.refl _ _).alloc _).alloc _).alloc _).drew⟩
theorem bs2_int (j : Nat) : (1 : Int) + 2 * ((j : Int) % 2) = (bs2 j : Nat) := by unfold bs2; omega

theorem zeros4 {w : World} {b : Nat} (h : Blk w b #[.int .i64 0, .int .i64 0, .int .i64 0, .int .i64 0] 36) : Arr w b 4 (fun _ => .int .i64 0) 36 :=
  ⟨_, h, rfl, fun i hi => by match i, hi with | 0, _ => rfl | 1, _ => rfl | 2, _ => rfl | 3, _ => rfl⟩

theorem wp_last {P : Program} {c : Code} {K : Act → World → Prop} {Q : Exit → Act → World → Prop} {id : Nat} {a : Act} {w : World} (h : c.wp P (Exit.then K (Exit.inBlock id (Exit.then K Q))) a w) : c.wp P (Exit.inBlock id (Exit.then K Q)) a w :=
  Code.wp_mono (fun e a w h => by cases e <;> exact h) h
theorem stop_store {wc : World} {bw : Nat} (b : Blk wc bw #[.int .i64 0, .int .i64 0] 40) (p q : Int) :
    Blk ((wc.setCell ⟨bw, 0, none⟩ (.int .i64 p)).setCell ⟨bw, 1, none⟩ (.int .i64 q)) bw #[.int .i64 p, .int .i64 q] 40 ∧ Fr (fun k => k = bw) wc ((wc.setCell ⟨bw, 0, none⟩ (.int .i64 p)).setCell ⟨bw, 1, none⟩ (.int .i64 q)) :=
  ⟨(b.set 0 (.int .i64 p)).set 1 (.int .i64 q), (Fr.set1 _ _ _ _).trans (Fr.set1 _ _ _ _)⟩
theorem wadd_one (n : Int) (h : 0 ≤ n ∧ n ≤ 1000) : wadd n 1 = n + 1 := by unfold wadd wrap64; omega

theorem bd_upd {V : Nat → Int} {c : Int} (h : ∀ q, 0 ≤ V q ∧ V q ≤ c) (hc : c ≤ 60) (a : Nat) : ∀ q, 0 ≤ upd V a (wadd (V a) 1) q ∧ upd V a (wadd (V a) 1) q ≤ c + 1 := fun q => by
  have h0 := h q
  have h1 := h a
  rw [wadd_one _ (by omega)]
  simp only [upd]
  split <;> omega
theorem hn_turn {nx tr V : Nat → Int} (h : nx 1 = V 1 ∧ nx 3 = V 3 ∧ tr 1 = V 2 ∧ tr 3 = V 4) (j : Nat) (hV : 0 ≤ V (bs2 j + 1) ∧ V (bs2 j + 1) ≤ 60) :
    nx 1 = upd V (bs2 j + 1) (wadd (V (bs2 j + 1)) 1) 1 ∧ nx 3 = upd V (bs2 j + 1) (wadd (V (bs2 j + 1)) 1) 3 ∧ upd tr (bs2 j) (tr (bs2 j) + 1) 1 = upd V (bs2 j + 1) (wadd (V (bs2 j + 1)) 1) 2 ∧ upd tr (bs2 j) (tr (bs2 j) + 1) 3 = upd V (bs2 j + 1) (wadd (V (bs2 j + 1)) 1) 4 := by
  rw [wadd_one _ (by omega)]
  obtain ⟨h1, h2, h3, h4⟩ := h
  rcases bs2_bd j with e | e <;> rw [e] <;> simp [upd, h1, h2, h3, h4]
theorem hn_next {nx tr V : Nat → Int} (h : nx 1 = V 1 ∧ nx 3 = V 3 ∧ tr 1 = V 2 ∧ tr 3 = V 4) (j : Nat) (hV : 0 ≤ V (bs2 j) ∧ V (bs2 j) ≤ 60) :
    upd nx (bs2 j) (nx (bs2 j) + 1) 1 = upd V (bs2 j) (wadd (V (bs2 j)) 1) 1 ∧ upd nx (bs2 j) (nx (bs2 j) + 1) 3 = upd V (bs2 j) (wadd (V (bs2 j)) 1) 3 ∧ tr 1 = upd V (bs2 j) (wadd (V (bs2 j)) 1) 2 ∧ tr 3 = upd V (bs2 j) (wadd (V (bs2 j)) 1) 4 := by
  rw [wadd_one _ (by omega)]
  obtain ⟨h1, h2, h3, h4⟩ := h
  rcases bs2_bd j with e | e <;> rw [e] <;> simp [upd, h1, h2, h3, h4]
theorem PB.drew {k bm bt ba bk bb bn bu bl m : Nat} {v sl : Value} {at_ tk nx tr : Nat → Int} {w : World} (h : PB k bm bt ba bk bb bn bu bl m v sl at_ tk nx tr w) : PB k bm bt ba bk bb bn bu bl m v sl at_ tk nx tr w.drew := h.fr (Fr.refl (fun _ => False) w).drew (fun _ _ => id)
theorem PS.loaded {w0 : World} {m g k : Nat} {v : Value} {tb : Nat → Nat} {bm bt ba bk bb bn bu bl : Nat} {sl : Value} {V : Nat → Int} {c : Int} {at_ tk nx tr : Nat → Int} {w w' : World} (h : PS w0 m g k v tb bm bt ba bk bb bn bu bl sl V c at_ tk nx tr w) (D : PD w0 m g k v tb [bm, bt, ba, bk, bb, bn, bu, bl]) (f : Fr (fun x => x = m) w w') (M : Mem w' m g 6 V (c + 1)) :
    PS w0 m g k v tb bm bt ba bk bb bn bu bl sl V (c + 1) at_ tk nx tr w' := by
  have b := h.books.fr f (fun y hy e => (D.d y hy).2.1 e)
  exact ⟨⟨M, h.s.T.fr f (fun x hx e => (D.ap.v x hx).2.1 e) (fun j hj e => (D.ap.t j hj).1 e), h.s.F.step f (fun x hx e => by have := D.ap.m; omega)⟩, b.M, b.T, b.A, b.K, b.B, b.N, b.U, b.L, h.hn, fun j hj => by have := h.st j hj; omega, fun q => by have := h.bd q; omega⟩

/-- the number in a box -/
def cellNat (w : World) (t : Value) : Nat := match t with
  | .pointer (some a) => match w.cell? a with
    | some (.int _ x) => x.toNat
    | _ => 0
  | _ => 0
theorem cellNat_of {w : World} {b i : Nat} (h : Blk w b #[.int .i64 i] 3) : cellNat w (.pointer (some ⟨b, 0, none⟩)) = i := by
  unfold cellNat
  have := h.cell 0
  simp only [this]
  simp

/-- i deeds were done -/
def PlayRel (w0 : World) (m g k : Nat) (v : Value) (tb : Nat → Nat) (bm bt ba bk bb bn bu bl : Nat) (sl : Value) (len : Nat) (t15 t16 : Value) (w : World) : Prop :=
  ∃ (i bi : Nat) (V : Nat → Int) (c : Int) (at_ tk nx tr : Nat → Int), i ≤ 60 ∧ i ≤ len ∧ t15 = .int .i64 c ∧ t16 = .pointer (some ⟨bi, 0, none⟩) ∧ Blk w bi #[.int .i64 i] 3 ∧ PS w0 m g k v tb bm bt ba bk bb bn bu bl sl V c at_ tk nx tr w ∧
    0 ≤ c ∧ c ≤ i ∧ w0.heap.size ≤ bi ∧ bi ∉ [bm, bt, ba, bk, bb, bn, bu, bl] ∧ bi ≠ m ∧ bi ≠ g ∧ ¬ Of v bi ∧ ∀ j, j < k → bi ≠ tb j

set_option maxHeartbeats 8000000 in
set_option maxRecDepth 100000 in
theorem ticketPlays_walk (n : Int) (a : Option Addr) (len cap : Nat) (W : Nat → Nat → Value) (w : World) (wf : (Lit.int .i64 n).wf = true) (s : IsSl [.int .i64, .bool] w a len cap W) :
    Calls Try.prog 7 #[.int .i64 n, .slice a len cap] w fun e w' => e = .returned (.bool true) ∧ Below w.heap.size w w' := by
  obtain ⟨i0, hif, hz0, hz1, hz2⟩ := info_parts info_try
  have hmf : ∀ (fn : Fn) (first cap : Array Value) (w : World), (Instr.makeFunc fn first cap).run Try.prog w = .ok (.func fn first cap) w := fun _ _ _ _ => rfl
  have hw := fun w => within_any n 1 6 w (wf_i64 wf) (by omega) (by omega) (by omega)
  have hk := wth_bd (n := n) (lo := 1) (hi := 6) (by omega)
  obtain ⟨k, hk'⟩ : ∃ k : Nat, wth n 1 6 = k := ⟨(wth n 1 6).toNat, by omega⟩
  rw [hk'] at hw hk
  have hk1 : 1 ≤ k := by omega
  have hk2 : k ≤ 6 := by omega
  have HW := Lib.hid hw
  obtain ⟨K, X, hA⟩ := AsksT.of s
  have HA := Lib.hid hA
  have hmk := made_int k (by omega)
  clear hw s hA wf hk' hk
  go_enter Try.func7, Try.ntmps7
  go_wp2_with (go_at_call 19; (with_reducible refine (HW.out _).mono ?_); rintro e w' ⟨rfl, rfl⟩)
  refine (mem_new 6 (by omega) _).mono ?_
  rintro e w1 ⟨rfl, f1, M1⟩
  have HF1 := Lib.hid f1
  have HM1 := Lib.hid M1
  clear f1 M1 HW
  go_upto_region 6 with fail
  obtain ⟨W2, hW2⟩ : ∃ W, W = (w1.alloc (.cells #[.pointer (some ⟨w.heap.size + 1 + 1, 0, none⟩)] 22)).alloc (.cells #[.slice none 0 0] 32) := ⟨_, rfl⟩
  rw [← hW2]
  have HW2 := Lib.hid hW2
  clear hW2
  go_cut [8, 9, 10] (fun t8 t9 t10 wx => ∃ ba bk bb, t8 = .slice (some ⟨ba, 0, none⟩) k k ∧ t9 = .slice (some ⟨bk, 0, none⟩) k k ∧ t10 = .slice (some ⟨bb, 0, none⟩) k k ∧ Arr wx ba k (fun _ => .int .i64 0) 3 ∧ Arr wx bk k (fun _ => .int .i64 0) 3 ∧ Arr wx bb k (fun _ => .int .i64 0) 3 ∧ Fr (fun _ => False) W2 wx ∧ W2.heap.size ≤ ba ∧ W2.heap.size ≤ bk ∧ W2.heap.size ≤ bb ∧ ba ≠ bk ∧ ba ≠ bb ∧ bk ≠ bb)
  case first =>
    go_region
    all_goals go_wp2_with fail
    all_goals go_meet
    all_goals
      obtain ⟨a0, a1, a2, ff⟩ := three_arr W2 k
      exact ⟨_, _, _, rfl, rfl, rfl, by first | exact a0 | exact a1 | exact a2, by first | exact a0 | exact a1 | exact a2, by first | exact a0 | exact a1 | exact a2, ff, by omega, by omega, by omega, by omega, by omega, by omega⟩
  case rest =>
    obtain ⟨ba, bk, bb, rfl, rfl, rfl, hA0, hK0, hB0, hf3, z1, z2, z3, d1, d2, d3⟩ := hcut
    have HST := Lib.hid (show MadeP w (w.heap.size + 1 + 1) (w.heap.size + 1) k w1.heap.size (w1.heap.size + 1) ba bk bb w.heap.size (.slice a len cap) (.int .i64 (0 : Nat)) wc from by
      have hw2 := HW2.out
      have fl := HF1.out
      have hz1 := fl.size
      have hl := HM1.out.h.lt
      simp at hz1
      have hm0 : (w.alloc (.cells #[.slice a len cap] 35)).heap.size = w.heap.size + 1 := by simp
      rw [hm0] at hl
      have hz2 : W2.heap.size = w1.heap.size + 1 + 1 := by rw [hw2]; simp
      have f2 : Fr (fun _ => False) w1 W2 := by rw [hw2]; exact ((Fr.refl _ _).alloc _).alloc _
      have f3 := f2.trans hf3
      have M2 := HM1.out.fr f3 id id
      rw [hm0] at M2
      have Bm : Blk W2 w1.heap.size #[.pointer (some ⟨w.heap.size + 1 + 1, 0, none⟩)] 22 := by rw [hw2]; exact (Blk.at_new rfl).alloc _
      have Bt : Blk W2 (w1.heap.size + 1) #[.slice none 0 0] 32 := by rw [hw2]; exact Blk.at_new (by simp)
      have Bl : Blk w1 w.heap.size #[.slice a len cap] 35 := (Blk.at_new rfl).fr fl id
      refine ⟨0, _, fun _ => 0, by omega, rfl, M2, Tries.nil _ _ _ _ _, (((Fr.refl _ _).alloc _).trans fl).trans f3, Bm.fr hf3 id, Bt.fr hf3 id, hA0, hK0, hB0, Bl.fr f3 id, ⟨⟨fun j h => absurd h (Nat.not_lt_zero j), fun x h => by simp [Of, Value.ownBlock] at h, by omega⟩, fun y hy => ?_, ?_⟩⟩
      · simp at hy
        exact ⟨by omega, by omega, by omega, by simp [Of, Value.ownBlock], fun i h => absurd h (Nat.not_lt_zero i)⟩
      · simp
        omega)
    clear hA0 hK0 hB0 hf3 z1 z2 z3 d1 d2 d3 HW2 HM1 HF1
    obtain ⟨m, hm⟩ : ∃ m, m = w.heap.size + 1 + 1 := ⟨_, rfl⟩
    obtain ⟨g, hg⟩ : ∃ g, g = w.heap.size + 1 := ⟨_, rfl⟩
    obtain ⟨bl, hbl⟩ : ∃ g, g = w.heap.size := ⟨_, rfl⟩
    obtain ⟨bm, hbm⟩ : ∃ g, g = w1.heap.size := ⟨_, rfl⟩
    obtain ⟨bt, hbt⟩ : ∃ g, g = w1.heap.size + 1 := ⟨_, rfl⟩
    rw [← hm, ← hg, ← hbl, ← hbt, ← hbm] at HST
    rw [← hbl, ← hbt, ← hbm]
    clear hm hg hbl hbm hbt
    go_wp2_with fail
    go_loopw [11] (fun t11 wr => MadeP w m g k bm bt ba bk bb bl (.slice a len cap) t11 wr) (fun t11 _ => (k - intOf t11).toNat)
    case atStart => exact HST.out
    case round =>
      obtain ⟨i, v, tb, hi, rfl, hM, hT, hF, hBm, hBt, hBa, hBk, hBb, hBl, hD⟩ := hrel
      have HM := Lib.hid hM
      have HT := Lib.hid hT
      have HF := Lib.hid hF
      have HX := Lib.hid (And.intro hBm (And.intro hBt (And.intro hBa (And.intro hBk (And.intro hBb hBl)))))
      have HD := Lib.hid hD
      clear HST
      by_cases hik : i < k
      · as_aux_lemma =>
        have hik' : (i : Int) < k := by omega
        have hi0 : (0 : Int) ≤ i := by omega
        obtain ⟨a7, c7, rfl, hc7⟩ := hT.form
        have nd := hD.nd
        have b1 := hBb.lt
        have b2 := hBb.frozen
        have b3 := hBb.cell hik
        have hmod : (i : Int).tmod 2 = ((i % 2 : Nat) : Int) := by rw [Int.tmod_eq_emod_of_nonneg (by omega)]; omega
        have hm1 : ((i % 2 : Nat) : Int) ≤ 1 := by omega
        have hm0 : (0 : Int) ≤ ((i % 2 : Nat) : Int) := by omega
        clear hM hT hF hBm hBt hBa hBk hBb hBl hD
        go_wp2_with fail
        rw [bs2_int]
        generalize hWb : wr.setCell ⟨bb, i, none⟩ (.int .i64 (bs2 i : Nat)) = Wb at *
        have HWB := Lib.hid hWb
        clear hWb
        refine (try_new _ _).mono ?_
        rintro e w2 ⟨rfl, f2, x2, s2⟩
        have HF2 := Lib.hid f2
        have HX2 := Lib.hid x2
        have HS2 := Lib.hid s2
        clear f2 x2 s2
        have hbsz : Wb.heap.size = wr.heap.size := by rw [← HWB.out]; simp
        rw [hbsz] at HX2 HS2 ⊢
        have fb : Fr (fun x => x = bb) wr Wb := by rw [← HWB.out]; exact Fr.set1 _ _ _ _
        have n3 : ∀ y, y ∈ [bm, bt, ba, bk, bb, bl] → y < wr.heap.size := fun y hy => by
          obtain ⟨h1, h2, h3, h4, h5, h6⟩ := HX.out
          simp at hy
          rcases hy with rfl | rfl | rfl | rfl | rfl | rfl
          · exact h1.lt
          · exact h2.lt
          · exact h3.lt
          · exact h4.lt
          · exact h5.lt
          · exact h6.lt
        have HN3 := Lib.hid n3
        have HFB := Lib.hid fb
        have nbt : bt ≠ bb := nd_ne nd 1 4 rfl rfl (by decide)
        have nbk : bk ≠ bb := nd_ne nd 3 4 rfl rfl (by decide)
        have nbtk : bt ≠ bk := nd_ne nd 1 3 rfl rfl (by decide)
        have tB2 := (HX.out.2.1.fr fb nbt).fr HF2.out id
        have kB2 := (HX.out.2.2.2.1.fr fb nbk).fr HF2.out id
        have ct0 := tB2.cell 0
        have HTB2 := Lib.hid tB2
        have HKB2 := Lib.hid kB2
        have HDD := HD.out.d
        have hDbb := HDD bb (by simp)
        have T2 := (HT.out.fr fb (fun x hx e => hDbb.2.2.2.1 (e ▸ hx)) (fun j hj e => hDbb.2.2.2.2 j hj e.symm)).fr HF2.out (fun _ _ => id) (fun _ _ => id)
        obtain ⟨xs, k1, hx⟩ := T2.own
        have HT2 := Lib.hid (T2.fr ((Fr.refl (fun _ => False) w2).alloc (.cells #[.pointer (some ⟨wr.heap.size, 0, none⟩)] 24)) (fun _ _ => id) (fun _ _ => id))
        have O1 := k1.fr ((Fr.refl (fun _ => False) w2).alloc (.cells #[.pointer (some ⟨wr.heap.size, 0, none⟩)] 24)) (fun _ _ => id)
        have HXX := Lib.hid hx
        have AFT : Hid (∀ w3, Fr (Of (.slice a7 i c7)) (w2.alloc (.cells #[.pointer (some ⟨wr.heap.size, 0, none⟩)] 24)) w3 → Blk w3 bt #[.slice a7 i c7] 32 ∧ Arr w3 bk k (fun j => .int .i64 (if j < i then -1 else 0)) 3) := fun w3 f3 =>
          ⟨(tB2.alloc _).fr f3 (fun h => (HDD bt (by simp)).2.2.2.1 h), (kB2.alloc _).fr f3 (fun h => (HDD bk (by simp)).2.2.2.1 h)⟩
        have HTA := Lib.hid (fun (w : World) (h : TryB w wr.heap.size (bs2 i) 0 (-1)) => (try_at wr.heap.size (bs2 i) 0 (-1) w h).mono (fun e w' h => (And.intro h.1 h.2.symm : e = .returned (.int .i64 0) ∧ w = w')))
        have HTK := Lib.hid (fun (w : World) (h : TryB w wr.heap.size (bs2 i) 0 (-1)) => (try_ticket wr.heap.size (bs2 i) 0 (-1) w h).mono (fun e w' h => (And.intro h.1 h.2.symm : e = .returned (.int .i64 (-1)) ∧ w = w')))
        clear T2 k1 hx tB2 kB2 hDbb n3 fb hbsz HDD
        go_wp2_with (first
          | (go_at_call 16; (with_reducible refine (HTA.out _ HX2.out).mono ?_); rintro e w' ⟨rfl, rfl⟩)
          | (go_at_call 17; (with_reducible refine (HTK.out _ HX2.out).mono ?_); rintro e w' ⟨rfl, rfl⟩)
          | (at_builtin; refine wpList_append1 rfl _ _ 32 rfl 24 i0 (.pointer none) 8 Try.underlying32 hif hz0 hz1 hz2 rfl (by decide) _ _ _ rfl _ _ O1 _ rfl rfl rfl (by omega) ?_; intro v' w3 O2 F2 hv'; obtain ⟨g3, c3, rfl⟩ : ∃ g c, v' = .slice (some ⟨g, 0, none⟩) (i + 1) c := O2.cases.elim (fun h => absurd h.2.1 (by omega)) (fun ⟨g, c, h, _⟩ => ⟨g, c, h⟩); obtain ⟨B3, K3⟩ := AFT.out w3 F2; have l1 := B3.lt; have l2 := B3.frozen; have l3 := K3.lt; have l4 := K3.frozen; have l5 := B3.cell 0; have l6 := K3.cell hik; have HB3 := Lib.hid B3; have HK3 := Lib.hid K3; have HO1 := Lib.hid O1; have HO2 := Lib.hid O2; have HF3 := Lib.hid F2; have HV3 := Lib.hid hv'; clear O1 O2 F2 hv' B3 K3))
        obtain ⟨h1, h2, h3, h4, h5, h6⟩ := HX.out
        have hs2 := HS2.out
        have hwl := HF.out.size
        have D := HD.out
        have hf2 := HF2.out.size
        have hf3 := HF3.out.size
        have f4 : Fr (fun x => x = bt ∨ x = bk) w3 ((w3.setCell ⟨bt, 0, none⟩ (.slice (some ⟨g3, 0, none⟩) (i + 1) c3)).setCell ⟨bk, i, none⟩ (.int .i64 (-1))) :=
          ((Fr.refl _ _).setCell (fun _ => .inl rfl) _).setCell (fun _ => .inr rfl) _
        have hTl : ∀ j, j < i → tb j < wr.heap.size := fun j hj => (HT.out.t j hj).lt
        have hOl : ∀ x, Of (.slice a7 i c7) x → x < wr.heap.size := fun x hx => by obtain ⟨_, ho, _⟩ := HT.out.own; exact ho.lt hx
        have T3 := HT2.out.push (HX2.out.alloc _) (fun j hj => by have := hTl j hj; omega) (fun h => by have := hOl _ h; omega) HO1.out HXX.out HO2.out HF3.out
        rw [upd_same (f := fun _ : Nat => (0 : Int)) (x := 0) rfl, upd_same (f := fun _ : Nat => (-1 : Int)) (x := -1) rfl, upd_same (f := fun j : Nat => (bs2 j : Int)) (n := i) (x := (bs2 i : Int)) rfl] at T3
        have hv3 : ∀ x, Of (.slice (some ⟨g3, 0, none⟩) (i + 1) c3) x → Of (.slice a7 i c7) x ∨ w2.heap.size ≤ x := fun x hx => by
          rcases HV3.out x hx with h | h
          · exact .inl h
          · exact .inr h
        have hlt : ∀ y, y ∈ [bm, bt, ba, bk, bb, bl] → y < wr.heap.size := HN3.out
        have nv : ∀ y, y ∈ [bm, bt, ba, bk, bb, bl] → ¬ Of (.slice (some ⟨g3, 0, none⟩) (i + 1) c3) y := fun y hy h => by
          rcases hv3 y h with h | h
          · exact (D.d y hy).2.2.2.1 h
          · have := hlt y hy; omega
        have nt : ∀ y, y ∈ [bm, bt, ba, bk, bb, bl] → ∀ j, j < i + 1 → y ≠ upd tb i wr.heap.size j := fun y hy j hj => by
          by_cases e : j = i
          · subst e; rw [upd_self]; have := hlt y hy; omega
          · rw [upd_ne _ _ e]; exact (D.d y hy).2.2.2.2 j (by omega)
        have fA : Fr (fun x => x = bb ∨ Of (.slice a7 i c7) x) wr w3 := (((HFB.out.mono (fun _ _ h => .inl h)).trans (HF2.out.mono (fun _ _ h => h.elim))).alloc _).step HF3.out (fun x _ h => .inr h)
        have fB : Fr (fun x => (x = bb ∨ Of (.slice a7 i c7) x) ∨ x = bt ∨ x = bk) wr _ := (fA.mono (fun _ _ h => .inl h)).step f4 (fun x _ h => .inr h)
        have no : ∀ y, y ∈ [bm, ba, bl] → ¬ ((y = bb ∨ Of (.slice a7 i c7) y) ∨ y = bt ∨ y = bk) := fun y hy h => by
          have hy' : y ∈ [bm, bt, ba, bk, bb, bl] := by simp at hy ⊢; omega
          rcases h with (h | h) | h | h
          · simp at hy
            rcases hy with rfl | rfl | rfl
            · exact nd_ne nd 0 4 rfl rfl (by decide) h
            · exact nd_ne nd 2 4 rfl rfl (by decide) h
            · exact nd_ne nd 5 4 rfl rfl (by decide) h
          · exact (D.d y hy').2.2.2.1 h
          · simp at hy
            rcases hy with rfl | rfl | rfl
            · exact nd_ne nd 0 1 rfl rfl (by decide) h
            · exact nd_ne nd 2 1 rfl rfl (by decide) h
            · exact nd_ne nd 5 1 rfl rfl (by decide) h
          · simp at hy
            rcases hy with rfl | rfl | rfl
            · exact nd_ne nd 0 3 rfl rfl (by decide) h
            · exact nd_ne nd 2 3 rfl rfl (by decide) h
            · exact nd_ne nd 5 3 rfl rfl (by decide) h
        have nmg : ∀ y, y = m ∨ y = g → ¬ ((y = bb ∨ Of (.slice a7 i c7) y) ∨ y = bt ∨ y = bk) := fun y hy h => by
          have q1 := D.d bb (by simp)
          have q2 := D.d bt (by simp)
          have q3 := D.d bk (by simp)
          rcases h with (h | h) | h | h
          · omega
          · have := D.ap.v y h; omega
          · omega
          · omega
        refine ⟨⟨i + 1, _, upd tb i wr.heap.size, by omega, by go_num, HM.out.fr fB (nmg m (.inl rfl)) (nmg g (.inr rfl)), T3.fr f4 (fun x hx h => ?_) (fun j hj h => ?_), HF.out.step fB (fun x hx h => ?_), h1.fr fB (no _ (by simp)), ?_, h3.fr fB (no _ (by simp)), ?_, ?_, h6.fr fB (no _ (by simp)), ⟨⟨fun j hj => ?_, fun x hx => ?_, D.ap.m⟩, fun y hy => ?_, nd⟩⟩, by simp [intOf]; omega⟩
        · rcases h with rfl | rfl
          · exact nv _ (by simp) hx
          · exact nv _ (by simp) hx
        · rcases h with h | h
          · exact nt bt (by simp) j hj h.symm
          · exact nt bk (by simp) j hj h.symm
        · rcases h with (h | h) | h | h
          · have := (D.d bb (by simp)).1; omega
          · have := (D.ap.v x h).1; omega
          · have := (D.d bt (by simp)).1; omega
          · have := (D.d bk (by simp)).1; omega
        · exact (HB3.out.set 0 _).other (by dsimp only; omega) _
        · refine ((HK3.out.other (by dsimp only; omega) _).set i (.int .i64 (-1))).congr (fun q hq => ?_)
          simp only [upd]
          by_cases e : q = i
          · subst e; simp
          · rw [if_neg e]; congr 1
            by_cases e2 : q < i
            · rw [if_pos e2, if_pos (by omega)]
            · rw [if_neg e2, if_neg (by omega)]
        · have hb2 := (((h5.set i (.int .i64 (bs2 i : Nat))).congr (g := fun j => .int .i64 (if j < i + 1 then (bs2 j : Int) else 0)) (fun q hq => by
            simp only [upd]
            by_cases e : q = i
            · subst e; simp
            · rw [if_neg e]; congr 1
              by_cases e2 : q < i
              · rw [if_pos e2, if_pos (by omega)]
              · rw [if_neg e2, if_neg (by omega)])))
          rw [HWB.out] at hb2
          exact (((hb2.fr HF2.out id).alloc _).fr HF3.out (D.d bb (by simp)).2.2.2.1).fr f4 (by omega)
        · by_cases e : j = i
          · subst e; rw [upd_self]
            have := HM.out.h.lt; have := HM.out.a.lt; omega
          · rw [upd_ne _ _ e]; exact D.ap.t j (by omega)
        · rcases hv3 x hx with h | h
          · exact D.ap.v x h
          · have := HM.out.h.lt; have := HM.out.a.lt; omega
        · have := D.d y hy
          exact ⟨this.1, this.2.1, this.2.2.1, nv y hy, nt y hy⟩
      · have hik' : ¬ (i : Int) < k := by omega
        obtain rfl : i = k := by omega
        clear hM hT hF hBm hBt hBa hBk hBb hBl hD hi hik
        go_upto_region 18 with fail
        obtain ⟨k, rfl⟩ : ∃ k, k = i := ⟨i, rfl⟩
        obtain ⟨W4, hW4⟩ : ∃ W, W = ((wr.alloc (.cells #[.int .i64 0, .int .i64 0, .int .i64 0, .int .i64 0] 36)).alloc (.cells #[.int .i64 0, .int .i64 0, .int .i64 0, .int .i64 0] 36)).alloc (.cells #[.int .i64 0] 3) := ⟨_, rfl⟩
        obtain ⟨bn, hbn⟩ : ∃ b, b = wr.heap.size := ⟨_, rfl⟩
        obtain ⟨bu, hbu⟩ : ∃ b, b = wr.heap.size + 1 := ⟨_, rfl⟩
        have hlt : ∀ y, y ∈ [bm, bt, ba, bk, bb, bl] → y < bn := fun y hy => by
          obtain ⟨h1, h2, h3, h4, h5, h6⟩ := HX.out
          rw [hbn]
          simp at hy
          rcases hy with rfl | rfl | rfl | rfl | rfl | rfl
          · exact h1.lt
          · exact h2.lt
          · exact h3.lt
          · exact h4.lt
          · exact h5.lt
          · exact h6.lt
        have hvl : (∀ x, Of v x → x < bn) ∧ (∀ j, j < k → tb j < bn) ∧ m < bn ∧ g < bn ∧ w.heap.size ≤ bn := by
          rw [hbn]
          exact ⟨fun x hx => by obtain ⟨_, ho, _⟩ := HT.out.own; exact ho.lt hx, fun j hj => (HT.out.t j hj).lt, HM.out.h.lt, HM.out.a.lt, HF.out.size⟩
        have HPD := Lib.hid (show PD w m g k v tb [bm, bt, ba, bk, bb, bn, bu, bl] from by
          have D := HD.out
          have nd := D.nd
          refine ⟨D.ap, fun y hy => ?_, ?_⟩
          · by_cases e : y ∈ [bm, bt, ba, bk, bb, bl]
            · exact D.d y e
            · have hy2 : y = bn ∨ y = bu := by simp at hy e; omega
              refine ⟨by omega, by omega, by omega, fun h => by have := hvl.1 y h; omega, fun j hj h => by have := hvl.2.1 j hj; omega⟩
          · have l0 := hlt bm (by simp)
            have l1 := hlt bt (by simp)
            have l2 := hlt ba (by simp)
            have l3 := hlt bk (by simp)
            have l4 := hlt bb (by simp)
            have l5 := hlt bl (by simp)
            have e1 : List.Perm [bm, bt, ba, bk, bb, bn, bu, bl] (bn :: bu :: [bm, bt, ba, bk, bb, bl]) := by
              refine (List.perm_middle (l₁ := [bm, bt, ba, bk, bb]) (a := bn) (l₂ := [bu, bl])).trans ?_
              exact List.Perm.cons _ (List.perm_middle (l₁ := [bm, bt, ba, bk, bb]) (a := bu) (l₂ := [bl]))
            rw [e1.nodup_iff, List.nodup_cons, List.nodup_cons]
            refine ⟨fun h => ?_, fun h => ?_, nd⟩
            · rcases List.mem_cons.1 h with h | h
              · omega
              · have := hlt bn h; omega
            · have := hlt bu h; omega)
        have f4 : Fr (fun _ => False) wr W4 := by rw [hW4]; exact (((Fr.refl _ _).alloc _).alloc _).alloc _
        have HST := Lib.hid (show PlayRel w m g k v tb bm bt ba bk bb bn bu bl (.slice a len cap) len (.int .i64 0) (.pointer (some ⟨wr.heap.size + 1 + 1, 0, none⟩)) W4 from by
          obtain ⟨h1, h2, h3, h4, h5, h6⟩ := HX.out
          refine ⟨0, _, fun _ => 0, 0, fun _ => 0, fun _ => -1, fun _ => 0, fun _ => 0, by omega, by omega, rfl, rfl, by rw [hW4]; exact Blk.at_new (by simp), ⟨⟨HM.out.fr f4 id id, HT.out.fr f4 (fun _ _ => id) (fun _ _ => id), HF.out.trans f4⟩, h1.fr f4 id, h2.fr f4 id, h3.fr f4 id, (h4.fr f4 id).congr (fun q hq => by rw [if_pos hq]), (h5.fr f4 id).congr (fun q hq => by rw [if_pos hq]), ?_, ?_, h6.fr f4 id, by simp, fun _ _ => by omega, fun _ => by omega⟩, by omega, by omega, by omega, fun h => ?_, by omega, by omega, fun h => ?_, fun j hj h => ?_⟩
          · rw [hW4, hbn]; exact ((zeros4 (Blk.at_new rfl)).alloc _).alloc _
          · rw [hW4, hbu]; exact (zeros4 (Blk.at_new (by simp))).alloc _
          · by_cases e : wr.heap.size + 1 + 1 ∈ [bm, bt, ba, bk, bb, bl]
            · have := hlt _ e; omega
            · simp at h e; omega
          · have := hvl.1 _ h; omega
          · have := hvl.2.1 j hj; omega)
        rw [← hW4, ← hbu, ← hbn]
        rw [← hbu] at HST
        clear hlt hvl f4 HM HT HF HX HD hW4 hbn hbu
        go_loopw [15, 16] (fun t15 t16 wr => PlayRel w m g k v tb bm bt ba bk bb bn bu bl (.slice a len cap) len t15 t16 wr) (fun _ t16 wr => 60 - (cellNat wr t16))
        case atStart => exact HST.out
        case round =>
          obtain ⟨i, bi, V, c, at_, tk, nx, tr, hi, hil, rfl, rfl, hbi, hps, hc0, hc1, hz0', hz1', hz2', hz3', hz4', hz5'⟩ := hrel
          have HI := Lib.hid hbi
          have HP := Lib.hid hps
          have HZ := Lib.hid (And.intro hz0' (And.intro hz1' (And.intro hz2' (And.intro hz3' (And.intro hz4' hz5')))))
          clear HST hz0' hz1' hz2' hz3' hz4' hz5'
          have cbi := hbi.cell 0
          have cbl := hps.L.cell 0
          have lbi := hbi.lt
          by_cases hr : i < len ∧ i < 60
          · obtain ⟨hr1, hr2⟩ := hr
            have hr1' : (i : Int) < len := by omega
            have hr2' : (i : Int) < 60 := by omega
            rcases HA.out.at hps.s.F with h | ⟨b, off, rfl, hbw, hcl⟩
            · omega
            obtain ⟨⟨c0, hbd⟩, cX⟩ := hcl i hr1
            have hi0 : (0 : Int) ≤ i := by omega
            have hwb := wth_bd (n := K i) (lo := 0) (hi := (k : Int) - 1) (by omega)
            obtain ⟨j, hj⟩ : ∃ j : Nat, wth (K i) 0 ((k : Int) - 1) = j := ⟨(wth (K i) 0 ((k : Int) - 1)).toNat, by omega⟩
            have hwi := fun w => within_any (K i) 0 ((k : Int) - 1) w hbd (by omega) (by omega) (by omega)
            rw [hj] at hwb hwi
            have hjk : j < k := by omega
            have hjk' : (j : Int) < k := by omega
            have HWI := Lib.hid hwi
            have lb := hps.B.lt
            have cb := hps.B.cell hjk
            have hb3 : ((bs2 j : Nat) : Int) ≤ 3 := by have := bs2_bd j; omega
            have hb0 : (0 : Int) ≤ ((bs2 j : Nat) : Int) := by omega
            obtain ⟨x, hx⟩ : ∃ x, x = X i := ⟨_, rfl⟩
            rw [← hx] at cX
            have HXX := Lib.hid hx
            obtain ⟨st, got, V', c', at', tk', hD⟩ := TD.any V c at_ tk j (bs2 j) x ⟨(hps.st j hjk).1, (hps.st j hjk).2.1⟩
            have HTD := Lib.hid hD
            have HCX := Lib.hid cX
            clear hbi hps hcl hbd hwb hwi hj hx hD
            go_wp2_with (go_at_call 19; (with_reducible refine (HWI.out _).mono ?_); rintro e w' ⟨rfl, rfl⟩)
            obtain ⟨WG, hWG⟩ : ∃ W, W = ((wr.alloc (.cells #[.int .i64 j] 3)).alloc (.cells #[.bool false] 4)).alloc (.cells #[.int .i64 0, .int .i64 0] 40) := ⟨_, rfl⟩
            rw [← hWG]
            obtain ⟨bj, hbj⟩ : ∃ b, b = wr.heap.size := ⟨_, rfl⟩
            obtain ⟨bg, hbg⟩ : ∃ b, b = wr.heap.size + 1 := ⟨_, rfl⟩
            obtain ⟨bw, hbw2⟩ : ∃ b, b = wr.heap.size + 1 + 1 := ⟨_, rfl⟩
            have fG : Fr (fun _ => False) wr WG := by rw [hWG]; exact (((Fr.refl _ _).alloc _).alloc _).alloc _
            have hWGz : WG.heap.size = wr.heap.size + 3 := by rw [hWG]; simp
            have hBj : Blk WG bj #[.int .i64 j] 3 := by rw [hWG]; exact ((Blk.at_new hbj).alloc _).alloc _
            have hBg : Blk WG bg #[.bool false] 4 := by rw [hWG]; exact (Blk.at_new (by rw [hbg]; simp)).alloc _
            have hBw : Blk WG bw #[.int .i64 0, .int .i64 0] 40 := by rw [hWG]; exact Blk.at_new (by rw [hbw2]; simp)
            have hBi : Blk WG bi #[.int .i64 i] 3 := HI.out.fr fG id
            have gf := gworld_fr WG (fun _ => False)
            have hPG := HP.out.fr (fG.trans gf)
            have hvl : (∀ x, Of v x → x < wr.heap.size) ∧ (∀ j, j < k → tb j < wr.heap.size) ∧ m < wr.heap.size ∧ g < wr.heap.size ∧ w.heap.size ≤ wr.heap.size :=
              ⟨fun x hx => by obtain ⟨_, ho, _⟩ := HP.out.s.T.own; exact ho.lt hx, fun j hj => (HP.out.s.T.t j hj).lt, HP.out.s.M.h.lt, HP.out.s.M.a.lt, HP.out.s.F.size⟩
            have hll : ∀ y, y ∈ [bm, bt, ba, bk, bb, bn, bu, bl] → y < wr.heap.size := fun y hy => by
              simp at hy
              rcases hy with rfl | rfl | rfl | rfl | rfl | rfl | rfl | rfl
              · exact HP.out.M.lt
              · exact HP.out.T.lt
              · exact HP.out.A.lt
              · exact HP.out.K.lt
              · exact HP.out.B.lt
              · exact HP.out.N.lt
              · exact HP.out.U.lt
              · exact HP.out.L.lt
            have cXG : (gworld WG).cell? ⟨b, off + i * 2 + 1, none⟩ = some (.bool x) := (World.cell?_of_block ((fG.trans gf).block b hbw (fun h => h))).trans HCX.out
            have hS0 : ∀ y, ((y = tb j ∨ y = m ∨ y = g) ∨ y = bg) → (y < wr.heap.size ∨ y = bg) := fun y hy => by
              have := hvl.2.1 j hjk
              omega
            rw [← hbw2, ← hbg, ← hbj]
            refine (guard_does 21 _ WG st (fun y => (y = tb j ∨ y = m ∨ y = g) ∨ y = bg) (fun w' => TrySt w m g 6 k v tb (fun j => (bs2 j : Int)) V' c' at' tk' w' ∧ Blk w' bg #[.bool got] 4) (fun y hy => by have := hS0 y hy; omega) (fun w => by simp [go_sem])
              ((ticketPlays1 HPD.out.ap hPG.s hPG.L (hBi.fr gf id) hr1 cXG hPG.T (hBj.fr gf id) hPG.M (hBg.fr gf id) hjk HTD.out (by have := bs2_bd j; omega) (by omega)
                (fun y hy => by have := hvl.2.1 j hjk; omega) (fun y hy => by have := hvl.1 y hy; omega) (fun i hi => by have := hvl.2.1 i hi; omega) (by omega)
                (fun y hy => by
                  rcases hy with rfl | rfl | rfl
                  · have h1 := HPD.out.d y (by simp); have h2 := hll y (by simp); exact ⟨h1.2.1, h1.2.2.1, by omega, h1.2.2.2.2⟩
                  · exact ⟨by omega, by omega, by omega, fun i hi => by have := hvl.2.1 i hi; omega⟩
                  · have h1 := HPD.out.d y (by simp); have h2 := hll y (by simp); exact ⟨h1.2.1, h1.2.2.1, by omega, h1.2.2.2.2⟩)).mono fun e w' h => ⟨h.1, h.2.1, h.2.2⟩)).mono ?_
            rintro e w2 ⟨rfl, fg, w3, ⟨hS3, hG3⟩, fg2, fg3⟩
            rw [hWGz] at fg3
            obtain ⟨W5, hW5⟩ : ∃ W, W = w2.alloc (.cells #[.int .i64 st.why, .int .i64 st.at] 40) := ⟨_, rfl⟩
            obtain ⟨bs, hbs⟩ : ∃ b, b = w2.heap.size := ⟨_, rfl⟩
            have f5 : Fr (fun _ => False) w2 W5 := by rw [hW5]; exact (Fr.refl _ _).alloc _
            have hz2 : wr.heap.size + 3 ≤ w2.heap.size := by have := fg.size; omega
            have HT5 := Lib.hid (show TrySt w m g 6 k v tb (fun j => (bs2 j : Int)) V' c' at' tk' W5 from
              ⟨(hS3.M.fr fg3 (by omega) (by omega)).fr f5 id id, (hS3.T.fr fg3 (fun x hx h => by have := hvl.1 x hx; omega) (fun i hi h => by have := hvl.2.1 i hi; omega)).fr f5 (fun _ _ => id) (fun _ _ => id), (hS3.F.step fg3 (fun x hx h => by omega)).trans f5⟩)
            have HG5 := Lib.hid ((hG3.fr fg3 (by omega)).fr f5 id)
            have HB5 := Lib.hid ((((HP.out.books.fr fG (fun _ _ => id)).fr fg (fun y hy h => by
              have h1 := HPD.out.d y hy
              have h2 := hll y hy
              have h3 := h1.2.2.2.2 j hjk
              omega))).fr f5 (fun _ _ => id))
            have HJ5 := Lib.hid ((hBj.fr fg (by have := hvl.2.1 j hjk; omega)).fr f5 id)
            have HW5 := Lib.hid ((hBw.fr fg (by have := hvl.2.1 j hjk; omega)).fr f5 id)
            have HI5 := Lib.hid ((hBi.fr fg (by have := HZ.out; have := this.2.2.2.2.2 j hjk; have := HI.out.lt; omega)).fr f5 id)
            have HK5 := Lib.hid (show Blk W5 bs #[.int .i64 st.why, .int .i64 st.at] 40 by rw [hW5]; exact Blk.at_new hbs)
            have HN5 := Lib.hid (show (∀ y, y ∈ [bm, bt, ba, bk, bb, bn, bu, bl] → y < bj) ∧ bi < bj ∧ bj < bg ∧ bg < bw ∧ bw < bs ∧ w.heap.size ≤ bj ∧ (∀ x, Of v x → x < bj) ∧ (∀ i, i < k → tb i < bj) ∧ m < bj ∧ g < bj from ⟨fun y hy => by have := hll y hy; omega, by have := HI.out.lt; omega, by omega, by omega, by omega, by omega, fun x hx => by have := hvl.1 x hx; omega, fun i hi => by have := hvl.2.1 i hi; omega, by omega, by omega⟩)
            have cX5 : W5.cell? ⟨b, off + i * 2 + 1, none⟩ = some (.bool x) := by
              rcases HA.out.at HT5.out.F with h | ⟨b', off', e', hb', hc'⟩
              · omega
              · simp only [Option.some.injEq, Addr.mk.injEq] at e'
                obtain ⟨rfl, rfl, _⟩ := e'
                rw [HXX.out]
                exact (hc' i hr1).2
            clear fG hWGz hBj hBg hBw hBi gf hPG hvl hll cXG hS0 fg fg2 fg3 hS3 hG3 f5 hz2 hWG
            go_upto_region 25 with fail
            rw [← hW5, ← hbs, ← hbw2, ← hbg, ← hbj]
            clear hW5 hbs hbw2 hbg hbj HCX cbi cbl lbi lb cb c0 cX hbw
            have nd := HPD.out.nd
            have c5i := HI5.out.cell 0
            have c5l := HB5.out.L.cell 0
            have c5j := HJ5.out.cell 0
            have c5A := HB5.out.A.cell hjk
            have hb4 : bs2 j < 4 := by have := bs2_bd j; omega
            have hb4' : ((bs2 j : Nat) : Int) < 4 := by omega
            have hj0 : (0 : Int) ≤ j := by omega
            obtain ⟨q, hq⟩ : ∃ q, q = (x && (at_ j != 2)) := ⟨_, rfl⟩
            have HQ := Lib.hid hq
            clear hq
            go_cut [104] (fun t104 wx => t104 = .bool q ∧ wx = W5)
            case first =>
              cases x with
              | false =>
                as_aux_lemma =>
                  go_wp2_with fail
                  go_meet
                  case rel => exact ⟨by rw [HQ.out]; rfl, rfl⟩
              | true =>
                by_cases e : at_ j = 2
                · as_aux_lemma =>
                  have HE := Lib.hid e
                  rw [e] at c5A
                  clear e
                  go_wp2_with fail
                  go_meet
                  case rel => exact ⟨by rw [HQ.out, HE.out]; rfl, rfl⟩
                · as_aux_lemma =>
                  have hne : (at_ j != 2) = true := by simpa using e
                  have HE := Lib.hid hne
                  clear e
                  go_wp2_with fail
                  go_meet
                  case rel => exact ⟨by rw [HQ.out, HE.out]; rfl, rfl⟩
            case rest =>
              obtain ⟨rfl, hwc⟩ := hcut
              have hwc := hwc.symm
              subst hwc
              go_upto_if 104 with fail
              refine wp_last ?_
              have HSS := Lib.hid (show ∀ y, (y ∈ [ba, bk, bn, bu] ∨ y = bw) → y ∈ [ba, bk, bn, bu] ∨ W5.heap.size ≤ y ∨ (w.heap.size ≤ y ∧ y ≠ m ∧ y ≠ g ∧ ¬ Of v y ∧ ∀ i, i < k → y ≠ tb i) from fun y hy => by
                rcases hy with hy | rfl
                · exact .inl hy
                · obtain ⟨n1, n2, n3, n4, n5, n6, n7, n8, n9, n10⟩ := HN5.out
                  exact .inr (.inr ⟨by omega, by omega, by omega, fun h => by have := n7 _ h; omega, fun i hi => by have := n8 i hi; omega⟩))
              have HWN := Lib.hid (show ∀ y, y ∈ [bm, bt, ba, bk, bb, bn, bu, bl] → y ≠ bw ∧ y ≠ bj ∧ y ≠ bi from fun y hy => by
                obtain ⟨n1, n2, n3, n4, n5, n6, n7, n8, n9, n10⟩ := HN5.out
                have := n1 y hy
                exact ⟨by omega, by omega, fun e => HZ.out.2.1 (e ▸ hy)⟩)
              go_cut [15, 20] (fun t15 t20 wx => ∃ nx' tr', t15 = .int .i64 c' ∧ t20 = .bool got ∧ PS w m g k v tb bm bt ba bk bb bn bu bl (.slice (some ⟨b, off, none⟩) len cap) V' c' at' tk' nx' tr' wx ∧ Fr (fun y => y ∈ [ba, bk, bn, bu] ∨ y = bw) W5 wx ∧ Blk wx bw #[.int .i64 st.why, .int .i64 st.at] 40 ∧ c' ≤ c + 1)
              case first =>
                have n1 : bj ≠ ba := ((HWN.out ba (by simp)).2.1).symm
                have n2 : bj ≠ bk := ((HWN.out bk (by simp)).2.1).symm
                have n3 : bj ≠ bn := ((HWN.out bn (by simp)).2.1).symm
                have n4 : bj ≠ bu := ((HWN.out bu (by simp)).2.1).symm
                have n5 : ba ≠ bk := nd_ne nd 2 3 rfl rfl (by decide)
                have n6 : ba ≠ bn := nd_ne nd 2 5 rfl rfl (by decide)
                have n7 : ba ≠ bu := nd_ne nd 2 6 rfl rfl (by decide)
                have n8 : bn ≠ bk := nd_ne nd 5 3 rfl rfl (by decide)
                have n9 : bn ≠ ba := nd_ne nd 5 2 rfl rfl (by decide)
                have n10 : bk ≠ ba := nd_ne nd 3 2 rfl rfl (by decide)
                have lA := HB5.out.A.lt
                have fA := HB5.out.A.frozen
                have lK := HB5.out.K.lt
                have fK := HB5.out.K.frozen
                have cK := HB5.out.K.cell hjk
                have lN := HB5.out.N.lt
                have fN := HB5.out.N.frozen
                have cN := HB5.out.N.cell hb4
                have lU := HB5.out.U.lt
                have fU := HB5.out.U.frozen
                have cU := HB5.out.U.cell hb4
                have lW := HW5.out.lt
                have fW := HW5.out.frozen
                have cW0 := HW5.out.cell 0
                have cW1 := HW5.out.cell 1
                have hhn := HP.out.hn
                have hbd := HP.out.bd
                have htr : tr (bs2 j) = V (bs2 j + 1) := by rcases bs2_bd j with h | h <;> rw [h] <;> simp [hhn]
                have hnx : nx (bs2 j) = V (bs2 j) := by rcases bs2_bd j with h | h <;> rw [h] <;> simp [hhn]
                have u0 : 0 ≤ tr (bs2 j) := by rw [htr]; exact (hbd _).1
                have u1 : tr (bs2 j) ≤ 60 := by rw [htr]; have := (hbd (bs2 j + 1)).2; omega
                have u2 : 0 ≤ nx (bs2 j) := by rw [hnx]; exact (hbd _).1
                have u3 : nx (bs2 j) ≤ 60 := by rw [hnx]; have := (hbd (bs2 j)).2; omega
                have u4 : c ≤ 60 := by omega
                have HTR := Lib.hid htr
                have HNX := Lib.hid hnx
                clear htr hnx hhn hbd
                rcases HTD.out.sw HQ.out with ⟨t1, t2, d⟩ | ⟨t1, t2, t3, t4, d⟩ | ⟨t1, t2, t3, t4, d⟩ | ⟨t1, t2, t3, t4, t5, d⟩ | ⟨t1, t2, t3, t4, t5, d⟩ | ⟨t1, t2, t3, t4, d⟩ | ⟨t1, t2, t3, t4, d⟩
                all_goals have HDD := Lib.hid d
                all_goals clear d
                · as_aux_lemma =>
                  subst t1 t2
                  go_wp2_with fail
                  go_meet
                  case rel =>
                    obtain ⟨d1, d2, rfl, rfl, rfl, rfl⟩ := HDD.out
                    obtain ⟨e1, e2⟩ := stop_store HW5.out 6 (bs2 j : Nat)
                    rw [d1, d2]
                    have e3 := e2.mono (T := fun y => y ∈ [ba, bk, bn, bu] ∨ y = bw) (fun _ _ h => .inr h)
                    exact ⟨nx, tr, rfl, rfl, PS.of HPD.out HT5.out e3 HSS.out (HB5.out.fr e2 (fun y hy e => (HWN.out y hy).1 e)) HP.out.hn HP.out.st HP.out.bd, e3, e1, by omega⟩
                · as_aux_lemma =>
                  subst t1 t2 t4
                  rw [t3] at c5A
                  clear t3
                  go_wp2_with fail
                  go_meet
                  case rel =>
                    obtain ⟨d1, d2, rfl, rfl, rfl, rfl⟩ := HDD.out
                    rw [d1, d2]
                    have f : Fr (fun y => y ∈ [ba, bk, bn, bu] ∨ y = bw) W5 ((W5.setCell ⟨bu, bs2 j, none⟩ (.int .i64 (tr (bs2 j) + 1))).setCell ⟨ba, j, none⟩ (.int .i64 3)) := ((Fr.refl _ _).setCell (fun _ => .inl (by simp)) _).setCell (fun _ => .inl (by simp)) _
                    exact ⟨nx, upd tr (bs2 j) (tr (bs2 j) + 1), rfl, rfl, PS.of HPD.out HT5.out f HSS.out ((HB5.out.setU nd (bs2 j) (tr (bs2 j) + 1)).setA nd j 3) (hn_turn HP.out.hn j ⟨(HP.out.bd _).1, by have := (HP.out.bd (bs2 j + 1)).2; omega⟩)
                      (fun i hi => by have := HP.out.st i hi; simp only [upd]; split <;> omega) (bd_upd HP.out.bd u4 _), f, (HW5.out.other (HWN.out bu (by simp)).1 _).other (HWN.out ba (by simp)).1 _, by omega⟩
                · as_aux_lemma =>
                  subst t1 t2 t4
                  rw [t3] at c5A
                  clear t3
                  go_wp2_with fail
                  go_region
                  all_goals go_wp2_with fail
                  all_goals go_meet
                  all_goals
                    obtain ⟨d1, d2, rfl, rfl, rfl, rfl⟩ := HDD.out
                    rw [d1, d2]
                    have e0 : upd tk j (V (bs2 j)) = upd tk j (nx (bs2 j)) := by rw [HNX.out]
                    rw [e0]
                    refine ⟨upd nx (bs2 j) (nx (bs2 j) + 1), tr, rfl, rfl, PS.of HPD.out (e0 ▸ HT5.out) (S := fun y => y ∈ [ba, bk, bn, bu] ∨ y = bw) ?_ HSS.out ?_ (hn_next HP.out.hn j ⟨(HP.out.bd _).1, by have := (HP.out.bd (bs2 j)).2; omega⟩)
                      (fun i hi => by have := HP.out.st i hi; have := HP.out.bd (bs2 j); have := HNX.out; simp only [upd]; split <;> omega) (bd_upd HP.out.bd u4 _), ?_, ?_, by omega⟩
                    · first
                        | exact (((Fr.refl _ _).setCell (fun _ => .inl (by simp)) _).setCell (fun _ => .inl (by simp)) _).drew.setCell (fun _ => .inl (by simp)) _
                        | exact ((((Fr.refl _ _).setCell (fun _ => .inl (by simp)) _).drew.setCell (fun _ => .inl (by simp)) _)).setCell (fun _ => .inl (by simp)) _
                    · first
                        | exact (((HB5.out.setK nd j _).setA nd j 1).drew).setN nd (bs2 j) _
                        | exact (((HB5.out.setA nd j 1).setK nd j _).drew).setN nd (bs2 j) _
                    · first
                        | exact (((Fr.refl _ _).setCell (fun _ => .inl (by simp)) _).setCell (fun _ => .inl (by simp)) _).drew.setCell (fun _ => .inl (by simp)) _
                        | exact ((((Fr.refl _ _).setCell (fun _ => .inl (by simp)) _).drew.setCell (fun _ => .inl (by simp)) _)).setCell (fun _ => .inl (by simp)) _
                    · first
                        | exact ((((HW5.out.other (HWN.out bk (by simp)).1 _).other (HWN.out ba (by simp)).1 _)).fr (Fr.refl (fun _ => False) _).drew id).other (HWN.out bn (by simp)).1 _
                        | exact ((((HW5.out.other (HWN.out ba (by simp)).1 _).other (HWN.out bk (by simp)).1 _)).fr (Fr.refl (fun _ => False) _).drew id).other (HWN.out bn (by simp)).1 _
                · as_aux_lemma =>
                  subst t1 t2 t4
                  rw [t3] at c5A
                  clear t3
                  have hne : (tr (bs2 j) == tk j) = false := by rw [HTR.out]; simpa using t5
                  clear t5
                  go_wp2_with fail
                  go_region
                  all_goals go_wp2_with fail
                  all_goals go_meet
                  all_goals
                    obtain ⟨d1, d2, rfl, rfl, rfl, rfl⟩ := HDD.out
                    rw [d1, d2]
                    have f : Fr (fun y => y ∈ [ba, bk, bn, bu] ∨ y = bw) W5 W5.drew := (Fr.refl _ _).drew
                    exact ⟨nx, tr, rfl, rfl, PS.of HPD.out HT5.out f HSS.out HB5.out.drew HP.out.hn (fun i hi => by have := HP.out.st i hi; omega) (fun q => by have := HP.out.bd q; omega), f, HW5.out.fr (Fr.refl (fun _ => False) _).drew id, by omega⟩
                · as_aux_lemma =>
                  subst t1 t2 t4
                  rw [t3] at c5A
                  clear t3
                  have hne : (tr (bs2 j) == tk j) = true := by rw [HTR.out]; simpa using t5
                  clear t5
                  go_wp2_with fail
                  go_region
                  all_goals go_wp2_with fail
                  all_goals go_meet
                  all_goals
                    obtain ⟨d1, d2, rfl, rfl, rfl, rfl⟩ := HDD.out
                    rw [d1, d2]
                    have f : Fr (fun y => y ∈ [ba, bk, bn, bu] ∨ y = bw) W5 (W5.drew.setCell ⟨ba, j, none⟩ (.int .i64 2)) := (Fr.refl _ _).drew.setCell (fun _ => .inl (by simp)) _
                    exact ⟨nx, tr, rfl, rfl, PS.of HPD.out HT5.out f HSS.out (HB5.out.drew.setA nd j 2) HP.out.hn (fun i hi => by have := HP.out.st i hi; simp only [upd]; split <;> omega) (fun q => by have := HP.out.bd q; omega), f, (HW5.out.fr (Fr.refl (fun _ => False) _).drew id).other (HWN.out ba (by simp)).1 _, by omega⟩
                · as_aux_lemma =>
                  subst t1 t2 t4
                  rw [t3] at c5A
                  clear t3
                  go_wp2_with fail
                  go_meet
                  case rel =>
                    obtain ⟨d1, d2, rfl, rfl, rfl, rfl⟩ := HDD.out
                    rw [d1, d2]
                    have f : Fr (fun y => y ∈ [ba, bk, bn, bu] ∨ y = bw) W5 W5 := Fr.refl _ _
                    exact ⟨nx, tr, rfl, rfl, PS.of HPD.out HT5.out f HSS.out HB5.out HP.out.hn HP.out.st HP.out.bd, f, HW5.out, by omega⟩
                · as_aux_lemma =>
                  subst t1 t2 t4
                  rw [t3] at c5A
                  clear t3
                  go_wp2_with fail
                  go_meet
                  case rel =>
                    obtain ⟨d1, d2, rfl, rfl, rfl, rfl⟩ := HDD.out
                    obtain ⟨e1, e2⟩ := stop_store HW5.out 9 (bs2 j : Nat)
                    rw [d1, d2]
                    have e3 := e2.mono (T := fun y => y ∈ [ba, bk, bn, bu] ∨ y = bw) (fun _ _ h => .inr h)
                    exact ⟨nx, tr, rfl, rfl, PS.of HPD.out HT5.out e3 HSS.out (HB5.out.fr e2 (fun y hy e => (HWN.out y hy).1 e)) HP.out.hn HP.out.st HP.out.bd, e3, e1, by omega⟩
              case rest =>
                obtain ⟨W6, hW6⟩ : ∃ W, W = wc := ⟨wc, rfl⟩
                subst hW6
                obtain ⟨nx', tr', rfl, rfl, hps6, hf6, hw6, hc6⟩ := hcut
                obtain ⟨n1, n2, n3, n4, n5, n6, n7, n8, n9, n10⟩ := HN5.out
                have ns : ∀ y, bj ≤ y → y ≠ bw → ¬ (y ∈ [ba, bk, bn, bu] ∨ y = bw) := fun y hy hne h => by
                  rcases h with h | h
                  · have := n1 y (by simp at h ⊢; omega); omega
                  · exact hne h
                have HP6 := Lib.hid hps6
                have HJ6 := Lib.hid (HJ5.out.fr hf6 (ns bj (by omega) (by omega)))
                have HG6 := Lib.hid (HG5.out.fr hf6 (ns bg (by omega) (by omega)))
                have HK6 := Lib.hid (HK5.out.fr hf6 (ns bs (by omega) (by omega)))
                have HI6 := Lib.hid (HI5.out.fr hf6 (fun h => by
                  rcases h with h | h
                  · exact HZ.out.2.1 (by simp at h ⊢; omega)
                  · omega))
                have HW6 := Lib.hid hw6
                have HL6 := Lib.hid (show ∀ y, y ∈ [bm, bt, ba, bk, bb, bn, bu, bl] → y < W6.heap.size from fun y hy => by have := n1 y hy; have := HK6.out.lt; omega)
                have HV6 := Lib.hid (show (∀ x, Of v x → x < W6.heap.size) ∧ (∀ i, i < k → tb i < W6.heap.size) ∧ m < W6.heap.size ∧ g < W6.heap.size ∧ w.heap.size ≤ W6.heap.size from ⟨fun x hx => by have := n7 x hx; have := HK6.out.lt; omega, fun i hi => by have := n8 i hi; have := HK6.out.lt; omega, by have := HK6.out.lt; omega, by have := HK6.out.lt; omega, by have := HK6.out.lt; omega⟩)
                have HC6 := Lib.hid hc6
                clear hps6 hf6 hw6 hc6 n1 n2 n3 n4 n5 n6 n7 n8 n9 n10 ns HB5 HJ5 HG5 HK5 HI5 HW5 HT5 HN5 HSS HWN HP cX5 c5i c5l c5j c5A
                obtain ⟨si, hsi⟩ : ∃ q, q = st.is := ⟨_, rfl⟩
                obtain ⟨sw, hsw⟩ : ∃ q, q = st.why := ⟨_, rfl⟩
                obtain ⟨sa, hsa⟩ : ∃ q, q = st.at := ⟨_, rfl⟩
                have hcase := HTD.out.is
                rw [← hsi, ← hsw, ← hsa] at hcase
                rw [← hsw, ← hsa] at HK6 HW6
                rw [← hsi]
                have HCS := Lib.hid hcase
                clear hsi hsw hsa hcase HTD
                have c6k0 := HK6.out.cell 0
                have c6k1 := HK6.out.cell 1
                have c6w0 := HW6.out.cell 0
                have c6w1 := HW6.out.cell 1
                have c6j := HJ6.out.cell 0
                have c6g := HG6.out.cell 0
                have c6i := HI6.out.cell 0
                have c6m := HP6.out.M.cell 0
                have c6A := HP6.out.A.cell hjk
                have c6K := HP6.out.K.cell hjk
                obtain ⟨gv, cv, rfl, _, _, cells⟩ := HP6.out.s.T.at hjk
                have c6t := HP6.out.T.cell 0
                have c6v := cells j hjk
                clear cells
                go_upto_region 42 with fail
                go_cut [227] (fun t227 wx => t227 = .bool false ∧ ∃ q, wx = W6.drewN q)
                case first =>
                  rcases HCS.out with ⟨t1, t2, t3⟩ | ⟨t1, t2⟩
                  · as_aux_lemma =>
                    subst t1 t2 t3
                    go_quiet (first
                      | (go_at_call 16; exact quiet_left ((HP6.out.s.drewN _).at hjk rfl))
                      | (go_at_call 17; exact quiet_left ((HP6.out.s.drewN _).ticket hjk))
                      | (go_at_call 18; refine Calls.quiet_of_same (mem_count _ _ _ _ _ _ (HP6.out.s.drewN _).M)))
                    go_wp2_with fail
                    go_meet
                    case rel => exact ⟨rfl, _, rfl⟩
                  · as_aux_lemma =>
                    subst t1
                    go_quiet (first
                      | (go_at_call 16; exact quiet_left ((HP6.out.s.drewN _).at hjk rfl))
                      | (go_at_call 17; exact quiet_left ((HP6.out.s.drewN _).ticket hjk))
                      | (go_at_call 18; refine Calls.quiet_of_same (mem_count _ _ _ _ _ _ (HP6.out.s.drewN _).M)))
                    go_wp2_with fail
                    go_meet
                    case rel => exact ⟨rfl, _, rfl⟩
                case rest =>
                  obtain ⟨rfl, q7, rfl⟩ := hcut
                  as_aux_lemma =>
                    have HP7 := Lib.hid (HP6.out.fr ((Fr.refl (fun _ => False) W6).drewN q7))
                    have HI7 := Lib.hid (HI6.out.fr ((Fr.refl (fun _ => False) W6).drewN q7) id)
                    have hz7 : (W6.drewN q7).heap.size = W6.heap.size := rfl
                    rw [← hz7] at HL6 HV6
                    generalize W6.drewN q7 = W7 at *
                    clear c6k0 c6k1 c6w0 c6w1 c6j c6g c6i c6m c6A c6K c6t c6v hz7
                    have c7i := HI7.out.cell 0
                    go_wp2_with fail
                    have fz : Fr (fun _ => False) W7 (W7.alloc (.cells #[.int .i64 ((i : Int) + 1)] 3)) := (Fr.refl _ _).alloc _
                    have hB9 : Blk (W7.alloc (.cells #[.int .i64 ((i : Int) + 1)] 3)) W7.heap.size #[.int .i64 ((i + 1 : Nat) : Int)] 3 := by
                      have := Blk.at_new (w := W7) (b := W7.heap.size) (c := #[.int .i64 ((i : Int) + 1)]) (t := 3) rfl
                      simpa using this
                    refine ⟨⟨i + 1, W7.heap.size, V', _, at', tk', nx', tr', by omega, by omega, rfl, rfl, hB9, HP7.out.fr fz, ?_, by have := HC6.out; omega, HV6.out.2.2.2.2, fun h => by have := HL6.out _ h; omega, by have := HV6.out; omega, by have := HV6.out; omega, fun h => by have := HV6.out.1 _ h; omega, fun i hi h => by have := HV6.out.2.1 i hi; omega⟩, ?_⟩
                    · have := HP7.out.bd 0; omega
                    · rw [cellNat_of hB9, cellNat_of HI.out]; omega
          · have HW0 := Lib.hid (And.intro hc0 hc1)
            rcases (show ¬ (i : Int) < len ∨ ((i : Int) < len ∧ ¬ (i : Int) < 60) by omega) with hx | ⟨hx, hy⟩
            all_goals
              clear hr
              as_aux_lemma =>
                go_wp2_with fail
                clear cbi cbl lbi
                go_loopw [24] (fun t24 wq => ∃ (b : Nat) (c2 : Int), (b = 1 ∨ b = 3 ∨ b = 5) ∧ t24 = .int .i64 b ∧ PS w m g k v tb bm bt ba bk bb bn bu bl (.slice a len cap) V c2 at_ tk nx tr wq ∧ 0 ≤ c2 ∧ c2 ≤ 60 + b) (fun t24 _ => (5 - intOf t24).toNat)
                case atStart => exact ⟨1, c, .inl rfl, rfl, HP.out, hc0, by omega⟩
                case round =>
                  obtain ⟨b, c2, hb, rfl, hps2, hz1, hz2⟩ := hrel
                  have HP2 := Lib.hid hps2
                  clear hps2
                  by_cases h5 : b = 5
                  · subst h5
                    have HRR := Lib.hid ticketRuns_any
                    have HFF := Lib.hid HP2.out.s.F
                    go_wp2_with (go_at_call 3; (with_reducible refine (HRR.out _).mono ?_); rintro e w8 ⟨rfl, f8⟩; have HF8 := Lib.hid f8; clear f8)
                    go_ret
                    exact ⟨rfl, (HFF.out.trans HF8.out).below⟩
                  · have hb3 : (b : Int) ≤ 3 := by omega
                    have hb0 : (0 : Int) ≤ b := by omega
                    have hb4 : b < 4 := by omega
                    have hb4' : (b : Int) < 4 := by omega
                    have hwr : IntKind.i64.wrap ((b : Int) + 1) = (b : Int) + 1 := IntWalk.i64_in _ (by omega)
                    have c6m := HP2.out.M.cell 0
                    have c6N := HP2.out.N.cell hb4
                    have c6U := HP2.out.U.cell hb4
                    have e1 : V b = nx b := by
                      obtain ⟨h1, h2, h3, h4⟩ := HP2.out.hn
                      rcases (show b = 1 ∨ b = 3 by omega) with rfl | rfl
                      · exact h1.symm
                      · exact h2.symm
                    have e2 : V (b + 1) = tr b := by
                      obtain ⟨h1, h2, h3, h4⟩ := HP2.out.hn
                      rcases (show b = 1 ∨ b = 3 by omega) with rfl | rfl
                      · exact h3.symm
                      · exact h4.symm
                    have L1 := mem_load m g 6 V c2 b wr.drew (HP2.out.s.drew).M (by omega) (by omega)
                    rw [e1] at L1
                    have HL1 := Lib.hid L1
                    have HL2 : Hid (∀ w', PS w m g k v tb bm bt ba bk bb bn bu bl (.slice a len cap) V (c2 + 1) at_ tk nx tr w' → Calls Try.prog 22 #[.pointer (some ⟨m, 0, none⟩), .int .i64 ((b : Int) + 1)] w' fun e w'' => e = .returned (.int .i64 (tr b)) ∧ Fr (fun k => k = m) w' w'' ∧ Mem w'' m g 6 V (c2 + 1 + 1)) := fun w' h => by
                      have := mem_load m g 6 V (c2 + 1) (b + 1) w' h.s.M (by omega) (by omega)
                      rw [e2] at this
                      exact this
                    clear L1 e1 e2
                    go_wp2_with fail
                    go_region_held3 (fun w' => w'.cell? ⟨bm, 0, none⟩ = some (.pointer (some ⟨m, 0, none⟩)) ∧ w'.cell? ⟨bn, b, none⟩ = some (.int .i64 (nx b)) ∧ w'.cell? ⟨bu, b, none⟩ = some (.int .i64 (tr b))) (first | exact ⟨by assumption, by assumption, by assumption⟩)
                      (first
                        | (go_at_call 22; (with_reducible refine HL1.out.mono ?_); rintro e w7 ⟨rfl, f7, M7⟩; have P7 := (HP2.out.fr (Fr.refl (fun _ => False) _).drew).loaded HPD.out f7 M7; have k0 := P7.M.cell 0; have k1 := P7.N.cell hb4; have k2 := P7.U.cell hb4; have HP7 := Lib.hid P7; clear f7 M7 P7)
                        | (go_at_call 22; (with_reducible refine (HL2.out _ HP7.out).mono ?_); rintro e w8 ⟨rfl, f8, M8⟩; have P8 := HP7.out.loaded HPD.out f8 M8; have k3 := P8.M.cell 0; have k4 := P8.N.cell hb4; have k5 := P8.U.cell hb4; have HP8 := Lib.hid P8; clear f8 M8 P8))
                    all_goals go_wp2_with fail
                    all_goals exact ⟨⟨b + 2, c2 + 1 + 1, by omega, by go_num, HP8.out, by omega, by omega⟩, by simp [intOf]; omega⟩
end Go.Proofs.Ytkclbgoagcpckaa
