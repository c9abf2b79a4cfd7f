import Derived.Test.YtoifefcbegdjdaaTlbA
namespace Go.Proofs.Ytoifefcbegdjdaa
open Go.RowKit

theorem Fr.drewNo (w : World) (q : Nat) : Fr (fun _ => False) w (w.drewN q) := ⟨rfl, rfl, rfl, Nat.le_refl _, fun _ _ _ => rfl⟩

set_option maxHeartbeats 4000000 in
set_option maxRecDepth 100000 in
theorem tlbRuns_any (w : World) : Calls Try.prog 8 #[] w fun e w' => e = .returned (.bool true) ∧ Fr (fun _ => False) w w' := by
  go_enter Try.func8, Try.ntmps8
  go_wp2_with fail
  refine (tlb_new 2 (by omega) _).mono ?_
  rintro e w1 ⟨rfl, f1, t1⟩
  have HT1 := Lib.hid t1
  have HF1 := Lib.hid f1
  clear t1 f1
  go_wp2_with fail
  refine (hart_new 2 (by omega) _).mono ?_
  rintro e w2 ⟨rfl, f2, h2⟩
  have s2 : TS w w2 (w.heap.size + 1) 2 (EE [] []) (fun k => w.heap.size ≤ k ∧ k < w.heap.size + 2) (w1.heap.size + 1) w1.heap.size (fun _ => ⟨true, false, 0, 0⟩) := by
    have l1 : w.heap.size + 1 < w1.heap.size := HT1.out.lt ⟨by omega, by omega⟩
    exact ⟨(HT1.out.fr f2 (fun _ _ => id)).congr (fun i _ => by unfold EE; split <;> rfl), h2, HF1.out.trans f2, ⟨by omega, by omega⟩, fun k hk => hk.1, by omega⟩
  obtain ⟨x, ex⟩ : ∃ x, x = w.heap.size + 1 := ⟨_, rfl⟩
  obtain ⟨hx, ehx⟩ : ∃ x, x = w1.heap.size + 1 := ⟨_, rfl⟩
  obtain ⟨F, eF⟩ : ∃ F : Nat → Prop, F = (fun k => w.heap.size ≤ k ∧ k < w.heap.size + 2) := ⟨_, rfl⟩
  generalize w1.heap.size = hg at *
  rw [← ex, ← ehx, ← eF] at s2
  rw [← ex, ← ehx]
  have S2 := Lib.hid s2
  clear s2 f2 h2 HT1 HF1 ex ehx eF
  have B3 := Blk.at_new (w := w2) (b := w2.heap.size) (c := #[.int .i64 1, .int .i64 0, .int .i64 7]) (t := 56) rfl
  have s3 := S2.out.fr ((Fr.refl (fun _ => False) w2).alloc (.cells #[.int .i64 1, .int .i64 0, .int .i64 7] 56))
  have nb : ¬ F w2.heap.size := fun hk => by have := S2.out.t.lt hk; omega
  go_wp2_with fail
  generalize (w2.alloc (.cells #[.int .i64 1, .int .i64 0, .int .i64 7] 56)) = w3 at *
  generalize w2.heap.size = bm at *
  clear S2
  refine (s3.fill (i := 0) (by omega) ⟨1, 0, 7⟩).mono ?_
  rintro e w4 ⟨rfl, F4, s4, f4, hF4⟩
  have B4 := B3.fr f4 nb
  have nb4 : ¬ F4 bm := fun hk => (hF4 _ hk).elim nb (fun h => by have := B3.lt; omega)
  have s4' := s4.congr (E' := EE [⟨1, 0, 7⟩] []) (fun i hi => by rw [EE_upd0 _ _ _ i hi]; rfl) (fun _ _ => rfl)
  have c0 := B4.cell 0
  have c1 := B4.cell 1
  have c2 := B4.cell 2
  have S4 := Lib.hid s4'
  have HB4 := Lib.hid B4
  have HN4 := Lib.hid nb4
  clear s3 s4 s4' f4 hF4 B3 B4 nb nb4
  go_wp2_with fail
  refine (S4.out.fill (i := 1) (by omega) ⟨1, 0, 7⟩).mono ?_
  rintro e w5 ⟨rfl, F5, s5, f5, hF5⟩
  have s5' := s5.congr (E' := EE [⟨1, 0, 7⟩] [⟨1, 0, 7⟩]) (fun i hi => by rw [EE_upd1 _ _ _ i hi]; rfl) (fun _ _ => rfl)
  have S5 := Lib.hid s5'
  clear s5 s5' f5 hF5 c0 c1 c2 S4 HB4 HN4
  go_wp2_with fail
  have O6 : Own (w5.alloc (.cells #[.int .i64 7] 3)) 3 1 1 (.slice (some ⟨w5.heap.size, 0, none⟩) 1 1) (ints [7]) := Own.lit (w := w5) #[.int .i64 7] 3 1 1 (by unfold maxLen; omega) rfl
  refine ((S5.out.fr ((Fr.refl (fun _ => False) w5).alloc (.cells #[.int .i64 7] 3))).shoot (me := 0) (by omega) (by omega) (l := [7]) O6.rd (by simp) (fun k hk hF => by have := Of.at O6 hk; have e' : some w5.heap.size = some k := this; simp at e'; have := S5.out.t.lt hF; omega) (fun j _ => by simp)).mono ?_
  rintro e w7 ⟨s, wb, pv, F7, rfl, s7, _, _, _, _⟩
  obtain ⟨B7, hB7⟩ : ∃ B : Nat → Bool, B = fun j => decide (j ≠ 0) := ⟨_, rfl⟩
  obtain ⟨G7, hG7⟩ : ∃ G : Nat → HOne, G = posted 0 (fun _ => ⟨true, false, 0, 0⟩) 2 := ⟨_, rfl⟩
  have s7' : TSS w w7 x 2 (EE [] [⟨1, 0, 7⟩]) F7 hx hg G7 s pv [7] wb B7 := ⟨s7.t.congr (fun i hi => by rw [EE_upd0 _ _ _ i hi]; rfl) (fun _ _ => by rw [hG7]), by rw [hB7]; exact s7.sh, s7.d, s7.o⟩
  have hw7 : whoWait B7 2 = [1] := by rw [hB7]; rfl
  have hb7 : B7 1 = true := by rw [hB7]; rfl
  have hb7' : ∀ j, j < 2 → upd B7 1 false j = true → False := fun j hj h => by
    rw [hB7] at h
    match j, hj with
    | 0, _ => simp [upd] at h
    | 1, _ => simp [upd] at h
  have hg7 : (G7 1).mail = 2 := by rw [hG7]; rfl
  have WT := shot_waits s x pv [7] wb 2 B7 w7 s7'.sh (by omega)
  rw [hw7] at WT
  have WT := Lib.hid WT
  have S7 := Lib.hid s7'
  have HB7 := Lib.hid hb7
  have HB7' := Lib.hid hb7'
  have HG7 := Lib.hid hg7
  clear O6 S5 s7 s7' hB7 hG7 hb7 hb7' hg7 hw7
  go_wp2_with fail
  refine WT.out.mono ?_
  rintro e w8 ⟨v8, rfl, O8, f8, n8⟩
  have s8 := S7.out.fr f8
  have k8 : ∀ k, Of v8 k → ¬ F7 k ∧ k ≠ wb ∧ k ≠ hg := fun k hk => by
    have h1 := n8 k hk
    have h2 := S7.out.sh.a.lt
    have h3 := S7.out.t.h.a.lt
    exact ⟨fun h => by have := S7.out.t.t.lt h; omega, by omega, by omega⟩
  have S8 := Lib.hid s8
  have HO8 := Lib.hid O8
  have HK8 := Lib.hid k8
  obtain ⟨a8, c8, rfl, _, _⟩ := O8.form
  clear WT S7 s8 O8 f8 n8 k8
  go_wp2_with fail
  refine (tlb_find_no x 2 _ F7 0 w8 S8.out.t.t (by omega) 1 0 (fun z hz => by simp [EE] at hz)).mono ?_
  rintro e w9 ⟨rfl, f9⟩
  have s9 := S8.out.fr f9
  have O9 := HO8.out.fr f9 (fun _ _ => id)
  have S9 := Lib.hid s9
  have HO9 := Lib.hid O9
  clear S8 HO8 s9 O9 f9
  go_wp2_with fail
  refine (tlb_find_yes x 2 _ F7 1 w9 S9.out.t.t (by omega) 1 0 0 ⟨1, 0, 7⟩ rfl ⟨rfl, rfl⟩ (fun j hj => absurd hj (by omega))).mono ?_
  rintro e w10 ⟨rfl, f10⟩
  have s10 := S9.out.fr f10
  have O10 := HO9.out.fr f10 (fun _ _ => id)
  have S10 := Lib.hid s10
  have HO10 := Lib.hid O10
  clear S9 HO9 s10 O10 f10
  go_wp2_with fail
  have AN := S10.out.answer (i := 1) (by omega) HB7.out (by simp)
  have ean : ((EE [] [⟨1, 0, 7⟩] 1).length - (spared (EE [] [⟨1, 0, 7⟩] 1) [7]).length : Int) = 1 := by rfl
  rw [ean] at AN
  refine AN.mono ?_
  rintro e w11 ⟨rfl, F11, s11, f11, hF11⟩
  have s11' : TSS w w11 x 2 (EE [] []) F11 hx hg G7 s pv [7] wb (upd B7 1 false) := ⟨s11.t.congr (fun i hi => by rw [EE_upd1 _ _ _ i hi]; rfl) (fun _ _ => rfl), s11.sh, s11.d, s11.o⟩
  have O11 := HO10.out.fr f11 (fun k hk h => h.elim (HK8.out k hk).1 (HK8.out k hk).2.1)
  have S11 := Lib.hid s11'
  have HO11 := Lib.hid O11
  clear S10 HO10 s11 s11' O11 f11 AN ean hF11
  go_wp2_with fail
  refine (S11.out.take (i := 1) (q := 1) (v := 1) (by omega) (by rw [HG7.out]; omega) (by rw [HG7.out]; omega) (by rw [HG7.out]; rfl) rfl).mono ?_
  rintro e w12 ⟨rfl, s12, f12⟩
  have O12 := HO11.out.fr f12 (fun k hk h => (HK8.out k hk).2.2 h)
  have f13 := (Fr.refl (fun _ => False) w12).alloc (.cells #[.int .i64 1] 3)
  have O13 := O12.fr f13 (fun _ _ => id)
  have s13 := s12.fr f13
  have P13 : Own (w12.alloc (.cells #[.int .i64 1] 3)) 3 1 1 (.slice (some ⟨w12.heap.size, 0, none⟩) 1 1) (ints [1]) := Own.lit (w := w12) #[.int .i64 1] 3 1 1 (by unfold maxLen; omega) rfl
  have SM := sl_same _ _ [1] [1] _ O13.rd P13.rd (by simp)
  rw [show decide (([1] : List Int) = [1]) = true from rfl] at SM
  have SM := Lib.hid SM
  have S13 := Lib.hid s13
  clear S11 HO11 s12 O12 f12 f13 O13 s13 P13
  go_wp2_with fail
  refine SM.out.mono ?_
  rintro e w14 ⟨rfl, q14, rfl⟩
  have s14 := S13.out.fr (Fr.drewNo _ q14)
  generalize (w12.alloc (.cells #[.int .i64 1] 3)).drewN q14 = w14 at *
  have S14 := Lib.hid s14
  clear S13 SM s14
  go_wp2_with fail
  refine (shot_done s x pv [7] wb 2 (upd B7 1 false) w14 S14.out.sh (by omega) false ⟨fun h => by simp at h, fun ⟨j, hj, h⟩ => (HB7'.out j hj h).elim⟩).mono ?_
  rintro e w15 ⟨rfl, rfl⟩
  go_wp2_with fail
  refine (tlb_list x 2 _ _ 1 w14 S14.out.t.t (by omega)).mono ?_
  rintro e w16 ⟨v16, rfl, O16, f16, _⟩
  obtain ⟨a16, c16, rfl, _, _⟩ := O16.form
  have HF16 := Lib.hid f16
  clear f16 O16
  go_wp2_with fail
  go_ret
  exact ⟨rfl, S14.out.t.f.trans HF16.out⟩
theorem tlbRuns_walk (w : World) : Calls Try.prog 8 #[] w fun e w' => e = .returned (.bool true) ∧ Below w.heap.size w w' :=
  (tlbRuns_any w).mono fun _ _ ⟨h, f⟩ => ⟨h, f.below⟩
end Go.Proofs.Ytoifefcbegdjdaa
