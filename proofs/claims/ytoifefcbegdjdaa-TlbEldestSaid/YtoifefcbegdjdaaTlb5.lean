import Derived.Test.YtoifefcbegdjdaaTlb4
namespace Go.Proofs.Ytoifefcbegdjdaa
open Go.RowKit

section
variable (s x : Nat) (pv : Value) (l : List Int) (wb n : Nat) (B : Nat → Bool) (E : Nat → List Ent) (F : Nat → Prop) (w : World) (h : Shot w s x pv l wb n B) (t : Tlb w x n E F)
include h t
theorem shot_answer_no (i : Int) (hi : (i < 0 ∨ (n : Int) ≤ i) ∨ ∃ j : Nat, i = j ∧ j < n ∧ B j = false) :
    Calls Try.prog 42 #[.pointer (some ⟨s, 0, none⟩), .int .i64 i] w fun e w' => e = .returned (.int .i64 0) ∧ w = w' := by
  have h0 := h.h.cell 0
  have h2 := h.h.cell 2
  rcases hi with hi | ⟨j, rfl, hj, hb⟩
  · have HH := Lib.hid (tlb_has_no x n E F w t i hi)
    clear h t
    go_enter Try.func42, Try.ntmps42
    go_wp2_with (go_at_call 69; with_reducible refine HH.out.mono ?_; rintro e w' ⟨rfl, rfl⟩)
    go_ret
    exact ⟨rfl, rfl⟩
  · have HH := Lib.hid (tlb_has x n E F w t j hj)
    have ci := h.a.cell hj
    simp only [hb] at ci
    have hj' : (j : Int) < n := by omega
    clear h t hb
    go_enter Try.func42, Try.ntmps42
    go_wp2_with (go_at_call 69; with_reducible refine HH.out.mono ?_; rintro e w' ⟨rfl, rfl⟩)
    go_ret
    exact ⟨rfl, rfl⟩

theorem shot_answer (i : Nat) (hi : i < n) (hb : B i = true) (hl : l.length ≤ 1000000) (hd : ¬ F s ∧ ¬ F wb ∧ ∀ k, Of pv k → ¬ F k) :
    Calls Try.prog 42 #[.pointer (some ⟨s, 0, none⟩), .int .i64 i] w fun e w' => e = .returned (.int .i64 ((E i).length - (spared (E i) l).length : Int)) ∧ Fr (fun k => F k ∨ k = wb) w w' ∧ Shot w' s x pv l wb n (upd B i false) ∧
      ∃ F', Tlb w' x n (upd E i (spared (E i) l)) F' ∧ ∀ k, F' k → F k ∨ w.heap.size ≤ k := by
  have h0 := h.h.cell 0
  have h1 := h.h.cell 1
  have h2 := h.h.cell 2
  have HH := Lib.hid (tlb_has x n E F w t i hi)
  have ci := h.a.cell hi
  simp only [hb] at ci
  have hi' : (i : Int) < n := by omega
  have fr := h.a.frozen
  have lt := h.a.lt
  have hsw : s ≠ wb := (h.a.ne h.h (by decide)).symm
  have hpw : ∀ k, Of pv k → k ≠ wb := fun k hk e => h.a.elim fun c hc => h.p.ne hc.1 (by decide) (e ▸ hk)
  have f1 : Fr (fun k => k = wb) w (w.setCell ⟨wb, i, none⟩ (.bool false)) := Fr.set1 _ _ _ _
  have S1 : Shot (w.setCell ⟨wb, i, none⟩ (.bool false)) s x pv l wb n (upd B i false) := ⟨h.h.fr f1 hsw, (h.a.set i (.bool false)).congr (fun j _ => by simp only [upd]; split <;> rfl), h.p.fr f1 hpw⟩
  have T1 := t.fr f1 (fun k hk e => hd.2.1 (e ▸ hk))
  have HD := Lib.hid (tlb_drop x n E F i (w.setCell ⟨wb, i, none⟩ (.bool false)).drew (T1.fr (Fr.refl (fun _ => False) _).drew (fun _ _ => id)) hi pv l (S1.p.rd.fr (Fr.refl (fun _ => False) _).drew (fun _ _ => id)) (fun k hk => hd.2.2 k (Of.at S1.p hk)) hl)
  have AFT : Hid (∀ w', Fr F (w.setCell ⟨wb, i, none⟩ (.bool false)).drew w' → w'.cell? ⟨s, 0, none⟩ = some (.pointer (some ⟨x, 0, none⟩)) ∧ w'.cell? ⟨s, 1, none⟩ = some pv ∧ Hid (Shot w' s x pv l wb n (upd B i false)) ∧ Hid (Fr (fun k => F k ∨ k = wb) w w')) := fun w' f => by
    have S2 := S1.fr ((Fr.refl F _).drew.trans f) (fun k hk => ⟨fun e => hd.1 (e ▸ hk), fun e => hd.2.1 (e ▸ hk), fun e => hd.2.2 k e hk⟩)
    exact ⟨S2.h.cell 0, S2.h.cell 1, S2, (f1.mono (fun k _ => .inr)).trans ((Fr.refl _ _).drew.trans (f.mono (fun k _ => .inl)))⟩
  have e0 : (w.setCell ⟨wb, i, none⟩ (.bool false)).cell? ⟨s, 0, none⟩ = some (.pointer (some ⟨x, 0, none⟩)) := S1.h.cell 0
  have e1 : (w.setCell ⟨wb, i, none⟩ (.bool false)).cell? ⟨s, 1, none⟩ = some pv := S1.h.cell 1
  have HZ := Lib.hid f1.size
  clear h t hb hd S1 T1 f1 hpw
  go_enter Try.func42, Try.ntmps42
  go_wp2_with (go_at_call 69; with_reducible refine HH.out.mono ?_; rintro e w' ⟨rfl, rfl⟩)
  generalize w.setCell ⟨wb, i, none⟩ (.bool false) = w1 at *
  go_region_held3 (fun w' => w'.cell? ⟨s, 0, none⟩ = some (.pointer (some ⟨x, 0, none⟩)) ∧ w'.cell? ⟨s, 1, none⟩ = some pv) (first | exact ⟨by assumption, by assumption⟩)
    (first | (go_at_call 49; with_reducible refine HD.out.mono ?_; rintro e w2 ⟨rfl, F2, R2⟩; obtain ⟨k0, k1, HS, HF⟩ := AFT.out w2 F2; have HR := Lib.hid R2; clear F2 R2))
  all_goals go_wp2_with fail
  all_goals go_ret
  all_goals exact ⟨rfl, HF.out, HS.out, HR.out.elim fun F' h => ⟨F', h.1, fun k hk => (h.2 k hk).imp id (fun h => Nat.le_trans HZ.out h)⟩⟩
end

theorem made_bool (n : Nat) (h : n ≤ 1000000) (w : World) :
    (Instr.makeSlice 71 (.int .i64 (n : Int)) (.int .i64 (n : Int))).run Try.prog w = .ok (.slice (some ⟨w.heap.size, 0, none⟩) n n) (w.alloc (.cells (madeCells #[.bool false] n) 4)) :=
  made1 _ _ _ _ 1 Try.underlying71 info_bool' rfl n (by omega) (by omega) w

/-- mail to all but one -/
def posted (me : Nat) (G : Nat → HOne) (j : Nat) : Nat → HOne := fun q => if q < j ∧ q ≠ me then { G q with mail := putb (G q).mail 1 } else G q

set_option maxHeartbeats 4000000 in
set_option maxRecDepth 100000 in
theorem tlb_shoot (x n : Nat) (E : Nat → List Ent) (F : Nat → Prop) (hx hg : Nat) (G : Nat → HOne) (me : Nat) (pv : Value) (l : List Int) (w : World) (t : Tlb w x n E F) (H : HartsB w hx hg n G) (hn : n ≤ 1000) (hme : me < n)
    (R : Rd w pv (ints l)) (hl : l.length ≤ 1000000) (hb : ∀ k, At pv k → ¬ F k) (hd : ¬ F hx ∧ ¬ F hg) (hm : ∀ j, j < n → (G j).mail < 256) :
    Calls Try.prog 39 #[.pointer (some ⟨x, 0, none⟩), .pointer (some ⟨hx, 0, none⟩), .int .i64 me, pv] w fun e w' => ∃ s wb pv', e = .returned (.pointer (some ⟨s, 0, none⟩)) ∧ Fr (fun k => F k ∨ k = hg) w w' ∧
      Shot w' s x pv' l wb n (fun j => decide (j ≠ me)) ∧ HartsB w' hx hg n (posted me G n) ∧ ∃ F', Tlb w' x n (upd E me (spared (E me) l)) F' ∧ (∀ k, F' k → F k ∨ w.heap.size ≤ k) ∧ ¬ F' s ∧ ¬ F' wb ∧ (∀ k, Of pv' k → ¬ F' k) ∧ w.heap.size ≤ s ∧ w.heap.size ≤ wb := by
  obtain ⟨g, v, t⟩ := t
  have hmk := made_bool n (by omega)
  have HC := Lib.hid (sl_clone pv l w.drew (R.fr (Fr.refl (fun _ => False) _).drew (fun _ _ => id)) hl)
  have HC2 := Lib.hid (sl_clone pv l (w.alloc (.cells (madeCells #[.bool false] n) 4)).drew (R.fr ((Fr.refl (fun _ => False) _).alloc _).drew (fun _ _ => id)) hl)
  have F1 : Fr (fun _ => False) w (w.alloc (.cells (madeCells #[.bool false] n) 4)).drew := ((Fr.refl (fun _ => False) _).alloc _).drew
  have HF1 := Lib.hid F1
  clear F1
  have h0 := t.h.cell 0
  have hxl := t.h.lt
  have HT := Lib.hid t
  have HH := Lib.hid H
  have HR := Lib.hid R
  have HB := Lib.hid hb
  have HD := Lib.hid hd
  have HM := Lib.hid hm
  obtain ⟨pa, pc, hpv, _, _⟩ := R.form
  clear t H R hb hd hm
  rw [hpv]
  rw [hpv] at HC HC2
  have HPV := Lib.hid hpv
  clear hpv
  go_enter Try.func39, Try.ntmps39
  go_wp2_with fail
  go_region_held3 (fun w' => w'.cell? ⟨x, 0, none⟩ = some (.slice (some ⟨g, 0, none⟩) n n)) (first | assumption | go_keep)
    (first
      | (go_at_call 67; (with_reducible refine HC.out.mono ?_); rintro e w2 ⟨v2, rfl, O2, F2, N2⟩; obtain ⟨a2, c2, rfl, _, _⟩ := O2.form; have k0 := F2.cellAt hxl h0; have HO2 := Lib.hid O2; have HF2 := Lib.hid F2; have HN2 := Lib.hid N2; clear O2 F2 N2)
      | (go_at_call 67; (with_reducible refine HC2.out.mono ?_); rintro e w2 ⟨v2, rfl, O2, F2, N2⟩; obtain ⟨a2, c2, rfl, _, _⟩ := O2.form; have k0 := (HF1.out.trans F2).cellAt hxl h0; have HO2 := Lib.hid O2; have HF2 := Lib.hid F2; have HN2 := Lib.hid N2; clear O2 F2 N2))
  obtain ⟨W1, s, wb, e1, e2, e3, hS, hF, hn1, hn2, hn3⟩ : ∃ W1 s wb, W1 = (w2.alloc (.cells (madeCells #[.bool false] n) 4)).alloc (.cells #[.pointer (some ⟨x, 0, none⟩), .slice a2 l.length c2, .slice (some ⟨w2.heap.size, 0, none⟩) n n] 103) ∧ s = w2.heap.size + 1 ∧ wb = w2.heap.size ∧
        Shot W1 s x (.slice a2 l.length c2) l wb n (fun _ => false) ∧ Fr (fun _ => False) w W1 ∧ w.heap.size ≤ s ∧ w.heap.size ≤ wb ∧ ∀ k, Of (.slice a2 l.length c2) k → w.heap.size ≤ k := by
      have f2 : Fr (fun _ => False) w w2 := (Fr.refl _ _).drew.trans HF2.out
      have hz := f2.size
      exact ⟨_, _, _, rfl, rfl, rfl, ⟨Blk.at_new (by simp), (Arr.at_new _ _ rfl).alloc _, HO2.out.fr (((Fr.refl (fun _ => False) _).alloc _).alloc _) (fun _ _ => id)⟩, (f2.alloc _).alloc _, by omega, hz, HN2.out⟩
  rw [← e1, ← e2, ← e3]
  clear e1 e2 e3 k0 HO2 HF2 HN2 HF1 HC HC2
  rotate_left 1
  obtain ⟨W1, s, wb, e1, e2, e3, hS, hF, hn1, hn2, hn3⟩ : ∃ W1 s wb, W1 = w2.alloc (.cells #[.pointer (some ⟨x, 0, none⟩), .slice a2 l.length c2, .slice (some ⟨w.heap.size, 0, none⟩) n n] 103) ∧ s = w2.heap.size ∧ wb = w.heap.size ∧
        Shot W1 s x (.slice a2 l.length c2) l wb n (fun _ => false) ∧ Fr (fun _ => False) w W1 ∧ w.heap.size ≤ s ∧ w.heap.size ≤ wb ∧ ∀ k, Of (.slice a2 l.length c2) k → w.heap.size ≤ k := by
      have f2 : Fr (fun _ => False) w w2 := HF1.out.trans HF2.out
      have hz := f2.size
      have hz1 : (w.alloc (.cells (madeCells #[.bool false] n) 4)).drew.heap.size = w.heap.size + 1 := by simp [World.drew]
      exact ⟨_, _, _, rfl, rfl, rfl, ⟨Blk.at_new (by simp), (((Arr.at_new (w := w) (.bool false) n (t := 4) rfl).fr (Fr.refl (fun _ => False) _).drew id).fr HF2.out id).alloc _, HO2.out.fr ((Fr.refl (fun _ => False) _).alloc _) (fun _ _ => id)⟩, f2.alloc _, hz, Nat.le_refl _, fun k hk => by have := HN2.out k hk; omega⟩
  rw [← e1, ← e2, ← e3]
  clear e1 e2 e3 k0 HO2 HF2 HN2 HF1 HC HC2
  rotate_left 1
  all_goals (
    have TD := tlb_drop x n E F me W1 ⟨g, v, HT.out.fr hF (fun _ _ => id)⟩ hme pv l (HR.out.fr hF (fun _ _ => id)) HB.out hl
    rw [HPV.out] at TD
    have TD := Lib.hid TD
    have HS := Lib.hid hS
    have HF := Lib.hid hF
    have HF0 := Lib.hid hF.size
    have HN1 := Lib.hid hn1
    have HN2 := Lib.hid hn2
    have HN3 := Lib.hid hn3
    clear hS hF hn1 hn2 hn3 h0 hmk
    go_wp2_with (go_at_call 49; (with_reducible refine TD.out.mono ?_); rintro e w3 ⟨rfl, F3, F', ⟨g3, v3, T3⟩, hF'⟩; have k0 := T3.h.cell 0; have HT3 := Lib.hid T3; have HF3 := Lib.hid F3; have HF' := Lib.hid hF'; clear F3 T3 hF')
    obtain ⟨HFS, HS3, HH3, HFG⟩ : Hid (¬ F' s ∧ ¬ F' wb ∧ (∀ k, Of (.slice a2 l.length c2) k → ¬ F' k) ∧ ¬ F' hx ∧ ¬ F' hg ∧ s ≠ hg ∧ wb ≠ hg ∧ (∀ k, Of (.slice a2 l.length c2) k → k ≠ hg) ∧ wb ≠ s ∧ (∀ k, Of (.slice a2 l.length c2) k → k ≠ wb) ∧ wb ≠ hx) ∧ Hid (Shot w3 s x (.slice a2 l.length c2) l wb n (fun _ => false)) ∧ Hid (HartsB w3 hx hg n G) ∧ Hid (Fr (fun k => F k ∨ k = hg) w w3) := by
      have hzF := HT.out.fb
      have hS := HS.out
      have l1 := hS.h.lt
      have l2 := hS.a.lt
      have l3 := HH.out.h.lt
      have l4 := HH.out.a.lt
      have l5 := HF.out.size
      have q1 := HN1.out
      have q2 := HN2.out
      have fs : ∀ k, w.heap.size ≤ k → k < W1.heap.size → ¬ F' k := fun k h1 h2 h3 => (HF'.out k h3).elim (fun h => by have := hzF k h; omega) (fun h => by omega)
      have fo : ∀ k, w.heap.size ≤ k → ¬ F k := fun k h1 h2 => by have := hzF k h2; omega
      refine ⟨⟨fs s q1 l1, fs wb q2 l2, fun k hk => fs k (HN3.out k hk) (hS.p.lt hk), fun h => (HF'.out _ h).elim HD.out.1 (fun h => by omega), fun h => (HF'.out _ h).elim HD.out.2 (fun h => by omega), by omega, by omega, fun k hk => by have := HN3.out k hk; omega, hS.a.ne hS.h (by decide), fun k hk e => hS.a.elim fun c hc => hS.p.ne hc.1 (by decide) (e ▸ hk), by omega⟩,
        hS.fr HF3.out (fun k hk => ⟨fun e => fo s q1 (e ▸ hk), fun e => fo wb q2 (e ▸ hk), fun e => fo k (HN3.out k e) hk⟩), (HH.out.fr HF.out id id).fr HF3.out HD.out.1 HD.out.2, (HF.out.mono (fun k _ => False.elim)).trans (HF3.out.mono (fun k _ => .inl))⟩
    have HT3' : Hid (Tlb w3 x n (upd E me (spared (E me) l)) F') := ⟨g3, v3, HT3.out⟩
    have hnn : (n : Int) ≤ 1000 := by omega
    go_loopw [10, 31] (fun _ t31 wr => ∃ j : Nat, j ≤ n ∧ t31 = .int .i64 j ∧ Shot wr s x (.slice a2 l.length c2) l wb n (fun q => decide (q < j ∧ q ≠ me)) ∧ HartsB wr hx hg n (posted me G j) ∧ Tlb wr x n (upd E me (spared (E me) l)) F' ∧ Fr (fun k => F k ∨ k = hg) w wr) (fun _ t31 _ => (n - intOf t31).toNat)
    case atStart =>
      exact ⟨0, by omega, rfl, ⟨HS3.out.h, HS3.out.a.congr (fun q _ => by simp), HS3.out.p⟩, HH3.out.congr (fun q _ => by simp [posted]), HT3'.out, HFG.out⟩
    case round =>
      obtain ⟨j, hj, rfl, hS, hH, hT, hF⟩ := hrel
      have HS := Lib.hid hS
      have HH := Lib.hid hH
      have HT := Lib.hid hT
      have HF := Lib.hid hF
      by_cases hjn : j < n
      · have hjn' : (j : Int) < n := by omega
        by_cases hjm : j = me
        · subst hjm
          clear hS hH hT hF k0
          go_wp2_with fail
          refine ⟨⟨j + 1, by omega, by go_num, ⟨HS.out.h, HS.out.a.congr (fun q _ => ?_), HS.out.p⟩, HH.out.congr (fun q _ => ?_), HT.out, HF.out⟩, by simp [intOf]; omega⟩
          · congr 1
            apply decide_eq_decide.2
            omega
          · unfold posted
            by_cases e : q = j
            · subst e; simp
            · have : (q < j ∧ q ≠ j) ↔ (q < j + 1 ∧ q ≠ j) := by omega
              simp only [this]
        · have hne : ((j : Int) != (me : Int)) = true := bne_iff_ne.2 (by omega)
          have hne2 : (j != me) = true := bne_iff_ne.2 hjm
          have hpj : posted me G j j = G j := by simp [posted]
          have HP := hart_post hx hg n (posted me G j) j wr hH hjn 1 (by omega) (by rw [hpj]; exact HM.out j hjn)
          rw [hpj] at HP
          have HP := Lib.hid HP
          have AFT : Hid (∀ w', Fr (fun k => k = hg) wr w' → w'.cell? ⟨s, 2, none⟩ = some (.slice (some ⟨wb, 0, none⟩) n n) ∧ w'.cell? ⟨wb, j, none⟩ = some (.bool (decide (j < j ∧ j ≠ me))) ∧ (∀ q, w'.frozen? ⟨wb, q, none⟩ = false) ∧ wb < w'.heap.size ∧ Hid (Shot w' s x (.slice a2 l.length c2) l wb n (fun q => decide (q < j ∧ q ≠ me)))) := fun w' f => by
            have S2 := hS.fr f (fun k hk => ⟨fun e => HFS.out.2.2.2.2.2.1 (by omega), fun e => HFS.out.2.2.2.2.2.2.1 (by omega), fun e => HFS.out.2.2.2.2.2.2.2.1 k e hk⟩)
            exact ⟨S2.h.cell 2, S2.a.cell hjn, S2.a.frozen, S2.a.lt, S2⟩
          clear hS hH hT hF k0 hpj
          go_wp2_with (go_at_call 73; refine HP.out.mono ?_; rintro e w4 ⟨rfl, F4, H4⟩; obtain ⟨n0, n1, n2, n3, HS4⟩ := AFT.out w4 F4; have HF4 := Lib.hid F4; have HH4 := Lib.hid H4; clear F4 H4)
          have fw : Fr (fun k => k = wb) w4 (w4.setCell ⟨wb, j, none⟩ (.bool true)) := Fr.set1 _ _ _ _
          obtain ⟨g1, g2, g3', g4, g5, g6, g7, g8, g9, g10, g11⟩ := HFS.out
          have hwz := HN2.out
          refine ⟨⟨j + 1, by omega, by go_num, ⟨HS4.out.h.fr fw (fun e => g9 e.symm), (HS4.out.a.set j (.bool true)).congr (fun q _ => ?_), HS4.out.p.fr fw g10⟩, ((HH4.out.fr fw (fun e => g11 e.symm) (fun e => g7 e.symm)).congr (fun q _ => ?_)), (HT.out.fr HF4.out (fun k hk e => g5 (e ▸ hk))).fr fw (fun k hk e => g2 (e ▸ hk)), (HF.out.trans (HF4.out.mono (fun k _ => .inr))).step fw (fun k hk e => by omega)⟩, by simp [intOf]; omega⟩
          · simp only [upd]
            split
            · rename_i e; subst e; simp [hjm]
            · rename_i e
              congr 1
              apply decide_eq_decide.2
              omega
          · simp only [upd, posted]
            split
            · rename_i e; subst e; rw [if_pos ⟨by omega, hjm⟩]
            · rename_i e
              have : (q < j ∧ q ≠ me) ↔ (q < j + 1 ∧ q ≠ me) := by omega
              simp only [this]
      · have hjn' : ¬ (j : Int) < n := by omega
        obtain rfl : j = n := by omega
        clear hS hH hT hF k0
        go_wp2_with fail
        go_ret
        obtain ⟨g1, g2, g3', _⟩ := HFS.out
        have hz1 := HN1.out
        have hz2 := HF.out.size
        exact ⟨s, rfl, HF.out, wb, _, ⟨HS.out.h, HS.out.a.congr (fun q hq => by congr 1; simp [hq]), HS.out.p⟩, HH.out, F', HT.out, fun k hk => (HF'.out k hk).imp id (fun h => Nat.le_trans HF0.out h), g1, g2, g3', hz1, HN2.out⟩)
end Go.Proofs.Ytoifefcbegdjdaa
