import Derived.Test.YtkclbgoagcpckaaTickT
import Derived.Deep.Cut
import Derived.Deep.CutRange
import Derived.Deep.DeepCutAuto
namespace Go.Proofs.Ytkclbgoagcpckaa
open Go.RowKit

/-- i fresh tries of one lock have been made, and put in some order -/
def TurnMade (w0 : World) (m g k : Nat) (t7 t8 t9 : Value) (w : World) : Prop :=
  ∃ (i : Nat) (tb : Nat → Nat) (pl : List Int), i ≤ k ∧ t9 = .int .i64 i ∧ Mem w m g 2 (fun _ => 0) 0 ∧ Tries w t7 i tb (fun _ => 0) (fun _ => 0) (fun _ => -1) ∧
    (∀ j, j < i → tb j ≠ m ∧ tb j ≠ g ∧ w0.heap.size ≤ tb j) ∧ (∀ x, Of t7 x → w0.heap.size ≤ x ∧ x ≠ m ∧ x ≠ g) ∧ Fr (fun _ => False) w0 w ∧
    pl.length = i ∧ pl.Nodup ∧ (∀ y ∈ pl, ∃ j : Nat, y = j ∧ j < i) ∧ Own w 3 1 pl.length t8 (ints pl) ∧ (∀ x, Of t8 x → w0.heap.size ≤ x ∧ x ≠ m ∧ x ≠ g ∧ ¬ Of t7 x ∧ ∀ j, j < i → x ≠ tb j)

theorem add_cell (b o q : Nat) : (⟨b, o, none⟩ : Addr).add q = ⟨b, o + q, none⟩ := by unfold Addr.add; split <;> simp_all
/-- a list cut in two at q -/
theorem cut_two {w : World} {pl : List Int} {a8 : Option Addr} {n8 c8 q : Nat} (h : Own w 3 1 n8 (.slice a8 n8 c8) (ints pl)) (hn : n8 = pl.length) (hq : q ≤ pl.length) :
    ∃ y1 y2, (∀ W, (Instr.slice 30 (.slice a8 n8 c8) none (some (.int .i64 q)) none).run Try.prog W = .ok y1 W) ∧ (∀ W, (Instr.slice 30 (.slice a8 n8 c8) (some (.int .i64 q)) none none).run Try.prog W = .ok y2 W) ∧
      ∀ W, Fr (fun x => w.heap.size ≤ x) w W → Rd W y1 (ints (pl.take q)) ∧ Rd W y2 (ints (pl.drop q)) := by
  subst hn
  obtain ⟨hc1, hc2⟩ : pl.length ≤ c8 ∧ c8 ≤ maxLen := by
    obtain ⟨_, _, e, h1, h2⟩ := h.form
    simp only [Value.slice.injEq] at e
    omega
  have q0 : (0 : Int) ≤ q := by omega
  have q1 : (q : Int) ≤ (c8 : Nat) := by omega
  have q2 : (q : Int) ≤ (pl.length : Nat) := by omega
  have hz : ∀ W, (sizeOf (Try.prog.elem 30)).run Try.prog W = .ok 1 W := fun W => by kernel_rfl
  have r1 : ∀ W, (Instr.slice 30 (.slice a8 pl.length c8) none (some (.int .i64 q)) none).run Try.prog W = .ok (sliced a8 0 q c8 1) W := fun W => by
    rw [run_slice_h W 30 a8 pl.length c8 Try.underlying30 .i64 q q0 q1, hz]; simp
  have r2 : ∀ W, (Instr.slice 30 (.slice a8 pl.length c8) (some (.int .i64 q)) none none).run Try.prog W = .ok (sliced a8 q pl.length c8 1) W := fun W => by
    rw [run_slice_l W 30 a8 pl.length c8 Try.underlying30 .i64 q q0 q2, hz]; simp
  refine ⟨_, _, r1, r2, fun W f => ?_⟩
  unfold sliced
  rcases h.cases with ⟨e, hn0, _⟩ | ⟨g, cap, e, hg, _, _, hcell, _⟩
  · simp only [Value.slice.injEq] at e
    obtain ⟨rfl, _, rfl⟩ := e
    have e0 : pl = [] := List.eq_nil_of_length_eq_zero hn0
    subst e0
    obtain rfl : q = 0 := by simpa using hq
    exact ⟨.inl ⟨by simp, by simp [ints]⟩, .inl ⟨by simp, by simp [ints]⟩⟩
  · simp only [Value.slice.injEq] at e
    obtain ⟨rfl, _, rfl⟩ := e
    have hcl : ∀ (j : Nat) u, (ints pl)[j]? = some u → W.cell? ⟨g, j, none⟩ = some u := fun j u hj => by
      have hj' : j < pl.length := by have := (List.getElem?_eq_some_iff.1 hj).1; rw [ints_len] at this; exact this
      exact (World.cell?_of_block (f.block g hg (by omega))).trans ((hcell j (by omega)).trans hj)
    refine ⟨.inr ⟨g, 0, c8, ?_, ?_, hc2, Nat.lt_of_lt_of_le hg f.size, fun j u hj => ?_⟩, .inr ⟨g, if c8 = q then 0 else q, c8 - q, ?_, ?_, by omega, Nat.lt_of_lt_of_le hg f.size, fun j u hj => ?_⟩⟩
    · have e : min q pl.length = q := by omega
      rw [ints_len, List.length_take, e]
      split <;> simp [add_cell]
    · rw [ints_len, List.length_take]; omega
    · rw [Nat.zero_add]
      rw [ints_get, List.getElem?_take] at hj
      split at hj
      · exact hcl j u (by rw [ints_get]; exact hj)
      · simp at hj
    · rw [ints_len, List.length_drop]
      split <;> simp [add_cell]
    · rw [ints_len, List.length_drop]; omega
    · rw [ints_get, List.getElem?_drop] at hj
      by_cases hcq : c8 = q
      · rw [List.getElem?_eq_none (by omega)] at hj; simp at hj
      · rw [if_neg hcq]
        exact hcl (q + j) u (by rw [ints_get]; exact hj)

set_option maxHeartbeats 4000000 in
set_option maxRecDepth 100000 in
theorem ticketTurn_walk (n : Int) (a : Option Addr) (len cap : Nat) (V : Nat → Nat → Value) (w : World) (wf : (Lit.int .i64 n).wf = true) (s : IsSl [.int .i64] w a len cap V) :
    Calls Try.prog 5 #[.int .i64 n, .slice a len cap] w fun e w' => e = .returned (.bool true) ∧ Below w.heap.size w w' := by
  obtain ⟨i0, hif, hz0, hz1, hz2⟩ := info_parts info_try
  obtain ⟨i1, hif1, hz01, hz11, hz21⟩ := info_parts info_int1
  have hw := within_any n 1 8 w (wf_i64 wf) (by omega) (by omega) (by omega)
  have hk := wth_bd (n := n) (lo := 1) (hi := 8) (by omega)
  obtain ⟨k, hk'⟩ : ∃ k : Nat, wth n 1 8 = k := ⟨(wth n 1 8).toNat, by omega⟩
  rw [hk'] at hw hk
  have hk1 : 1 ≤ k := by omega
  have hk2 : k ≤ 8 := by omega
  have HW := Lib.hid hw
  obtain ⟨A, hA⟩ := Nums.of s
  have HA := Lib.hid hA
  clear hw s hA wf hk' hk
  go_enter Try.func5, Try.ntmps5
  go_wp2_with (go_at_call 19; refine HW.out.mono ?_; rintro e w' ⟨rfl, rfl⟩)
  refine (mem_new 2 (by omega) _).mono ?_
  rintro e w1 ⟨rfl, f1, M1⟩
  have HF1 := Lib.hid f1
  have HM1 := Lib.hid M1
  clear f1 M1 HW
  go_wp2_with fail
  go_loopw [7, 8, 9] (fun t7 t8 t9 wr => TurnMade w (w.heap.size + 1) w.heap.size k t7 t8 t9 wr) (fun _ _ t9 _ => (k - intOf t9).toNat)
  case atStart => exact ⟨0, fun _ => 0, [], by omega, rfl, HM1.out, Tries.nil _ _ _ _ _, fun j h => absurd h (Nat.not_lt_zero j), fun x h => by simp [Of, Value.ownBlock] at h, HF1.out, rfl, List.nodup_nil, fun y h => by simp at h, Own.nil _ _ _, fun x h => by simp [Of, Value.ownBlock] at h⟩
  case round =>
    obtain ⟨i, tb, pl, hi, rfl, hM, hT, hd, ho, hF, hpl, hnd, hpm, hO, hpd⟩ := hrel
    have HM := Lib.hid hM
    have HT := Lib.hid hT
    have HD := Lib.hid hd
    have HO := Lib.hid ho
    have HF := Lib.hid hF
    have HP := Lib.hid hO
    have HPL := Lib.hid hpl
    have HND := Lib.hid hnd
    have HPM := Lib.hid hpm
    have HPD := Lib.hid hpd
    by_cases hik : i < k
    · have hik' : (i : Int) < k := by omega
      obtain ⟨a7, c7, rfl, hc7⟩ := hT.form
      obtain ⟨a8, c8, rfl, hc8, hc8m⟩ := hO.form
      clear hM hT hd ho hF hpl hnd hpm hO hpd
      go_wp2_with fail
      refine (try_new 0 _).mono ?_
      rintro e w2 ⟨rfl, f2, x2, s2⟩
      have HF2 := Lib.hid f2
      have HX2 := Lib.hid x2
      clear f2 x2
      obtain ⟨xs, k1, hx⟩ := HT.out.own
      have HT2 := Lib.hid (((HT.out.fr HF2.out (fun _ _ => id) (fun _ _ => id))).fr ((Fr.refl (fun _ => False) w2).alloc (.cells #[.pointer (some ⟨wr.heap.size, 0, none⟩)] 24)) (fun _ _ => id) (fun _ _ => id))
      have O1 := (k1.fr HF2.out (fun _ _ => id)).fr ((Fr.refl (fun _ => False) w2).alloc (.cells #[.pointer (some ⟨wr.heap.size, 0, none⟩)] 24)) (fun _ _ => id)
      have HXX := Lib.hid hx
      have HK1 := Lib.hid k1
      clear hx k1
      go_upto_if 38 with (at_builtin; refine wpList_append1 rfl _ _ 32 rfl 24 i0 (.pointer none) 8 Try.underlying32 hif hz0 hz1 hz2 rfl (by decide) _ _ _ rfl _ _ O1 (wr.heap.size + 1) s2.symm rfl rfl (by omega) ?_; intro v' w3 O2 F2 hv'; have HO1 := Lib.hid O1; have HO2 := Lib.hid O2; have HF3 := Lib.hid F2; have HV3 := Lib.hid hv'; clear O1 O2 F2 hv')
      go_cut [11] (fun t11 wx => wx = w3 ∧ ∃ q : Nat, q ≤ pl.length ∧ t11 = .int .i64 q)
      case first =>
        by_cases hq3 : i < len
        · have hq3' : (i : Int) < len := by omega
          have hF3 : Fr (fun _ => False) w w3 := ((HF.out.trans HF2.out).alloc _).step HF3.out (fun x hx h => by have := (HO.out x h).1; omega)
          obtain ⟨b3, off3, rfl, hb3, c3, hb3d⟩ : ∃ b3 off3, a = some ⟨b3, off3, none⟩ ∧ b3 < w3.heap.size ∧ (w3.cell? ⟨b3, off3 + i, none⟩ = some (.int .i64 (A i)) ∧ In64 (A i)) := by
            rcases HA.out.at hF3 with h | ⟨b3, off3, h1, h2, h3⟩
            · omega
            · exact ⟨b3, off3, h1, h2, h3 i hq3⟩
          have hpl : pl.length = i := HPL.out
          have hwb3 := wth_bd (n := A i) (lo := 0) (hi := (pl.length : Int)) (by omega)
          obtain ⟨j, hj⟩ : ∃ j : Nat, wth (A i) 0 (pl.length : Int) = j := ⟨(wth (A i) 0 (pl.length : Int)).toNat, by omega⟩
          have hwi3 := fun w => within_any (A i) 0 (pl.length : Int) w hb3d (by omega) (by omega) (by omega)
          rw [hj] at hwb3 hwi3
          have HWI3 := Lib.hid hwi3
          have hjl : j ≤ pl.length := by omega
          clear hwb3 hwi3 hj hb3d hF3 hpl
          go_wp2_with (go_at_call 19; (with_reducible refine (HWI3.out _).mono ?_); rintro e w' ⟨rfl, rfl⟩)
          go_meet
          case rel => exact ⟨rfl, j, hjl, rfl⟩
        · have hq3' : ¬ (i : Int) < len := by omega
          go_wp2_with fail
          go_meet
          case rel => exact ⟨rfl, 0, by omega, rfl⟩
      case rest =>
        obtain ⟨hwc, q, hq, rfl⟩ := hcut
        have hwc := hwc.symm
        subst hwc
        have hlt : wr.heap.size < w2.heap.size := by omega
        have hTl : ∀ j, j < i → tb j < wr.heap.size := fun j hj => (HT.out.t j hj).lt
        have hOl : ∀ x, Of (.slice a7 i c7) x → x < wr.heap.size := fun x hx => HK1.out.lt hx
        have hml := HM.out.h.lt
        have hgl := HM.out.a.lt
        have hwl := HF.out.size
        have D := HD.out
        have O := HO.out
        have T3 := HT2.out.push (HX2.out.alloc _) (fun j hj => by have := hTl j hj; omega) (fun h => by have := hOl _ h; omega) HO1.out HXX.out HO2.out HF3.out
        rw [upd_same (f := fun _ : Nat => (0 : Int)) (x := 0) rfl, upd_same (f := fun _ : Nat => (-1 : Int)) (x := -1) rfl] at T3
        have HT3 := Lib.hid T3
        have HM3 := Lib.hid (((HM.out.fr HF2.out id id).alloc _).fr HF3.out (fun h => (O _ h).2.1 rfl) (fun h => (O _ h).2.2 rfl))
        have HD3 := Lib.hid (show ∀ j, j < i + 1 → upd tb i wr.heap.size j ≠ w.heap.size + 1 ∧ upd tb i wr.heap.size j ≠ w.heap.size ∧ w.heap.size ≤ upd tb i wr.heap.size j from fun j hj => by
          by_cases e : j = i
          · subst e; rw [upd_self]; omega
          · rw [upd_ne _ _ e]; exact D j (by omega))
        have HV := Lib.hid (show ∀ x, Of v' x → w.heap.size ≤ x ∧ x ≠ w.heap.size + 1 ∧ x ≠ w.heap.size from fun x hx => by
          rcases HV3.out x hx with h | h
          · exact O x h
          · omega)
        have HF4 := Lib.hid (show Fr (fun _ => False) w w3 from ((HF.out.trans HF2.out).alloc _).step HF3.out (fun x hx h => by have := (O x h).1; omega))
        have HP3 := Lib.hid (show Own w3 3 1 pl.length (.slice a8 pl.length c8) (ints pl) from (((HP.out.fr HF2.out (fun _ _ => id)).fr ((Fr.refl (fun _ => False) w2).alloc (.cells #[.pointer (some ⟨wr.heap.size, 0, none⟩)] 24)) (fun _ _ => id))).fr HF3.out (fun x hx h => (HPD.out x hx).2.2.2.1 h))
        have HPZ := Lib.hid (show (∀ x, Of v' x → x < w3.heap.size) ∧ (∀ j, j < i + 1 → upd tb i wr.heap.size j < w3.heap.size) ∧ w.heap.size + 1 < w3.heap.size from ⟨fun x hx => HO2.out.lt hx, fun j hj => (HT3.out.t j hj).lt, HM3.out.h.lt⟩)
        have hqI : (q : Int) ≤ pl.length := by omega
        have hplI : (pl.length : Int) ≤ 8 := by have := HPL.out; omega
        clear hlt hTl hOl hml hgl hwl D O T3 HM HT HD HO HP HF HF2 HX2 HT2 HXX HK1 HO1 HF3 HV3 s2
        obtain ⟨y1, y2, hs1, hs2, RP⟩ := cut_two HP3.out rfl hq
        have HRP := Lib.hid RP
        have HQ := Lib.hid hq
        clear RP hc8 hc8m
        have O1 := Lib.hid (show Own (w3.alloc (.cells #[] 3)).drew 3 1 0 (.slice (some ⟨w3.heap.size, 0, none⟩) 0 0) [] from Own.lit (w := w3) #[] 3 1 0 (by unfold maxLen; omega) rfl)
        have OA2 := Lib.hid (O1.out.fr ((Fr.refl (fun _ => False) _).alloc (.cells #[.int .i64 i] 3)) (fun _ _ => id))
        have OA3 := Lib.hid (show Own ((w3.alloc (.cells #[.int .i64 i] 3)).drew.alloc (.cells #[] 3)) 3 1 0 (.slice (some ⟨w3.heap.size + 1, 0, none⟩) 0 0) [] from by
          have := Own.lit (w := (w3.alloc (.cells #[.int .i64 i] 3)).drew) #[] 3 1 0 (by unfold maxLen; omega) rfl
          simpa [World.drew] using this)
        have RA2 := Lib.hid (show Rd ((w3.alloc (.cells #[] 3)).drew.alloc (.cells #[.int .i64 i] 3)) (.slice (some ⟨w3.heap.size + 1, 0, none⟩) 1 1) (ints [(i : Int)]) from by
          have := (Own.lit (w := (w3.alloc (.cells #[] 3)).drew) #[.int .i64 i] 3 1 1 (by unfold maxLen; omega) rfl).rd
          simpa [World.drew, ints] using this)
        have RA3 := Lib.hid (show Rd ((w3.alloc (.cells #[.int .i64 i] 3)).drew.alloc (.cells #[] 3)) (.slice (some ⟨w3.heap.size, 0, none⟩) 1 1) (ints [(i : Int)]) from
          ((Own.lit (w := w3) #[.int .i64 i] 3 1 1 (by unfold maxLen; omega) rfl).rd.fr (Fr.refl (fun _ => False) _).drew (fun _ _ => id)).fr ((Fr.refl (fun _ => False) _).alloc _) (fun _ _ => id))
        go_wp2_with fail
        focus (
          go_region_held3 (fun _ => True) (trivial) (first
            | (refine step_append_rd (by rfl) (.tmp 46) (.tmp 49) 30 (by rfl) 3 i1 (.int .i64 0) 8 Try.underlying30 hif1 hz01 hz11 hz21 rfl (by decide) w3.heap.size 0 0 [] (by simp [Act.eval]) O1.out y1 (ints (pl.take q)) (by simp [Act.eval]) ((HRP.out _ ((Fr.refl (fun x => w3.heap.size ≤ x) _).alloc _).drew).1) (ints_one _) (by rw [ints_len, List.length_take]; omega) ?_; intro g7 c7' w7 O7 F7 G7; have HO7 := Lib.hid O7; have HF7 := Lib.hid (Fr.step ((Fr.refl (fun x => w3.heap.size ≤ x) _).alloc _).drew F7 (fun x hx e => by omega)); have HG7 := Lib.hid (show w3.heap.size ≤ g7 from G7.elim (fun h => by omega) (fun h => by simp [World.drew] at h; omega)); clear O7 F7 G7)
            | (refine step_append_rd (by rfl) (.tmp 46) (.tmp 49) 30 (by rfl) 3 i1 (.int .i64 0) 8 Try.underlying30 hif1 hz01 hz11 hz21 rfl (by decide) w3.heap.size 0 0 [] (by simp [Act.eval]) OA2.out y1 (ints (pl.take q)) (by simp [Act.eval]) ((HRP.out _ (((Fr.refl (fun x => w3.heap.size ≤ x) _).alloc _).drew.alloc _)).1) (ints_one _) (by rw [ints_len, List.length_take]; omega) ?_; intro g7 c7' w7 O7 F7 G7; have HO7 := Lib.hid O7; have HF7 := Lib.hid (Fr.step (((Fr.refl (fun x => w3.heap.size ≤ x) _).alloc _).drew.alloc _) F7 (fun x hx e => by omega)); have HG7 := Lib.hid (show w3.heap.size ≤ g7 from G7.elim (fun h => by omega) (fun h => by simp [World.drew] at h; omega)); have HR7 := Lib.hid (RA2.out.fr F7 (fun k hk e => by obtain ⟨_, _, _, h⟩ := hk; simp only [Value.slice.injEq, Option.some.injEq, Addr.mk.injEq] at h; omega)); clear O7 F7 G7)
            | (refine step_append_rd (by rfl) (.tmp 46) (.tmp 49) 30 (by rfl) 3 i1 (.int .i64 0) 8 Try.underlying30 hif1 hz01 hz11 hz21 rfl (by decide) (w3.heap.size + 1) 0 0 [] (by simp [Act.eval]) OA3.out y1 (ints (pl.take q)) (by simp [Act.eval]) ((HRP.out _ (((Fr.refl (fun x => w3.heap.size ≤ x) _).alloc _).drew.alloc _)).1) (ints_one _) (by rw [ints_len, List.length_take]; omega) ?_; intro g7 c7' w7 O7 F7 G7; have HO7 := Lib.hid O7; have HF7 := Lib.hid (Fr.step (((Fr.refl (fun x => w3.heap.size ≤ x) _).alloc _).drew.alloc _) F7 (fun x hx e => by omega)); have HG7 := Lib.hid (show w3.heap.size ≤ g7 from G7.elim (fun h => by omega) (fun h => by simp [World.drew] at h; omega)); have HR7 := Lib.hid (RA3.out.fr F7 (fun k hk e => by obtain ⟨_, _, _, h⟩ := hk; simp only [Value.slice.injEq, Option.some.injEq, Addr.mk.injEq] at h; omega)); clear O7 F7 G7)
            | (refine step_append_rd (by rfl) (.tmp 50) (.tmp 52) 30 (by rfl) 3 i1 (.int .i64 0) 8 Try.underlying30 hif1 hz01 hz11 hz21 rfl (by decide) g7 _ c7' _ (by simp [Act.eval]) (HO7.out.fr ((Fr.refl (fun _ => False) _).alloc _) (fun _ _ => id)) (.slice (some ⟨w7.heap.size, 0, none⟩) 1 1) (ints [(i : Int)]) (by simp [Act.eval]) (Own.lit (w := w7) #[.int .i64 i] 3 1 1 (by unfold maxLen; omega) rfl).rd (ints_one _) (by simp only [ints_len, List.length_take, List.length_cons, List.length_nil]; omega) ?_; intro g8 c8' w8 O8 F8 G8; have HO8 := Lib.hid O8; have HF8 := Lib.hid (Fr.step (HF7.out.alloc _) F8 (fun x hx e => by have := HG7.out; omega)); have HG8 := Lib.hid (show w3.heap.size ≤ g8 from by have := HG7.out; have := HF7.out.size; exact G8.elim (fun h => by omega) (fun h => by (try simp at h); omega)); clear O8 F8 G8)
            | (refine step_append_rd (by rfl) (.tmp 50) (.tmp 52) 30 (by rfl) 3 i1 (.int .i64 0) 8 Try.underlying30 hif1 hz01 hz11 hz21 rfl (by decide) g7 _ c7' _ (by simp [Act.eval]) HO7.out (.slice (some ⟨w3.heap.size + 1, 0, none⟩) 1 1) (ints [(i : Int)]) (by simp [Act.eval]) HR7.out (ints_one _) (by simp only [ints_len, List.length_take, List.length_cons, List.length_nil]; omega) ?_; intro g8 c8' w8 O8 F8 G8; have HO8 := Lib.hid O8; have HF8 := Lib.hid (Fr.step HF7.out F8 (fun x hx e => by have := HG7.out; omega)); have HG8 := Lib.hid (show w3.heap.size ≤ g8 from by have := HG7.out; have := HF7.out.size; exact G8.elim (fun h => by omega) (fun h => by (try simp at h); omega)); clear O8 F8 G8)
            | (refine step_append_rd (by rfl) (.tmp 50) (.tmp 52) 30 (by rfl) 3 i1 (.int .i64 0) 8 Try.underlying30 hif1 hz01 hz11 hz21 rfl (by decide) g7 _ c7' _ (by simp [Act.eval]) HO7.out (.slice (some ⟨w3.heap.size, 0, none⟩) 1 1) (ints [(i : Int)]) (by simp [Act.eval]) HR7.out (ints_one _) (by simp only [ints_len, List.length_take, List.length_cons, List.length_nil]; omega) ?_; intro g8 c8' w8 O8 F8 G8; have HO8 := Lib.hid O8; have HF8 := Lib.hid (Fr.step HF7.out F8 (fun x hx e => by have := HG7.out; omega)); have HG8 := Lib.hid (show w3.heap.size ≤ g8 from by have := HG7.out; have := HF7.out.size; exact G8.elim (fun h => by omega) (fun h => by (try simp at h); omega)); clear O8 F8 G8)
            | (refine step_append_rd (by rfl) (.tmp 53) (.tmp 56) 30 (by rfl) 3 i1 (.int .i64 0) 8 Try.underlying30 hif1 hz01 hz11 hz21 rfl (by decide) g8 _ c8' _ (by simp [Act.eval]) HO8.out y2 (ints (pl.drop q)) (by simp [Act.eval]) ((HRP.out _ HF8.out).2) (ints_one _) (by simp only [ints_len, List.length_take, List.length_drop, List.length_cons, List.length_nil]; omega) ?_; intro g9 c9 w9 O9 F9 G9; have HO9 := Lib.hid O9; have HF9 := Lib.hid (Fr.step HF8.out F9 (fun x hx e => by have := HG8.out; omega)); have HG9 := Lib.hid (show w3.heap.size ≤ g9 from by have := HG8.out; have := HF8.out.size; exact G9.elim (fun h => by omega) (fun h => by omega)); clear O9 F9 G9)))
        all_goals go_wp2_with fail
        all_goals
          have hq := HQ.out
          have e0 : ints (pl.take q) ++ ints [(i : Int)] ++ ints (pl.drop q) = ints (insP pl q i) := by unfold ints insP; simp
          have el : 0 + (ints (pl.take q)).length + (ints [(i : Int)]).length + (ints (pl.drop q)).length = (insP pl q i).length := by
            simp only [ints_len, List.length_take, List.length_drop, List.length_cons, List.length_nil]
            rw [insP_len pl hq]
            omega
          have o9 := HO9.out
          simp only [List.nil_append] at o9
          rw [e0, el] at o9
          rw [Nat.zero_add] at el
          rw [el]
          have hpl := HPL.out
          have g9 := HG9.out
          have hz := HPZ.out
          have hm3 := HM3.out.a.lt
          have nz : ∀ x, x < w3.heap.size → ¬ w3.heap.size ≤ x := fun x h1 h2 => by omega
          refine ⟨⟨i + 1, _, insP pl q i, by omega, by go_num, HM3.out.fr HF9.out (nz _ hz.2.2) (nz _ hm3), HT3.out.fr HF9.out (fun x hx => nz _ (hz.1 x hx)) (fun j hj => nz _ (hz.2.1 j hj)), HD3.out, HV.out, HF4.out.step HF9.out (fun x hx h => by have := HF4.out.size; omega), by rw [insP_len pl hq]; omega, insP_nodup HND.out q (fun h => by obtain ⟨j, e, hj⟩ := HPM.out _ h; omega), fun y hy => ?_, o9, fun x hx => ?_⟩, by simp [intOf]; omega⟩
          · rcases insP_mem hy with e | h
            · exact ⟨i, e, by omega⟩
            · obtain ⟨j, e, hj⟩ := HPM.out y h
              exact ⟨j, e, by omega⟩
          · have hx' : some _ = some x := hx
            simp only [Option.some.injEq] at hx'
            subst hx'
            have hws := HF4.out.size
            exact ⟨by omega, by omega, by omega, fun h => by have := hz.1 _ h; omega, fun j hj e => by have := hz.2.1 j hj; omega⟩
    · have hik' : ¬ (i : Int) < k := by omega
      obtain rfl : i = k := by omega
      obtain ⟨gv, c7, rfl, hgv, hc7, _⟩ := hT.at (j := 0) (by omega)
      have hP : ∃ P : Nat → Nat, (∀ q (hq : q < pl.length), pl[q] = (P q : Int)) ∧ (∀ q, q < i → P q < i) ∧ ∀ q r, q < i → r < i → P q = P r → q = r := by
        refine ⟨fun q => ((pl[q]?).getD 0).toNat, fun q hq => ?_, fun q hq => ?_, fun q r hq hr e => ?_⟩
        · obtain ⟨j, e, _⟩ := hpm _ (List.getElem_mem hq)
          show pl[q] = (((pl[q]?).getD 0).toNat : Int)
          rw [List.getElem?_eq_getElem hq, Option.getD_some, e]
          simp
        · have hq' : q < pl.length := by omega
          obtain ⟨j, e, hj⟩ := hpm _ (List.getElem_mem hq')
          show ((pl[q]?).getD 0).toNat < i
          rw [List.getElem?_eq_getElem hq', Option.getD_some, e]
          simpa using hj
        · have hq' : q < pl.length := by omega
          have hr' : r < pl.length := by omega
          obtain ⟨j, e1, hj⟩ := hpm _ (List.getElem_mem hq')
          obtain ⟨j2, e2, hj2⟩ := hpm _ (List.getElem_mem hr')
          replace e : ((pl[q]?).getD 0).toNat = ((pl[r]?).getD 0).toNat := e
          rw [List.getElem?_eq_getElem hq', List.getElem?_eq_getElem hr', Option.getD_some, Option.getD_some, e1, e2] at e
          have e3 : pl[q] = pl[r] := by rw [e1, e2]; simp at e; rw [e]
          exact (List.getElem_inj hnd).1 e3
      obtain ⟨P, hP1, hP2, hP3⟩ := hP
      have HP1 := Lib.hid hP1
      have HP2 := Lib.hid hP2
      have HP3 := Lib.hid hP3
      rcases hO.cases with ⟨_, h, _⟩ | ⟨g8, c8, rfl, _⟩
      · omega
      clear hM hT hd ho hF hpl hnd hpm hO hpd hP1 hP2 hP3 hi hik
      go_upto_region 18 with fail
      have HAP := Lib.hid (show Apart w (w.heap.size + 1) w.heap.size i (.slice (some ⟨gv, 0, none⟩) i c7) tb from ⟨fun j hj => by have := HD.out j hj; omega, fun x hx => by have := HO.out x hx; omega, by omega⟩)
      have HTP := Lib.hid (show TP w (w.heap.size + 1) w.heap.size i (.slice (some ⟨gv, 0, none⟩) i c7) tb (fun _ => 0) 0 (fun _ => 0) (fun _ => -1) (.slice (some ⟨g8, 0, none⟩) pl.length c8) pl wr from
        ⟨⟨HM.out, HT.out, HF.out⟩, HP.out, fun x hx => by have := HPD.out x hx; exact ⟨this.1, this.2.1, this.2.2.1, this.2.2.2.2⟩⟩)
      clear HM HT HD HO HF HM1 HF1 hgv HP HND HPM HPD
      obtain ⟨k, rfl⟩ : ∃ k, k = i := ⟨i, rfl⟩
      obtain ⟨m, hm⟩ : ∃ m, m = w.heap.size + 1 := ⟨_, rfl⟩
      obtain ⟨g, hg⟩ : ∃ g, g = w.heap.size := ⟨_, rfl⟩
      rw [← hm, ← hg] at HTP
      rw [← hm, ← hg] at HAP
      rw [← hm]
      clear hm hg
      have hpl := HPL.out
      have hkI : (k : Int) ≤ 8 := by omega
      have hkI1 : (1 : Int) ≤ k := by omega
      go_wp2_with fail
      go_loopw [60] (fun t60 wq => ∃ (p : Nat) (U : Nat → Int) (c : Int) (at_ tk : Nat → Int), p ≤ k ∧ t60 = .int .i64 p ∧ TP w m g k (.slice (some ⟨gv, 0, none⟩) k c7) tb U c at_ tk (.slice (some ⟨g8, 0, none⟩) pl.length c8) pl wq ∧ U 0 = p ∧ U 1 = 0 ∧ c = p ∧ (∀ q, q < p → at_ (P q) = 1 ∧ tk (P q) = q) ∧ (∀ q, p ≤ q → q < k → at_ (P q) = 0)) (fun t60 _ => (k - intOf t60).toNat)
      case atStart => exact ⟨0, _, _, _, _, by omega, rfl, HTP.out, rfl, rfl, rfl, fun q h => absurd h (by omega), fun _ _ _ => rfl⟩
      case round =>
        obtain ⟨p, U, c, at_, tk, hp, rfl, hTP, u0, u1, rfl, ha, hb⟩ := hrel
        have HT1 := Lib.hid hTP
        have HA1 := Lib.hid ha
        have HB1 := Lib.hid hb
        have HU := Lib.hid (And.intro u0 u1)
        clear hTP ha hb u0 u1 HTP
        by_cases hpk : p < k
        · have hpl' : p < pl.length := by omega
          have hpk' : (p : Int) < pl.length := by omega
          have cn := HT1.out.num rfl hpl'
          rw [HP1.out p hpl'] at cn
          have hPk := HP2.out p hpk
          have hPk' : (P p : Int) < k := by omega
          have ct := HT1.out.s.cell rfl hPk
          have HS1 := Lib.hid (HT1.out.step_fresh HAP.out hPk (HB1.out p (by omega) hpk) (by omega))
          go_wp2_with (go_at_call 14; (with_reducible refine HS1.out.mono ?_); rintro e w' ⟨rfl, h'⟩; have HT2 := Lib.hid h'; clear h')
          refine ⟨⟨p + 1, _, _, _, _, by omega, by go_num, HT2.out, ?_, HU.out.2, by omega, fun q hq => ?_, fun q hq hqk => ?_⟩, by simp [intOf]; omega⟩
          · rw [upd_self, HU.out.1]; exact wadd_nat p (by omega)
          · by_cases e : q = p
            · subst e; rw [upd_self, upd_self]; exact ⟨rfl, HU.out.1⟩
            · have hne : P q ≠ P p := fun h => e (HP3.out q p (by omega) hpk h)
              rw [upd_ne _ _ hne, upd_ne _ _ hne]; exact HA1.out q (by omega)
          · rw [upd_ne _ _ (fun h => by have := HP3.out q p hqk hpk h; omega)]; exact HB1.out q (by omega) hqk
        · have hpk' : ¬ (p : Int) < pl.length := by omega
          obtain rfl : p = k := by omega
          have HTT := Lib.hid (Tt.start (k := p) (P := P) HU.out.2 (fun q hq => (HA1.out q hq).1) (fun q hq => (HA1.out q hq).2))
          go_wp2_with fail
          obtain ⟨k, rfl⟩ : ∃ k, k = p := ⟨p, rfl⟩
          go_loopw [14, 15] (fun t14 t15 wq => ∃ (r : Nat) (U : Nat → Int) (c : Int) (at_ tk : Nat → Int), r ≤ 2 * k + 1 ∧ t15 = .int .i64 r ∧ t14 = .int .i64 (trn k r 0 : Nat) ∧ TP w m g k (.slice (some ⟨gv, 0, none⟩) k c7) tb U c at_ tk (.slice (some ⟨g8, 0, none⟩) pl.length c8) pl wq ∧ Tt k r 0 P U at_ tk ∧ 0 ≤ c ∧ c ≤ 8 + 8 * r) (fun _ t15 _ => (2 * k + 1 - intOf t15).toNat)
          case atStart => exact ⟨0, _, _, _, _, by omega, rfl, by unfold trn; simp, HT1.out, HTT.out, by omega, by omega⟩
          case round =>
            obtain ⟨r, U2, c2, at2, tk2, hr, rfl, rfl, hTP, hTt, hc0, hc1⟩ := hrel
            have HT3 := Lib.hid hTP
            have HTT3 := Lib.hid hTt
            have HC := Lib.hid (And.intro hc0 hc1)
            clear hTP hTt hc0 hc1 HT1 HTT HA1 HB1 HU
            have htr : trn k r 0 ≤ k := by unfold trn; omega
            by_cases hrk : r < 2 * k + 1
            · have hrk' : (r : Int) < 2 * k + 1 := by omega
              go_wp2_with fail
              go_loopw [14, 80] (fun t14 t80 wq => ∃ (p : Nat) (U : Nat → Int) (c : Int) (at_ tk : Nat → Int), p ≤ k ∧ t80 = .int .i64 p ∧ t14 = .int .i64 (trn k r p : Nat) ∧ TP w m g k (.slice (some ⟨gv, 0, none⟩) k c7) tb U c at_ tk (.slice (some ⟨g8, 0, none⟩) pl.length c8) pl wq ∧ Tt k r p P U at_ tk ∧ 0 ≤ c ∧ c ≤ 8 + 8 * r + p) (fun _ t80 _ => (k - intOf t80).toNat)
              case atStart => exact ⟨0, _, _, _, _, by omega, rfl, rfl, HT3.out, HTT3.out, HC.out.1, by have := HC.out.2; omega⟩
              case round =>
                obtain ⟨p, U, c, at_, tk, hp, rfl, rfl, hTP, hTt, hc0, hc1⟩ := hrel
                have HT1 := Lib.hid hTP
                have HTT := Lib.hid hTt
                have HC2 := Lib.hid (And.intro hc0 hc1)
                clear hTP hTt hc0 hc1 HT3 HTT3 HC htr
                have htr : ((trn k r p : Nat) : Int) ≤ 8 := by unfold trn; omega
                by_cases hpk : p < k
                · have hpl' : p < pl.length := by omega
                  have hpk' : (p : Int) < pl.length := by omega
                  have cn := HT1.out.num rfl hpl'
                  rw [HP1.out p hpl'] at cn
                  have hPk := HP2.out p hpk
                  have hPk' : (P p : Int) < k := by omega
                  have ct := HT1.out.s.cell rfl hPk
                  rcases HTT.out.any hpk hk2 HP3.out with ⟨a1, a2, a3, a4⟩ | ⟨a1, a2, a3, a4⟩ | ⟨a1, a3, a4⟩ | ⟨a1, a3, a4⟩
                  · have HQ1 := Lib.hid (HT1.out.s.at hPk a1)
                    have HQ2 := Lib.hid (HT1.out.step_no HAP.out hPk a1 (by have := HC2.out; omega) a2)
                    have HQ3 := Lib.hid (And.intro a3 a4)
                    clear a1 a2 a3 a4
                    go_wp2_with (first
                      | (go_at_call 16; (with_reducible refine HQ1.out.mono ?_); rintro e w' ⟨rfl, rfl⟩)
                      | (go_at_call 14; (with_reducible refine HQ2.out.mono ?_); rintro e w' ⟨rfl, h'⟩; have HT2 := Lib.hid h'; clear h'))
                    refine ⟨⟨p + 1, _, _, _, _, by omega, by go_num, by rw [HQ3.out.2], HT2.out, HQ3.out.1, by have := HC2.out; omega, by have := HC2.out; omega⟩, by simp [intOf]; omega⟩
                  · have HQ1 := Lib.hid (HT1.out.s.at hPk a1)
                    have HQ2 := Lib.hid (HT1.out.step_yes HAP.out hPk a1 (by have := HC2.out; omega) a2)
                    have HQ3 := Lib.hid (And.intro a3 a4)
                    clear a1 a2 a3 a4
                    go_wp2_with (first
                      | (go_at_call 16; (with_reducible refine HQ1.out.mono ?_); rintro e w' ⟨rfl, rfl⟩)
                      | (go_at_call 14; (with_reducible refine HQ2.out.mono ?_); rintro e w' ⟨rfl, h'⟩; have HT2 := Lib.hid h'; clear h'))
                    refine ⟨⟨p + 1, _, _, _, _, by omega, by go_num, by rw [HQ3.out.2], HT2.out, HQ3.out.1, by have := HC2.out; omega, by have := HC2.out; omega⟩, by simp [intOf]; omega⟩
                  · have HQ1 := Lib.hid (HT1.out.s.at hPk a1)
                    have HQ2 := Lib.hid (HT1.out.leave HAP.out hPk a1 (by have := HC2.out; omega))
                    have HQ3 := Lib.hid (And.intro a3 a4)
                    clear a1 a3 a4
                    go_wp2_with (first
                      | (go_at_call 16; (with_reducible refine HQ1.out.mono ?_); rintro e w' ⟨rfl, rfl⟩)
                      | (go_at_call 15; (with_reducible refine HQ2.out.mono ?_); rintro e w' ⟨rfl, h'⟩; have HT2 := Lib.hid h'; clear h'))
                    refine ⟨⟨p + 1, _, _, _, _, by omega, by go_num, by rw [HQ3.out.2]; simp, HT2.out, HQ3.out.1, by have := HC2.out; omega, by have := HC2.out; omega⟩, by simp [intOf]; omega⟩
                  · have HQ1 := Lib.hid (HT1.out.s.at hPk a1)
                    have HQ3 := Lib.hid (And.intro a3 a4)
                    clear a1 a3 a4
                    go_wp2_with (go_at_call 16; (with_reducible refine HQ1.out.mono ?_); rintro e w' ⟨rfl, rfl⟩)
                    refine ⟨⟨p + 1, _, _, _, _, by omega, by go_num, by rw [HQ3.out.2], HT1.out, HQ3.out.1, by have := HC2.out; omega, by have := HC2.out; omega⟩, by simp [intOf]; omega⟩
                · have hpk' : ¬ (p : Int) < pl.length := by omega
                  obtain rfl : p = k := by omega
                  obtain ⟨q1, q2⟩ := HTT.out.pass
                  have HQ3 := Lib.hid (And.intro q1 q2)
                  clear q1 q2
                  go_wp2_with fail
                  refine ⟨⟨r + 1, _, _, _, _, by omega, by go_num, by rw [HQ3.out.2], HT1.out, HQ3.out.1, HC2.out.1, by have := HC2.out; omega⟩, by simp [intOf]; omega⟩
            · have hrk' : ¬ (r : Int) < 2 * k + 1 := by omega
              obtain rfl : r = 2 * k + 1 := by omega
              rw [trn_end]
              have HRR := Lib.hid ticketRuns_any
              have HFF := Lib.hid HT3.out.s.F
              go_wp2_with (go_at_call 3; (with_reducible refine (HRR.out _).mono ?_); rintro e w8 ⟨rfl, f8⟩; have HF8 := Lib.hid f8; clear f8)
              go_ret
              exact ⟨rfl, (HFF.out.trans HF8.out).below⟩
end Go.Proofs.Ytkclbgoagcpckaa
