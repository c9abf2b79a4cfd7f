import Derived.Test.YtkclbgoagcpckaaTries
import Derived.Test.YtkclbgoagcpckaaTickA
import Derived.Test.YtkclbgoagcpckaaWithin
import Derived.Test.YtkclbgoagcpckaaOpen
import Derived.Test.YtkclbgoagcpckaaInts
namespace Go.Proofs.Ytkclbgoagcpckaa
open Go.RowKit

/-- i tries of one lock have been made, each has its ticket -/
def GivenRel (w0 : World) (m g k : Nat) (t9 t10 : Value) (w : World) : Prop :=
  ∃ (i : Nat) (tb : Nat → Nat), i ≤ k ∧ t10 = .int .i64 i ∧ Mem w m g 2 (two i 0) i ∧ Tries w t9 i tb (fun _ => (0 : Nat)) (fun _ => 1) (fun j => (j : Int)) ∧
    (∀ j, j < i → tb j ≠ m ∧ tb j ≠ g ∧ w0.heap.size ≤ tb j) ∧ (∀ x, Of t9 x → w0.heap.size ≤ x ∧ x ≠ m ∧ x ≠ g) ∧ Fr (fun _ => False) w0 w

/-- T have left -/
def WaitI (k T : Nat) (at_ : Nat → Int) : Prop := ∀ j, j < k → (j < T ∧ at_ j = 3) ∨ (j = T ∧ (at_ j = 1 ∨ at_ j = 2)) ∨ (T < j ∧ at_ j = 1)

theorem WaitI.hold {k T j : Nat} {at_ : Nat → Int} (h : WaitI k T at_) (hj : j = T) : WaitI k T (upd at_ j 2) := by
  intro i hi
  by_cases e : i = j
  · subst e; rw [upd_self]; omega
  · rw [upd_ne _ _ e]; exact h i hi
theorem WaitI.leave {k T j : Nat} {at_ : Nat → Int} (h : WaitI k T at_) (hj : j = T) : WaitI k (T + 1) (upd at_ j 3) := by
  intro i hi
  by_cases e : i = j
  · subst e; rw [upd_self]; omega
  · rw [upd_ne _ _ e]; have := h i hi; omega

def WaitRel (w0 : World) (m g k len a : Nat) (v : Value) (tb : Nat → Nat) (t13 t14 : Value) (w : World) : Prop :=
  ∃ (i T c : Nat) (at_ : Nat → Int), i ≤ 40 ∧ i ≤ len ∧ T ≤ i ∧ c ≤ k + i ∧ t14 = .int .i64 i ∧ (∃ lf : Nat, lf = min a T ∧ t13 = .int .i64 lf) ∧ WaitI k T at_ ∧
    TrySt w0 m g 2 k v tb (fun _ => (0 : Nat)) (two k T) c at_ (fun j => (j : Int)) w

theorem wadd_nat (n : Nat) (h : n ≤ 1000) : wadd (n : Int) 1 = ((n + 1 : Nat) : Int) := by unfold wadd wrap64; omega
theorem two_up0 (n : Nat) (q : Int) (h : n ≤ 1000) (i : Nat) (hi : i < 2) : upd (two n q) 0 (wadd (two n q 0) 1) i = two ((n + 1 : Nat) : Int) q i := by
  match i, hi with
  | 0, _ => rw [upd_self]; exact wadd_nat n h
  | 1, _ => rw [upd_ne _ _ (by omega)]; simp [two]
theorem two_up1 (n : Nat) (q : Int) (h : n ≤ 1000) (i : Nat) (hi : i < 2) : upd (two q n) 1 (wadd (two q n 1) 1) i = two q ((n + 1 : Nat) : Int) i := by
  match i, hi with
  | 0, _ => rw [upd_ne _ _ (by omega)]; simp [two]
  | 1, _ => rw [upd_self]; exact wadd_nat n h

theorem TrySt.memv {w0 : World} {m g N k : Nat} {v : Value} {tb : Nat → Nat} {b : Nat → Int} {V V' : Nat → Int} {c c' : Int} {at_ tk : Nat → Int} {w : World} (h : TrySt w0 m g N k v tb b V c at_ tk w) (e : ∀ i, i < N → V i = V' i) (hc : c = c') :
    TrySt w0 m g N k v tb b V' c' at_ tk w := ⟨h.M.congr e hc, h.T, h.F⟩

set_option maxHeartbeats 2000000 in
set_option maxRecDepth 100000 in
theorem ticketWait_walk (n me : Int) (a : Option Addr) (len cap : Nat) (V : Nat → Nat → Value) (w : World) (wf : (Lit.int .i64 n).wf = true) (wf2 : (Lit.int .i64 me).wf = true) (s : IsSl [.int .i64] w a len cap V) :
    Calls Try.prog 6 #[.int .i64 n, .int .i64 me, .slice a len cap] w fun e w' => e = .returned (.bool true) ∧ Below w.heap.size w w' := by
  obtain ⟨i0, hif, hz0, hz1, hz2⟩ := info_parts info_try
  have hw := within_any n 1 8 w (wf_i64 wf) (by omega) (by omega) (by omega)
  have hk := wth_bd (n := n) (lo := 1) (hi := 8) (by omega)
  obtain ⟨k, hk'⟩ : ∃ k : Nat, wth n 1 8 = k := ⟨(wth n 1 8).toNat, by omega⟩
  rw [hk'] at hw hk
  have hk1 : 1 ≤ k := by omega
  have hk2 : k ≤ 8 := by omega
  have HW := Lib.hid hw
  have hwme := fun w => within_any me 0 ((k : Int) - 1) w (wf_i64 wf2) (by omega) (by omega) (by omega)
  have hme := wth_bd (n := me) (lo := 0) (hi := (k : Int) - 1) (by omega)
  obtain ⟨z, hz⟩ : ∃ z : Nat, wth me 0 ((k : Int) - 1) = z := ⟨(wth me 0 ((k : Int) - 1)).toNat, by omega⟩
  rw [hz] at hwme hme
  have hzk : z < k := by omega
  have HWME := Lib.hid hwme
  obtain ⟨A, hA⟩ := Nums.of s
  have HA := Lib.hid hA
  clear hw s hA wf hk' hk hwme hme hz wf2
  go_enter Try.func6, Try.ntmps6
  go_wp2_with (go_at_call 19; refine HW.out.mono ?_; rintro e w' ⟨rfl, rfl⟩)
  refine (mem_new 2 (by omega) _).mono ?_
  rintro e w1 ⟨rfl, f1, M1⟩
  have HF1 := Lib.hid f1
  have HM1 := Lib.hid M1
  clear f1 M1 HW
  go_wp2_with fail
  go_loopw [9, 10] (fun t9 t10 wr => GivenRel w (w.heap.size + 1) w.heap.size k t9 t10 wr) (fun _ t10 _ => (k - intOf t10).toNat)
  case atStart => exact ⟨0, fun _ => 0, by omega, rfl, HM1.out.congr (fun i hi => by unfold two; split <;> rfl) rfl, Tries.nil _ _ _ _ _, fun j h => absurd h (Nat.not_lt_zero j), fun x h => by simp [Of, Value.ownBlock] at h, HF1.out⟩
  case round =>
    obtain ⟨i, tb, hi, rfl, hM, hT, hd, ho, hF⟩ := hrel
    have HM := Lib.hid hM
    have HT := Lib.hid hT
    have HD := Lib.hid hd
    have HO := Lib.hid ho
    have HF := Lib.hid hF
    by_cases hik : i < k
    · have hik' : (i : Int) < k := by omega
      obtain ⟨a7, c7, rfl, hc7⟩ := hT.form
      clear hM hT hd ho hF
      go_wp2_with fail
      refine (try_new 0 _).mono ?_
      rintro e w2 ⟨rfl, f2, x2, s2⟩
      have HF2 := Lib.hid f2
      have HX2 := Lib.hid x2
      have hst := step_fresh wr.heap.size _ _ 2 _ _ 0 (-1) w2 (HM.out.fr f2 id id) (by omega) x2 (by omega)
      have HST := Lib.hid hst
      obtain ⟨xs, k1, hx⟩ := HT.out.own
      have HXX := Lib.hid hx
      have HK1 := Lib.hid k1
      have hl1 : ∀ x, Of (.slice a7 i c7) x → ¬ (x = wr.heap.size ∨ x = w.heap.size + 1 ∨ x = w.heap.size) := fun x hx => by have := k1.lt hx; have := HO.out x hx; omega
      have HL1 := Lib.hid hl1
      have hl2 : ∀ j, j < i → ¬ (tb j = wr.heap.size ∨ tb j = w.heap.size + 1 ∨ tb j = w.heap.size) := fun j hj => by have := (HT.out.t j hj).lt; have := HD.out j hj; omega
      have HL2 := Lib.hid hl2
      clear f2 x2 hst hx k1 hl1 hl2
      go_wp2_with (first
        | (go_at_call 14; refine HST.out.mono ?_; rintro e w3 ⟨rfl, f3, x3, M3⟩; have HF3 := Lib.hid f3; have HX3 := Lib.hid x3; have HM3 := Lib.hid M3; have hw3 := f3.size; clear f3 x3 M3;
            have HO1 := Lib.hid (((HK1.out.fr HF2.out (fun _ _ => id)).fr HF3.out HL1.out).fr ((Fr.refl (fun _ => False) w3).alloc (.cells #[.pointer (some ⟨wr.heap.size, 0, none⟩)] 24)) (fun _ _ => id)))
        | (at_builtin; refine wpList_append1 rfl _ _ 32 rfl 24 i0 (.pointer none) 8 Try.underlying32 hif hz0 hz1 hz2 rfl (by decide) _ _ _ rfl _ _ HO1.out w3.heap.size rfl rfl rfl (by omega) ?_; intro v' w4 O2 F2 hv'; have HO2 := Lib.hid O2; have HF4 := Lib.hid F2; have HV4 := Lib.hid hv'; clear O2 F2 hv'))
      have hml := HM.out.h.lt
      have hgl := HM.out.a.lt
      have hwl := HF.out.size
      have D := HD.out
      have O := HO.out
      have T3 := (((HT.out.fr HF2.out (fun _ _ => id) (fun _ _ => id)).fr HF3.out HL1.out HL2.out).fr ((Fr.refl (fun _ => False) w3).alloc (.cells #[.pointer (some ⟨wr.heap.size, 0, none⟩)] 24)) (fun _ _ => id) (fun _ _ => id)).push (HX3.out.alloc _) (fun j hj => fun e => HL2.out j hj (.inl e)) (fun h => HL1.out _ h (.inl rfl)) HO1.out HXX.out HO2.out HF4.out
      have e0 : two (i : Int) 0 0 = (i : Int) := rfl
      rw [e0, upd_same (f := fun _ : Nat => (((0 : Nat) : Int))) (x := ((0 : Nat) : Int)) rfl, upd_same (f := fun _ : Nat => (1 : Int)) (x := 1) rfl, upd_same (f := fun j : Nat => (j : Int)) (x := (i : Int)) rfl] at T3
      refine ⟨⟨i + 1, _, by omega, by go_num, ?_, T3, ?_, ?_, ?_⟩, by simp [intOf]; omega⟩
      · exact ((HM3.out.alloc _).fr HF4.out (fun h => (O _ h).2.1 rfl) (fun h => (O _ h).2.2 rfl)).congr (two_up0 i 0 (by omega)) (by omega)
      · intro j hj
        by_cases e : j = i
        · subst e; rw [upd_self]; omega
        · rw [upd_ne _ _ e]; exact D j (by omega)
      · intro x hx
        rcases HV4.out x hx with h | h
        · exact O x h
        · omega
      · exact (((HF.out.trans HF2.out).step HF3.out (fun x hx h => by omega)).alloc _).step HF4.out (fun x hx h => by have := (O x h).1; omega)
    · have hik' : ¬ (i : Int) < k := by omega
      obtain rfl : i = k := by omega
      obtain ⟨gv, c7, rfl, hgv, hc7, _⟩ := hT.at (j := 0) (by omega)
      clear hM hT hd ho hF hi hik
      go_wp2_with (go_at_call 19; refine (HWME.out _).mono ?_; rintro e w' ⟨rfl, rfl⟩)
      have HAP := Lib.hid (show Apart w (w.heap.size + 1) w.heap.size i (.slice (some ⟨gv, 0, none⟩) i c7) tb from ⟨fun j hj => by have := HD.out j hj; omega, fun x hx => by have := HO.out x hx; omega, by omega⟩)
      have HTS := Lib.hid (show TrySt w (w.heap.size + 1) w.heap.size 2 i (.slice (some ⟨gv, 0, none⟩) i c7) tb (fun _ => (0 : Nat)) (two i (0 : Nat)) (i : Nat) (fun _ => 1) (fun j => (j : Int)) wr from ⟨HM.out, HT.out, HF.out⟩)
      clear HM HT HD HO HF HM1 HF1 hgv
      obtain ⟨k, rfl⟩ : ∃ k, k = i := ⟨i, rfl⟩
      obtain ⟨m, hm⟩ : ∃ m, m = w.heap.size + 1 := ⟨_, rfl⟩
      obtain ⟨g, hg⟩ : ∃ g, g = w.heap.size := ⟨_, rfl⟩
      rw [← hm, ← hg] at HTS
      rw [← hm, ← hg] at HAP
      rw [← hm]
      clear hm hg
      go_loopw [13, 14] (fun t13 t14 w2 => WaitRel w m g k len z (.slice (some ⟨gv, 0, none⟩) k c7) tb t13 t14 w2) (fun _ t14 _ => (40 - intOf t14).toNat)
      case atStart => exact ⟨0, 0, k, fun _ => 1, by omega, by omega, by omega, by omega, rfl, ⟨0, by simp, rfl⟩, fun j hj => by simp; omega, HTS.out⟩
      case round =>
        obtain ⟨q, T, c, at_, hq, hql, hTq, hc, rfl, ⟨lf, hlf, rfl⟩, hI, hS⟩ := hrel
        have HS := Lib.hid hS
        have HI := Lib.hid hI
        clear HTS
        have hzk' : (z : Int) < k := by omega
        by_cases hr : q < len ∧ q < 40
        · obtain ⟨hr1, hr2⟩ := hr
          have hr1' : (q : Int) < len := by omega
          have hr2' : (q : Int) < 40 := by omega
          rcases HA.out.at hS.F with h | ⟨b, off, rfl, hbw, hcl⟩
          · omega
          obtain ⟨c0, hbd⟩ := hcl q hr1
          have hwb := wth_bd (n := A q) (lo := 0) (hi := (k : Int) - 1) (by omega)
          obtain ⟨j, hj⟩ : ∃ j : Nat, wth (A q) 0 ((k : Int) - 1) = j := ⟨(wth (A q) 0 ((k : Int) - 1)).toNat, by omega⟩
          have hwi := fun w => within_any (A q) 0 ((k : Int) - 1) w hbd (by omega) (by omega) (by omega)
          rw [hj] at hwb hwi
          have hji : j < k := by omega
          have hji' : (j : Int) < k := by omega
          have HWI := Lib.hid hwi
          have cj := hS.cell rfl hji
          have cz := hS.cell rfl hzk
          have hcase : (at_ j = 1 ∧ j = T) ∨ (at_ j = 1 ∧ T < j) ∨ (at_ j = 2 ∧ j = T) ∨ (at_ j = 3 ∧ j < T) := by have := hI j hji; omega
          clear hS hI hcl hwb hj hwi hbd
          have HLF := Lib.hid hlf
          have hlk : lf < k := by omega
          clear hlf
          by_cases hjz : j = z
          · subst hjz
            rcases hcase with ⟨e1, e2⟩ | ⟨e1, e2⟩ | ⟨e1, e2⟩ | ⟨e1, e2⟩
            · subst e2
              have E1 := Lib.hid e1
              have E2 := Lib.hid (show two (k : Int) (j : Int) (0 + 1) = ((j : Nat) : Int) from rfl)
              obtain rfl : lf = j := by have := HLF.out; omega
              clear e1
              go_wp2_with (first
                | (go_at_call 19; refine (HWI.out _).mono ?_; rintro e w' ⟨rfl, rfl⟩)
                | (go_at_call 16; refine (HS.out.at hji E1.out).mono ?_; rintro e w' ⟨rfl, rfl⟩)
                | (go_at_call 14; refine (HS.out.step_yes HAP.out hji E1.out rfl (by omega) (by omega) (by omega) E2.out).mono ?_; rintro e w' ⟨rfl, h'⟩; have HS' := Lib.hid h'; clear h'))
              exact ⟨⟨q + 1, lf, c + 1, upd at_ lf 2, by omega, by omega, by omega, by omega, by go_num, ⟨lf, by have := HLF.out; omega, by first | rfl | go_num⟩, HI.out.hold rfl, HS'.out⟩, by simp [intOf]; omega⟩
            · have E1 := Lib.hid e1
              have E2 := Lib.hid (show two (k : Int) (T : Int) (0 + 1) ≠ ((j : Nat) : Int) by show (T : Int) ≠ j; omega)
              obtain rfl : lf = T := by have := HLF.out; omega
              have hne1 : (lf == j) = false := beq_eq_false_iff_ne.2 (by omega)
              have hne2 : ((lf : Int) == (j : Int)) = false := beq_eq_false_iff_ne.2 (by omega)
              clear e1 e2
              go_wp2_with (first
                | (go_at_call 19; refine (HWI.out _).mono ?_; rintro e w' ⟨rfl, rfl⟩)
                | (go_at_call 16; refine (HS.out.at hji E1.out).mono ?_; rintro e w' ⟨rfl, rfl⟩)
                | (go_at_call 14; refine (HS.out.step_no HAP.out hji E1.out rfl (by omega) (by omega) (by omega) E2.out).mono ?_; rintro e w' ⟨rfl, h'⟩; have HS' := Lib.hid h'; clear h'))
              exact ⟨⟨q + 1, lf, c + 1, at_, by omega, by omega, by omega, by omega, by go_num, ⟨lf, by have := HLF.out; omega, by first | rfl | go_num⟩, HI.out, HS'.out⟩, by simp [intOf]; omega⟩
            · have E1 := Lib.hid e1
              clear e1 e2
              go_wp2_with (first
                | (go_at_call 19; refine (HWI.out _).mono ?_; rintro e w' ⟨rfl, rfl⟩)
                | (go_at_call 16; refine (HS.out.at hji E1.out).mono ?_; rintro e w' ⟨rfl, rfl⟩))
              exact ⟨⟨q + 1, T, c, at_, by omega, by omega, by omega, by omega, by go_num, ⟨lf, by have := HLF.out; omega, by first | rfl | go_num⟩, HI.out, HS.out⟩, by simp [intOf]; omega⟩
            · have E1 := Lib.hid e1
              clear e1 e2
              go_wp2_with (first
                | (go_at_call 19; refine (HWI.out _).mono ?_; rintro e w' ⟨rfl, rfl⟩)
                | (go_at_call 16; refine (HS.out.at hji E1.out).mono ?_; rintro e w' ⟨rfl, rfl⟩))
              exact ⟨⟨q + 1, T, c, at_, by omega, by omega, by omega, by omega, by go_num, ⟨lf, by have := HLF.out; omega, by first | rfl | go_num⟩, HI.out, HS.out⟩, by simp [intOf]; omega⟩
          · have hnz1 : (j == z) = false := beq_eq_false_iff_ne.2 (by omega)
            have hnz2 : ((j : Int) == (z : Int)) = false := beq_eq_false_iff_ne.2 (by omega)
            rcases hcase with ⟨e1, e2⟩ | ⟨e1, e2⟩ | ⟨e1, e2⟩ | ⟨e1, e2⟩
            · subst e2
              have E1 := Lib.hid e1
              have E2 := Lib.hid (show two (k : Int) (j : Int) (0 + 1) = ((j : Nat) : Int) from rfl)
              clear e1
              go_wp2_with (first
                | (go_at_call 19; refine (HWI.out _).mono ?_; rintro e w' ⟨rfl, rfl⟩)
                | (go_at_call 16; refine (HS.out.at hji E1.out).mono ?_; rintro e w' ⟨rfl, rfl⟩)
                | (go_at_call 14; refine (HS.out.step_yes HAP.out hji E1.out rfl (by omega) (by omega) (by omega) E2.out).mono ?_; rintro e w' ⟨rfl, h'⟩; have HS' := Lib.hid h'; clear h'))
              exact ⟨⟨q + 1, j, c + 1, upd at_ j 2, by omega, by omega, by omega, by omega, by go_num, ⟨lf, by have := HLF.out; omega, by first | rfl | go_num⟩, HI.out.hold rfl, HS'.out⟩, by simp [intOf]; omega⟩
            · have E1 := Lib.hid e1
              have E2 := Lib.hid (show two (k : Int) (T : Int) (0 + 1) ≠ ((j : Nat) : Int) by show (T : Int) ≠ j; omega)
              clear e1 e2
              go_wp2_with (first
                | (go_at_call 19; refine (HWI.out _).mono ?_; rintro e w' ⟨rfl, rfl⟩)
                | (go_at_call 16; refine (HS.out.at hji E1.out).mono ?_; rintro e w' ⟨rfl, rfl⟩)
                | (go_at_call 14; refine (HS.out.step_no HAP.out hji E1.out rfl (by omega) (by omega) (by omega) E2.out).mono ?_; rintro e w' ⟨rfl, h'⟩; have HS' := Lib.hid h'; clear h'))
              exact ⟨⟨q + 1, T, c + 1, at_, by omega, by omega, by omega, by omega, by go_num, ⟨lf, by have := HLF.out; omega, by first | rfl | go_num⟩, HI.out, HS'.out⟩, by simp [intOf]; omega⟩
            · subst e2
              have E1 := Lib.hid e1
              clear e1
              by_cases hjz2 : j < z
              · have hjz3 : (j : Int) < z := by omega
                obtain rfl : lf = j := by have := HLF.out; omega
                go_wp2_with (first
                | (go_at_call 19; refine (HWI.out _).mono ?_; rintro e w' ⟨rfl, rfl⟩)
                | (go_at_call 16; refine (HS.out.at hji E1.out).mono ?_; rintro e w' ⟨rfl, rfl⟩)
                | (go_at_call 15; refine (HS.out.leave HAP.out hji E1.out rfl (by omega) (by omega) (by omega)).mono ?_; rintro e w' ⟨rfl, h'⟩; have HS' := Lib.hid h'; clear h'))
                exact ⟨⟨q + 1, lf + 1, c + 1, upd at_ lf 3, by omega, by omega, by omega, by omega, by go_num, ⟨lf + 1, by omega, by first | rfl | go_num⟩, HI.out.leave rfl, HS'.out.memv (two_up1 lf k (by omega)) (by omega)⟩, by simp [intOf]; omega⟩
              · have hjz3 : ¬ (j : Int) < z := by omega
                go_wp2_with (first
                | (go_at_call 19; refine (HWI.out _).mono ?_; rintro e w' ⟨rfl, rfl⟩)
                | (go_at_call 16; refine (HS.out.at hji E1.out).mono ?_; rintro e w' ⟨rfl, rfl⟩)
                | (go_at_call 15; refine (HS.out.leave HAP.out hji E1.out rfl (by omega) (by omega) (by omega)).mono ?_; rintro e w' ⟨rfl, h'⟩; have HS' := Lib.hid h'; clear h'))
                exact ⟨⟨q + 1, j + 1, c + 1, upd at_ j 3, by omega, by omega, by omega, by omega, by go_num, ⟨lf, by have := HLF.out; omega, by first | rfl | go_num⟩, HI.out.leave rfl, HS'.out.memv (two_up1 j k (by omega)) (by omega)⟩, by simp [intOf]; omega⟩
            · have E1 := Lib.hid e1
              clear e1 e2
              go_wp2_with (first
                | (go_at_call 19; refine (HWI.out _).mono ?_; rintro e w' ⟨rfl, rfl⟩)
                | (go_at_call 16; refine (HS.out.at hji E1.out).mono ?_; rintro e w' ⟨rfl, rfl⟩))
              exact ⟨⟨q + 1, T, c, at_, by omega, by omega, by omega, by omega, by go_num, ⟨lf, by have := HLF.out; omega, by first | rfl | go_num⟩, HI.out, HS.out⟩, by simp [intOf]; omega⟩
        · have hcase : (at_ z = 2 ∧ lf = z) ∨ (at_ z ≠ 2) := by have := hI z hzk; omega
          have cz := hS.cell rfl hzk
          clear hS hI hlf
          have HR := Lib.hid ticketRuns_any
          rcases (show ¬ (q : Int) < len ∨ ((q : Int) < len ∧ ¬ (q : Int) < 40) by omega) with hx | ⟨hx, hy⟩
          all_goals
            rcases hcase with ⟨e1, rfl⟩ | e1
            · have E1 := Lib.hid e1
              clear e1
              go_wp2_with (first
                | (go_at_call 16; refine (HS.out.at hzk E1.out).mono ?_; rintro e w' ⟨rfl, rfl⟩)
                | (go_at_call 3; refine (HR.out _).mono ?_; rintro e w8 ⟨rfl, f8⟩; have HF8 := Lib.hid f8; clear f8))
              go_ret
              exact ⟨rfl, (HS.out.F.trans HF8.out).below⟩
            · have hne : (at_ z != 2) = true := bne_iff_ne.2 e1
              clear e1
              go_wp2_with (first
                | (go_at_call 16; refine (HS.out.at hzk rfl).mono ?_; rintro e w' ⟨rfl, rfl⟩)
                | (go_at_call 3; refine (HR.out _).mono ?_; rintro e w8 ⟨rfl, f8⟩; have HF8 := Lib.hid f8; clear f8))
              go_ret
              exact ⟨rfl, (HS.out.F.trans HF8.out).below⟩
end Go.Proofs.Ytkclbgoagcpckaa
