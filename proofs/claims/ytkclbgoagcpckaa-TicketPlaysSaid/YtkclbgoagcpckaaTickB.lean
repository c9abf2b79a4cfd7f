import Derived.Test.YtkclbgoagcpckaaTries
import Derived.Test.YtkclbgoagcpckaaTickA
import Derived.Test.YtkclbgoagcpckaaTickL
import Derived.Test.YtkclbgoagcpckaaWithin
import Derived.Test.YtkclbgoagcpckaaOpen
import Derived.Test.YtkclbgoagcpckaaInts
import Derived.Deep.QuietTactic
import Derived.BigQuiet
namespace Go.Proofs.Ytkclbgoagcpckaa
open Go.RowKit

/-- i fresh tries of one lock have been made -/
def MadeRel (w0 : World) (m g k : Nat) (t7 t8 : Value) (w : World) : Prop :=
  ∃ (i : Nat) (tb : Nat → Nat), i ≤ k ∧ t8 = .int .i64 i ∧ Mem w m g 2 (fun _ => 0) 0 ∧ Tries w t7 i tb (fun _ => 0) (fun _ => 0) (fun _ => -1) ∧
    (∀ j, j < i → tb j ≠ m ∧ tb j ≠ g ∧ w0.heap.size ≤ tb j) ∧ (∀ x, Of t7 x → w0.heap.size ≤ x ∧ x ≠ m ∧ x ≠ g) ∧ Fr (fun _ => False) w0 w

/-- i steps were taken -/
def OneRel (w0 : World) (m g k len : Nat) (v : Value) (tb : Nat → Nat) (t10 t11 : Value) (w : World) : Prop :=
  ∃ (i N T c : Nat) (V : Nat → Int) (at_ tk : Nat → Int) (last : Int), i ≤ 80 ∧ i ≤ len ∧ t11 = .int .i64 i ∧ t10 = .int .i64 last ∧ N ≤ i ∧ c ≤ i ∧ V 0 = N ∧ V 1 = T ∧ OneI k N T at_ tk last ∧
    TrySt w0 m g 2 k v tb (fun _ => (0 : Nat)) V c at_ tk w

/-- who holds among the first a -/
def HeldRel (w0 : World) (m g k : Nat) (v : Value) (tb : Nat → Nat) (V : Nat → Int) (c : Int) (at_ tk : Nat → Int) (t13 t75 : Value) (w : World) : Prop :=
  ∃ a : Nat, a ≤ k ∧ t13 = .int .i64 (held at_ a : Nat) ∧ t75 = .int .i64 a ∧ TrySt w0 m g 2 k v tb (fun _ => (0 : Nat)) V c at_ tk w

def UnlikeRel (w0 : World) (m g k : Nat) (v : Value) (tb : Nat → Nat) (V : Nat → Int) (c : Int) (at_ tk : Nat → Int) (a : Nat) (t16 : Value) (w : World) : Prop :=
  ∃ b : Nat, b ≤ a ∧ t16 = .int .i64 b ∧ TrySt w0 m g 2 k v tb (fun _ => (0 : Nat)) V c at_ tk w

theorem wadd_nat (n : Nat) (h : n ≤ 1000) : wadd (n : Int) 1 = ((n + 1 : Nat) : Int) := by unfold wadd wrap64; omega
theorem OneI.num {k N T : Nat} {at_ tk : Nat → Int} {last : Int} (h : OneI k N T at_ tk last) (hN : N ≤ 100) {j : Nat} (hj : j < k) : -1 ≤ tk j ∧ tk j ≤ 100 := by
  have := h.st j hj; omega

set_option maxHeartbeats 2000000 in
set_option maxRecDepth 100000 in
theorem ticketOne_walk (n : Int) (a : Option Addr) (len cap : Nat) (V : Nat → Nat → Value) (w : World) (wf : (Lit.int .i64 n).wf = true) (s : IsSl [.int .i64] w a len cap V) :
    Calls Try.prog 4 #[.int .i64 n, .slice a len cap] w fun e w' => e = .returned (.bool true) ∧ Below w.heap.size w w' := by
  obtain ⟨i0, hif, hz0, hz1, hz2⟩ := info_parts info_try
  have hw := within_any n 1 8 w (wf_i64 wf) (by omega) (by omega) (by omega)
  have hk := wth_bd (n := n) (lo := 1) (hi := 8) (by omega)
  obtain ⟨k, hk'⟩ : ∃ k : Nat, wth n 1 8 = k := ⟨(wth n 1 8).toNat, by omega⟩
  rw [hk'] at hw hk
  have hk1 : 1 ≤ k := by omega
  have hk2 : k ≤ 8 := by omega
  have HW := Lib.hid hw
  obtain ⟨A, hA⟩ := Nums.of s
  have HA := Lib.hid hA
  clear hw s hA wf hk' hk
  go_enter Try.func4, Try.ntmps4
  go_wp2_with (go_at_call 19; refine HW.out.mono ?_; rintro e w' ⟨rfl, rfl⟩)
  refine (mem_new 2 (by omega) _).mono ?_
  rintro e w1 ⟨rfl, f1, M1⟩
  have HF1 := Lib.hid f1
  have HM1 := Lib.hid M1
  clear f1 M1 HW
  go_wp2_with fail
  go_loopw [7, 8] (fun t7 t8 wr => MadeRel w (w.heap.size + 1) w.heap.size k t7 t8 wr) (fun _ t8 _ => (k - intOf t8).toNat)
  case atStart => exact ⟨0, fun _ => 0, by omega, rfl, HM1.out, Tries.nil _ _ _ _ _, fun j h => absurd h (Nat.not_lt_zero j), fun x h => by simp [Of, Value.ownBlock] at h, HF1.out⟩
  case round =>
    obtain ⟨i, tb, hi, rfl, hM, hT, hd, ho, hF⟩ := hrel
    have HM := Lib.hid hM
    have HT := Lib.hid hT
    have HD := Lib.hid hd
    have HO := Lib.hid ho
    have HF := Lib.hid hF
    by_cases hik : i < k
    · have hik' : (i : Int) < k := by omega
      obtain ⟨a7, c7, rfl, hc7⟩ := hT.form
      clear hM hT hd ho hF
      go_wp2_with fail
      refine (try_new 0 _).mono ?_
      rintro e w2 ⟨rfl, f2, x2, s2⟩
      have HF2 := Lib.hid f2
      have HX2 := Lib.hid x2
      clear f2 x2
      obtain ⟨xs, k1, hx⟩ := HT.out.own
      have HT2 := Lib.hid (((HT.out.fr HF2.out (fun _ _ => id) (fun _ _ => id))).fr ((Fr.refl (fun _ => False) w2).alloc (.cells #[.pointer (some ⟨wr.heap.size, 0, none⟩)] 24)) (fun _ _ => id) (fun _ _ => id))
      have O1 := (k1.fr HF2.out (fun _ _ => id)).fr ((Fr.refl (fun _ => False) w2).alloc (.cells #[.pointer (some ⟨wr.heap.size, 0, none⟩)] 24)) (fun _ _ => id)
      have HXX := Lib.hid hx
      have HK1 := Lib.hid k1
      clear hx k1
      go_wp2_with (at_builtin; refine wpList_append1 rfl _ _ 32 rfl 24 i0 (.pointer none) 8 Try.underlying32 hif hz0 hz1 hz2 rfl (by decide) _ _ _ rfl _ _ O1 (wr.heap.size + 1) s2.symm rfl rfl (by omega) ?_; intro v' w3 O2 F2 hv'; have HO1 := Lib.hid O1; have HO2 := Lib.hid O2; have HF3 := Lib.hid F2; have HV3 := Lib.hid hv'; clear O1 O2 F2 hv')
      have hlt : wr.heap.size < w2.heap.size := by omega
      have hTl : ∀ j, j < i → tb j < wr.heap.size := fun j hj => (HT.out.t j hj).lt
      have hOl : ∀ x, Of (.slice a7 i c7) x → x < wr.heap.size := fun x hx => HK1.out.lt hx
      have hml := HM.out.h.lt
      have hgl := HM.out.a.lt
      have hwl := HF.out.size
      have D := HD.out
      have O := HO.out
      have T3 := HT2.out.push (HX2.out.alloc _) (fun j hj => by have := hTl j hj; omega) (fun h => by have := hOl _ h; omega) HO1.out HXX.out HO2.out HF3.out
      rw [upd_same (f := fun _ : Nat => (0 : Int)) (x := 0) rfl, upd_same (f := fun _ : Nat => (-1 : Int)) (x := -1) rfl] at T3
      refine ⟨⟨i + 1, _, by omega, by go_num, ?_, T3, ?_, ?_, ?_⟩, by simp [intOf]; omega⟩
      · exact ((HM.out.fr HF2.out id id).alloc _).fr HF3.out (fun h => (O _ h).2.1 rfl) (fun h => (O _ h).2.2 rfl)
      · intro j hj
        by_cases e : j = i
        · subst e; rw [upd_self]; omega
        · rw [upd_ne _ _ e]; exact D j (by omega)
      · intro x hx
        rcases HV3.out x hx with h | h
        · exact O x h
        · omega
      · exact ((HF.out.trans HF2.out).alloc _).step HF3.out (fun x hx h => by have := (O x h).1; omega)
    · have hik' : ¬ (i : Int) < k := by omega
      obtain rfl : i = k := by omega
      obtain ⟨gv, c7, rfl, hgv, hc7, _⟩ := hT.at (j := 0) (by omega)
      clear hM hT hd ho hF hi hik
      go_wp2_with fail
      have HAP := Lib.hid (show Apart w (w.heap.size + 1) w.heap.size i (.slice (some ⟨gv, 0, none⟩) i c7) tb from ⟨fun j hj => by have := HD.out j hj; omega, fun x hx => by have := HO.out x hx; omega, by omega⟩)
      have HTS := Lib.hid (show TrySt w (w.heap.size + 1) w.heap.size 2 i (.slice (some ⟨gv, 0, none⟩) i c7) tb (fun _ => (0 : Nat)) (fun _ => 0) (0 : Nat) (fun _ => 0) (fun _ => -1) wr from ⟨HM.out, HT.out, HF.out⟩)
      clear HM HT HD HO HF HM1 HF1 hgv
      obtain ⟨k, rfl⟩ : ∃ k, k = i := ⟨i, rfl⟩
      obtain ⟨m, hm⟩ : ∃ m, m = w.heap.size + 1 := ⟨_, rfl⟩
      obtain ⟨g, hg⟩ : ∃ g, g = w.heap.size := ⟨_, rfl⟩
      rw [← hm, ← hg] at HTS
      rw [← hm, ← hg] at HAP
      rw [← hm]
      clear hm hg
      go_loopw [10, 11] (fun t10 t11 w2 => OneRel w m g k len (.slice (some ⟨gv, 0, none⟩) k c7) tb t10 t11 w2) (fun _ t11 _ => (80 - intOf t11).toNat)
      case atStart => exact ⟨0, 0, 0, 0, fun _ => 0, fun _ => 0, fun _ => -1, -1, by omega, by omega, rfl, rfl, by omega, by omega, rfl, rfl, OneI.start _, HTS.out⟩
      case round =>
        obtain ⟨q, N, T, c, U, at_, tk, last, hq, hql, rfl, rfl, hN, hc, u0, u1, hO, hS⟩ := hrel
        have HU0 := Lib.hid u0
        have HU1 := Lib.hid u1
        have HS := Lib.hid hS
        have HI := Lib.hid hO
        clear HTS u0 u1
        by_cases hr : q < len ∧ q < 80
        · obtain ⟨hr1, hr2⟩ := hr
          have hr1' : (q : Int) < len := by omega
          have hr2' : (q : Int) < 80 := by omega
          rcases HA.out.at hS.F with h | ⟨b, off, rfl, hbw, hcl⟩
          · omega
          obtain ⟨c0, hbd⟩ := hcl q hr1
          have hwb := wth_bd (n := A q) (lo := 0) (hi := (k : Int) - 1) (by omega)
          obtain ⟨j, hj⟩ : ∃ j : Nat, wth (A q) 0 ((k : Int) - 1) = j := ⟨(wth (A q) 0 ((k : Int) - 1)).toNat, by omega⟩
          have hwi := fun w => within_any (A q) 0 ((k : Int) - 1) w hbd (by omega) (by omega) (by omega)
          rw [hj] at hwb hwi
          have hji : j < k := by omega
          have hji' : (j : Int) < k := by omega
          have HWI := Lib.hid hwi
          obtain ⟨_, _, e, _, _, cells⟩ := hS.T.at hji
          simp only [Value.slice.injEq, Option.some.injEq, Addr.mk.injEq] at e
          obtain ⟨⟨rfl, _⟩, _, rfl⟩ := e
          have cj := cells j hji
          have hst := hO.st j hji
          have hlast : -1 ≤ last ∧ last ≤ 100 := by have := hO.last; have := hO.le; omega
          have hst5 : (at_ j = 0) ∨ (at_ j = 1 ∧ U 1 ≠ tk j) ∨ (at_ j = 1 ∧ U 1 = tk j) ∨ at_ j = 2 ∨ at_ j = 3 := by omega
          obtain ⟨hl1, hl2⟩ := hlast
          have HQ := Lib.hid hq
          clear hS hO hcl hwb hj hwi hbd cells hst
          rcases hst5 with e1 | ⟨e1, e2⟩ | ⟨e1, e2⟩ | e1 | e1
          have E1 := Lib.hid e1
          clear e1
          go_wp2_with (first
            | (go_at_call 19; refine (HWI.out _).mono ?_; rintro e w' ⟨rfl, rfl⟩)
            | (go_at_call 16; refine (HS.out.at hji E1.out).mono ?_; rintro e w' ⟨rfl, rfl⟩)
            | (go_at_call 14; refine (HS.out.step_fresh HAP.out hji E1.out rfl (by omega) (by omega)).mono ?_; rintro e w' ⟨rfl, h'⟩; have HS' := Lib.hid h'; clear h'))
          obtain ⟨N', T', c', U', a', t', hN', hc', u0', u1', hI', hS'⟩ : ∃ (N' T' c' : Nat) (U' : Nat → Int) (a' t' : Nat → Int), N' ≤ q + 1 ∧ c' ≤ q + 1 ∧ Hid (U' 0 = N') ∧ Hid (U' 1 = T') ∧ Hid (OneI k N' T' a' t' last) ∧ Hid (TrySt w m g 2 k (.slice (some ⟨gv, 0, none⟩) k c7) tb (fun _ => (0 : Nat)) U' c' a' t' w') :=
            ⟨N + 1, T, c + 1, upd U 0 (wadd (U 0) 1), upd at_ j 1, upd tk j (U 0), by omega, by omega, by rw [upd_self, HU0.out]; exact wadd_nat N (by omega), HU1.out, by rw [HU0.out]; exact HI.out.fresh hji E1.out, HS'.out⟩
          rotate_left 1
          have E1 := Lib.hid e1
          have E2 := Lib.hid e2
          clear e1 e2
          go_wp2_with (first
            | (go_at_call 19; refine (HWI.out _).mono ?_; rintro e w' ⟨rfl, rfl⟩)
            | (go_at_call 16; refine (HS.out.at hji E1.out).mono ?_; rintro e w' ⟨rfl, rfl⟩)
            | (go_at_call 14; refine (HS.out.step_no HAP.out hji E1.out rfl (by omega) (by omega) (by omega) E2.out).mono ?_; rintro e w' ⟨rfl, h'⟩; have HS' := Lib.hid h'; clear h'))
          obtain ⟨N', T', c', U', a', t', hN', hc', u0', u1', hI', hS'⟩ : ∃ (N' T' c' : Nat) (U' : Nat → Int) (a' t' : Nat → Int), N' ≤ q + 1 ∧ c' ≤ q + 1 ∧ Hid (U' 0 = N') ∧ Hid (U' 1 = T') ∧ Hid (OneI k N' T' a' t' last) ∧ Hid (TrySt w m g 2 k (.slice (some ⟨gv, 0, none⟩) k c7) tb (fun _ => (0 : Nat)) U' c' a' t' w') :=
            ⟨N, T, c + 1, U, at_, tk, by omega, by omega, HU0.out, HU1.out, HI.out, HS'.out⟩
          rotate_left 1
          have E1 := Lib.hid e1
          have hh := HI.out.hold hji e1 (e2.symm.trans HU1.out)
          have hl3 := Lib.hid hh.1
          have HI' := Lib.hid hh.2
          have E2 := Lib.hid e2
          clear e1 e2 hh
          go_wp2_with (first
            | (go_at_call 19; refine (HWI.out _).mono ?_; rintro e w' ⟨rfl, rfl⟩)
            | (go_at_call 16; refine (HS.out.at hji E1.out).mono ?_; rintro e w' ⟨rfl, rfl⟩)
            | (go_at_call 14; refine (HS.out.step_yes HAP.out hji E1.out rfl (by omega) (by omega) (by omega) E2.out).mono ?_; rintro e w' ⟨rfl, h'⟩; have HS' := Lib.hid h'; clear h')
            | (go_at_call 17; refine (HS'.out.ticket_eq hji hl3.out).mono ?_; rintro e w' ⟨rfl, rfl⟩))
          obtain ⟨N', T', c', U', a', t', hN', hc', u0', u1', hI', hS'⟩ : ∃ (N' T' c' : Nat) (U' : Nat → Int) (a' t' : Nat → Int), N' ≤ q + 1 ∧ c' ≤ q + 1 ∧ Hid (U' 0 = N') ∧ Hid (U' 1 = T') ∧ Hid (OneI k N' T' a' t' (last + 1)) ∧ Hid (TrySt w m g 2 k (.slice (some ⟨gv, 0, none⟩) k c7) tb (fun _ => (0 : Nat)) U' c' a' t' w') :=
            ⟨N, T, c + 1, U, upd at_ j 2, tk, by omega, by omega, HU0.out, HU1.out, by have := HI'.out; rw [hl3.out] at this; exact this, HS'.out⟩
          rotate_left 1
          have E1 := Lib.hid e1
          clear e1
          go_wp2_with (first
            | (go_at_call 19; refine (HWI.out _).mono ?_; rintro e w' ⟨rfl, rfl⟩)
            | (go_at_call 16; refine (HS.out.at hji E1.out).mono ?_; rintro e w' ⟨rfl, rfl⟩)
            | (go_at_call 15; refine (HS.out.leave HAP.out hji E1.out rfl (by omega) (by omega) (by omega)).mono ?_; rintro e w' ⟨rfl, h'⟩; have HS' := Lib.hid h'; clear h'))
          obtain ⟨N', T', c', U', a', t', hN', hc', u0', u1', hI', hS'⟩ : ∃ (N' T' c' : Nat) (U' : Nat → Int) (a' t' : Nat → Int), N' ≤ q + 1 ∧ c' ≤ q + 1 ∧ Hid (U' 0 = N') ∧ Hid (U' 1 = T') ∧ Hid (OneI k N' T' a' t' last) ∧ Hid (TrySt w m g 2 k (.slice (some ⟨gv, 0, none⟩) k c7) tb (fun _ => (0 : Nat)) U' c' a' t' w') :=
            ⟨N, T + 1, c + 1, upd U 1 (wadd (U 1) 1), upd at_ j 3, tk, by omega, by omega, HU0.out, by show upd U 1 _ 1 = _; rw [upd_self, HU1.out]; exact wadd_nat T (by have := HI.out.le; omega), HI.out.leave hji E1.out, HS'.out⟩
          rotate_left 1
          have E1 := Lib.hid e1
          clear e1
          go_wp2_with (first
            | (go_at_call 19; refine (HWI.out _).mono ?_; rintro e w' ⟨rfl, rfl⟩)
            | (go_at_call 16; refine (HS.out.at hji E1.out).mono ?_; rintro e w' ⟨rfl, rfl⟩))
          exact ⟨⟨q + 1, N, T, c, U, at_, tk, last, by omega, by omega, by go_num, rfl, by omega, by omega, HU0.out, HU1.out, HI.out, HS.out⟩, by simp [intOf]; omega⟩
          all_goals
            clear HS
            have hk4 := hk2
            go_loopw [13, 75] (fun t13 t75 w3 => HeldRel w m g k (.slice (some ⟨gv, 0, none⟩) k c7) tb U' c' a' t' t13 t75 w3) (fun _ t75 _ => (k - intOf t75).toNat)
            case atStart => exact ⟨0, by omega, rfl, rfl, hS'.out⟩
            case round =>
              obtain ⟨x, hx, rfl, rfl, hS2⟩ := hrel
              have HS2 := Lib.hid hS2
              by_cases hxk : x < k
              · have hxk' : (x : Int) < k := by omega
                have cx := hS2.cell rfl hxk
                have hb1 := held_bound a' x
                have hb2 : (held a' x : Int) ≤ 8 := by omega
                have hb3 : (0 : Int) ≤ held a' x := by omega
                clear hb1 hS2
                rcases Decidable.em (a' x = 2) with h2 | h2
                have H2 := Lib.hid h2
                have HH := Lib.hid (held_yes h2)
                clear h2
                go_wp2_with (go_at_call 16; refine (HS2.out.at hxk H2.out).mono ?_; rintro e w' ⟨rfl, rfl⟩)
                rotate_left 1
                have hne : (a' x == 2) = false := beq_eq_false_iff_ne.2 h2
                have HH := Lib.hid (held_no h2)
                clear h2
                go_wp2_with (go_at_call 16; refine (HS2.out.at hxk rfl).mono ?_; rintro e w' ⟨rfl, rfl⟩)
                all_goals
                  go_loopw [16] (fun t16 w3 => UnlikeRel w m g k (.slice (some ⟨gv, 0, none⟩) k c7) tb U' c' a' t' x t16 w3) (fun t16 _ => (x - intOf t16).toNat)
                  case atStart => exact ⟨0, by omega, rfl, HS2.out⟩
                  case round =>
                    obtain ⟨y, hy, rfl, hS3⟩ := hrel
                    have HS3 := Lib.hid hS3
                    by_cases hyx : y < x
                    · have hyx' : (y : Int) < x := by omega
                      have hyk' : (y : Int) < k := by omega
                      have hy0' : (0 : Int) ≤ y := by omega
                      have cy := hS3.cell rfl (show y < k by omega)
                      have hyk : y < k := by omega
                      by_cases h0 : 0 ≤ t' x
                      · have hne2 : (t' x == t' y) = false := beq_eq_false_iff_ne.2 (fun e => by have := hI'.out.inj x y hxk hyk h0 e; omega)
                        clear hS3
                        go_wp2_with fail
                        go_quiet ((first | (go_at_call 17; exact quiet_left ((HS3.out.drewN _).ticket hxk)) | (go_at_call 17; exact quiet_left ((HS3.out.drewN _).ticket hyk))))
                        go_wp2_with fail
                        exact ⟨⟨y + 1, by omega, by go_num, HS3.out.drewN _⟩, by simp [intOf]; omega⟩
                      · have hneg : decide (0 ≤ t' x) = false := decide_eq_false h0
                        clear hS3 h0
                        go_wp2_with fail
                        go_quiet ((first | (go_at_call 17; exact quiet_left ((HS3.out.drewN _).ticket hxk)) | (go_at_call 17; exact quiet_left ((HS3.out.drewN _).ticket hyk))))
                        go_wp2_with fail
                        exact ⟨⟨y + 1, by omega, by go_num, HS3.out.drewN _⟩, by simp [intOf]; omega⟩
                    · have hyx' : ¬ (y : Int) < x := by omega
                      clear hS3
                      go_wp2_with fail
                      exact ⟨⟨x + 1, by omega, by first | (rw [← HH.out]; done) | (rw [← HH.out]; go_num), by go_num, HS3.out⟩, by simp [intOf]; omega⟩
              · have hxk' : ¬ (x : Int) < k := by omega
                obtain rfl : x = k := by omega
                clear hS2
                have hle := hI'.out.held_le
                have hle2 : ¬ (1 : Int) < (held a' x : Nat) := by omega
                clear hle
                go_wp2_with fail
                exact ⟨⟨q + 1, N', T', c', U', a', t', _, by omega, by omega, by go_num, rfl, by omega, by omega, u0'.out, u1'.out, hI'.out, HS2.out⟩, by simp [intOf]; omega⟩
        · clear hS hO
          have HR := Lib.hid ticketRuns_any
          rcases (show ¬ (q : Int) < len ∨ ((q : Int) < len ∧ ¬ (q : Int) < 80) by omega) with hx | ⟨hx, hy⟩
          all_goals go_wp2_with (go_at_call 3; refine (HR.out _).mono ?_; rintro e w8 ⟨rfl, f8⟩; have HF8 := Lib.hid f8; clear f8)
          all_goals go_ret
          all_goals exact ⟨rfl, (HS.out.F.trans HF8.out).below⟩
end Go.Proofs.Ytkclbgoagcpckaa
