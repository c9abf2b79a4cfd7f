import Derived.Test.YtoifefcbegdjdaaRankO
import Derived.Deep.CutRange
import Derived.Deep.Cut
namespace Go.Proofs.Ytoifefcbegdjdaa
open Go.RowKit

theorem rankOwn1 (w0 : World) (x k bx ba a b : Nat) (F : Nat → Prop) (w : World) (h : OwnSt w0 x k bx ba a b [] F w) (hak : a < k) :
    Calls Try.prog 35 #[.pointer (some ⟨bx, 0, none⟩), .pointer (some ⟨ba, 0, none⟩)] w fun e w' => Tame (.stop 6 1000) e ∧ Fr (fun _ => False) w w' := by
  have b0 := h.s.B.cell 0
  have a0 := h.A.cell 0
  have HP := Lib.hid (rank_let_bad x k _ _ F a w h.s.H hak 1000 (by unfold LO; rw [if_pos rfl]; simp))
  clear h hak
  go_enter Try.func35, Try.ntmps35
  go_wp2_with (go_at_call 27; refine HP.out.mono ?_; rintro e w' ⟨rfl, f⟩; have HF := Lib.hid f; clear f)
  exact ⟨rfl, ⟨[], rfl, rfl⟩, HF.out⟩

/-- i were taken -/
def TkRel (w0 : World) (x k bx ba a b len : Nat) (t13 t14 t15 : Value) (w : World) : Prop :=
  ∃ (i : Nat) (own : List Int) (r : Int) (F : Nat → Prop), i ≤ 12 ∧ i ≤ len ∧ t15 = .int .i64 i ∧ t14 = .int .i64 r ∧ 0 ≤ r ∧ r ≤ 10 * i ∧ own.length = i ∧ own.Pairwise (· < ·) ∧ (∀ y ∈ own, 0 ≤ y ∧ y ≤ r) ∧ OwnSt w0 x k bx ba a b own F w ∧ Own w 3 1 own.length t13 (ints own) ∧ ∀ q, Of t13 q → ¬ F q ∧ w0.heap.size ≤ q ∧ q ≠ bx ∧ q ≠ ba

/-- some were let go -/
def LtRel (w0 : World) (x k bx ba a b : Nat) (t13 t16 : Value) (w : World) : Prop :=
  ∃ (i : Nat) (own : List Int) (F : Nat → Prop), i + own.length ≤ 12 ∧ t16 = .int .i64 i ∧ own.Pairwise (· < ·) ∧ (∀ y ∈ own, 0 ≤ y ∧ y < 1000) ∧ OwnSt w0 x k bx ba a b own F w ∧ Own w 3 1 own.length t13 (ints own) ∧ ∀ q, Of t13 q → ¬ F q ∧ w0.heap.size ≤ q ∧ q ≠ bx ∧ q ≠ ba

set_option maxHeartbeats 8000000 in
set_option maxRecDepth 100000 in
theorem rankOwn_walk (n h : Int) (a2 : Option Addr) (len cap : Nat) (V : Nat → Nat → Value) (a3 : Option Addr) (len3 cap3 : Nat) (V3 : Nat → Nat → Value) (w : World) (wf : (Lit.int .i64 n).wf = true) (wf2 : (Lit.int .i64 h).wf = true) (s : IsSl [.int .i64] w a2 len cap V) (s3 : IsSl [.int .i64] w a3 len3 cap3 V3) :
    Calls Try.prog 7 #[.int .i64 n, .int .i64 h, .slice a2 len cap, .slice a3 len3 cap3] w fun e w' => e = .returned (.bool true) ∧ Below w.heap.size w w' := by
  obtain ⟨i0, hif, hz0, hz1, hz2⟩ := info_parts info_int1
  have hmf : ∀ (fn : Fn) (first cap : Array Value) (w : World), (Instr.makeFunc fn first cap).run Try.prog w = .ok (.func fn first cap) w := fun _ _ _ _ => rfl
  have hw := fun w => within_any n 2 8 w (wf_i64 wf) (by omega) (by omega) (by omega)
  have hk := wth_bd (n := n) (lo := 2) (hi := 8) (by omega)
  obtain ⟨k, hk'⟩ : ∃ k : Nat, wth n 2 8 = k := ⟨(wth n 2 8).toNat, by omega⟩
  rw [hk'] at hw hk
  have hw2 := fun w => within_any h 0 ((k : Int) - 1) w (wf_i64 wf2) (by omega) (by omega) (by omega)
  have ha := wth_bd (n := h) (lo := 0) (hi := (k : Int) - 1) (by omega)
  obtain ⟨a, ha'⟩ : ∃ a : Nat, wth h 0 ((k : Int) - 1) = a := ⟨(wth h 0 ((k : Int) - 1)).toNat, by omega⟩
  rw [ha'] at hw2 ha
  have hk1 : 2 ≤ k := by omega
  have hk2 : k ≤ 8 := by omega
  have hak : a < k := by omega
  obtain ⟨b, hb⟩ : ∃ b, b = (a + 1) % k := ⟨_, rfl⟩
  have hbk : b < k := by rw [hb]; exact Nat.mod_lt _ (by omega)
  have hab : b ≠ a := by
    rw [hb]
    by_cases e : a + 1 < k
    · rw [Nat.mod_eq_of_lt e]; omega
    · have : a + 1 = k := by omega
      rw [this, Nat.mod_self]; omega
  have hbm : ((a : Int) + 1).tmod (k : Int) = b := by
    rw [hb, show (a : Int) + 1 = ((a + 1 : Nat) : Int) by omega]
    rw [Int.tmod_eq_emod_of_nonneg (by omega)]
    omega
  have hkz : ((k : Int) == 0) = false := beq_eq_false_iff_ne.2 (by omega)
  have HW := Lib.hid hw
  have HW2 := Lib.hid hw2
  obtain ⟨A, hA⟩ := Nums.of s
  have HA := Lib.hid hA
  obtain ⟨A3, hA3⟩ := Nums.of s3
  have HA3 := Lib.hid hA3
  have HRR := Lib.hid rankRuns_any
  clear hw hk hk' hw2 ha ha' wf wf2 s hA hb s3 hA3
  have hkI : (k : Int) ≤ 8 := by omega
  have hkI2 : (2 : Int) ≤ k := by omega
  have haI : (a : Int) < k := by omega
  go_enter Try.func7, Try.ntmps7
  go_wp2_with (first
    | (go_at_call 14; (with_reducible refine (HW.out _).mono ?_); rintro e w' ⟨rfl, rfl⟩)
    | (go_at_call 14; (with_reducible refine (HW2.out _).mono ?_); rintro e w' ⟨rfl, rfl⟩))
  have f0 : Fr (fun _ => False) w (w.alloc (.cells #[.int .i64 a] 3)) := (Fr.refl _ _).alloc _
  have a0 : Blk (w.alloc (.cells #[.int .i64 a] 3)) w.heap.size #[.int .i64 a] 3 := Blk.at_new rfl
  generalize hW1 : (w.alloc (.cells #[.int .i64 a] 3)) = W1 at *
  have hs1 : W1.heap.size = w.heap.size + 1 := by rw [← hW1]; simp
  clear hW1
  refine (rank_new k (by omega) _).mono ?_
  rintro e w1 ⟨rfl, f1, H1⟩
  have hlt := H1.lt (k := W1.heap.size + 2) (by omega)
  rw [hs1] at H1 hlt ⊢
  obtain ⟨x, hx⟩ : ∃ x, x = w.heap.size + 1 + 2 := ⟨_, rfl⟩
  rw [← hx] at H1 hlt ⊢
  have a1 := a0.fr f1 id
  have st := RankSt.mk (w0 := w) (H1.fr ((Fr.refl (fun _ => False) _).alloc (.cells #[.pointer (some ⟨x, 0, none⟩)] 36)) (fun _ _ => id)) (Blk.at_new (b := w1.heap.size) rfl) ((f0.trans f1).alloc _) ⟨by omega, fun k hk => by omega⟩
  have a2' := a1.alloc (.cells #[.pointer (some ⟨x, 0, none⟩)] 36)
  obtain ⟨F1, hF1⟩ : ∃ F1 : Nat → Prop, F1 = (fun q => w.heap.size + 1 ≤ q ∧ q < w.heap.size + 1 + 3) := ⟨_, rfl⟩
  rw [← hF1] at st
  have nba : ¬ F1 w.heap.size := by rw [hF1]; omega
  have c1 := a1.cell 0
  have l1 := a1.lt
  obtain ⟨ba, hba⟩ : ∃ ba, ba = w.heap.size := ⟨_, rfl⟩
  rw [← hba] at a2' nba c1 l1 ⊢
  have HST := Lib.hid st
  have HA2 := Lib.hid a2'
  have HNB := Lib.hid nba
  clear f0 f1 a0 H1 a1 hs1 hx hF1 st a2' nba hlt hba
  go_wp2_with fail
  obtain ⟨bx, hbx⟩ : ∃ bx, bx = w1.heap.size := ⟨_, rfl⟩
  rw [← hbx] at HST
  rw [← hbx]
  generalize (w1.alloc (.cells #[.pointer (some ⟨x, 0, none⟩)] 36)) = w2 at *
  clear hbx c1 l1
  refine (rank_take x k _ _ F1 b w2 HST.out.H hbk 1000 ⟨by omega, by simp⟩ rfl (by simp)).mono ?_
  rintro e w3 ⟨rfl, f3, F3, H3, hF3⟩
  have s3 : OwnSt w x k bx ba a b [] F3 w3 := ⟨(HST.out.to f3 H3 hF3).congr (fun j _ => by
    simp only [LO, upd]
    by_cases e1 : j = b
    · subst e1; rw [if_pos rfl, if_neg hab, if_pos rfl]; rfl
    · rw [if_neg e1, if_neg e1]; split <;> rfl) (fun q => by simp [OOw]), HA2.out.fr f3 HNB.out, fun hb => (hF3 _ hb).elim HNB.out (fun hb => by have := HA2.out.lt; omega)⟩
  have S3 := Lib.hid s3
  clear f3 H3 hF3 HST HA2 HNB s3
  go_wp2_with fail
  go_loopw [13, 14, 15] (fun t13 t14 t15 wr => TkRel w x k bx ba a b len t13 t14 t15 wr) (fun _ _ t15 _ => (12 - intOf t15).toNat)
  case atStart => exact ⟨0, [], 0, F3, by omega, by omega, rfl, rfl, by omega, by omega, rfl, List.Pairwise.nil, fun y hy => by simp at hy, S3.out, Own.nil _ _ _, fun q hq => by simp [Of, Value.ownBlock] at hq⟩
  case round =>
    obtain ⟨i, own, r, F, hi, hil, rfl, rfl, hr0, hr10, hol, hrise, hbd, hS, hO, hN⟩ := hrel
    have HS := Lib.hid hS
    have HO := Lib.hid hO
    have HN := Lib.hid hN
    have HBD := Lib.hid hbd
    have HRI := Lib.hid hrise
    have HOL := Lib.hid hol
    clear S3 F3 hrise
    by_cases hr : i < len ∧ i < 12
    · obtain ⟨hr1, hr2⟩ := hr
      have hr1' : (i : Int) < len := by omega
      have hr2' : (i : Int) < 12 := by omega
      rcases HA.out.at hS.s.f with h | ⟨bb, off, rfl, hbw, hcl⟩
      · omega
      obtain ⟨c0, hbdA⟩ := hcl i hr1
      have hwb := wth_bd (n := A i) (lo := 0) (hi := 9) (by omega)
      have hwi := fun w => within_any (A i) 0 9 w hbdA (by omega) (by omega) (by omega)
      obtain ⟨v, hv⟩ : ∃ v, v = wth (A i) 0 9 := ⟨_, rfl⟩
      rw [← hv] at hwb hwi
      obtain ⟨hv1, hv2⟩ := hwb
      have HWI := Lib.hid hwi
      have HTK := Lib.hid (hS.take hak (r + 1 + v) ⟨by omega, by omega⟩ (fun y hy => by have := hbd y hy; omega) (by omega))
      have bx0 := hS.s.B.cell 0
      have ba0 := hS.A.cell 0
      have hr12 : r ≤ 120 := by omega
      clear hS hO hN hcl hbdA hv hwi hbd hol
      go_wp2_with (first
        | (go_at_call 14; (with_reducible refine (HWI.out _).mono ?_); rintro e w' ⟨rfl, rfl⟩)
        | (go_at_call 24; (with_reducible refine HTK.out.mono ?_); rintro e w4 ⟨rfl, F4, S4, f4, hF4⟩; have HS4 := Lib.hid S4; have Hf4 := Lib.hid f4; have HF4 := Lib.hid hF4; clear S4 f4 hF4)
        | (at_builtin; refine wpList_append1 rfl _ _ 24 rfl 3 i0 (.int .i64 0) 8 Try.underlying24 hif hz0 hz1 hz2 rfl (by decide) _ _ (ints own) rfl (.int .i64 (r + 1 + v)) 3 (HO.out.fr (Hf4.out.alloc _) (fun q hq h => (HN.out q hq).1 h)) _ rfl rfl rfl (by have := HOL.out; omega) ?_; intro v' w' O2 F2 N2; have HO2 := Lib.hid O2; have HF2 := Lib.hid F2; have HN2 := Lib.hid N2; clear O2 F2 N2))
      have l4 := Hf4.out.size
      have hs4 : ∀ q, Of u13 q → ¬ F4 q ∧ w.heap.size ≤ q ∧ q ≠ bx ∧ q ≠ ba := fun q hq => ⟨fun h => (HF4.out q h).elim (HN.out q hq).1 (fun h => by have := HO.out.lt hq; omega), (HN.out q hq).2⟩
      have e5 : ints own ++ [.int .i64 (r + 1 + v)] = ints (own ++ [r + 1 + v]) := by simp [ints]
      have O5 := HO2.out
      rw [e5] at O5
      have hol := HOL.out
      refine ⟨⟨i + 1, own ++ [r + 1 + v], r + 1 + v, F4, by omega, by omega, by go_num, rfl, by omega, by omega, by simp [hol], ?_, ?_, (HS4.out.fr ((Fr.refl _ _).alloc _)).frS HF2.out hs4, by rw [List.length_append]; exact O5, fun q hq => ?_⟩, by simp [intOf]; omega⟩
      · rw [List.pairwise_append]
        exact ⟨HRI.out, by simp, fun y hy z hz => by simp at hz; have := HBD.out y hy; omega⟩
      · intro y hy
        rcases List.mem_append.1 hy with h | h
        · have := HBD.out y h; omega
        · simp at h; omega
      · rcases HN2.out q hq with h | h
        · exact hs4 q h
        · have b1 := HS4.out.s.B.lt
          have b2 := HS4.out.A.lt
          have b3 := HS4.out.s.f.size
          exact ⟨fun hF => by have := HS4.out.s.H.lt hF; omega, by omega, by omega, by omega⟩
    · have START : Hid (LtRel w x k bx ba a b u13 (.int .i64 0) wr) := ⟨0, own, F, by omega, rfl, HRI.out, fun y hy => by have := hbd y hy; omega, hS, hO, hN⟩
      clear hS hO hN hbd hol HS HO HN HBD HRI HOL
      by_cases hr1 : i < len
      have hr2 : ¬ (i : Int) < 12 := by omega
      have hr1' : (i : Int) < len := by omega
      have hr3 : decide ((i : Int) < 12) = false := decide_eq_false hr2
      clear hr
      go_wp2_with fail
      clear hr1 hr1' hr2 hr3
      rotate_left 1
      have hr1' : ¬ (i : Int) < len := by omega
      clear hr
      go_wp2_with fail
      clear hr1 hr1'
      rotate_left 1
      all_goals (
        go_loopw [13, 16] (fun t13 t16 wr => LtRel w x k bx ba a b t13 t16 wr) (fun t13 _ _ => match t13 with | .slice _ n _ => n | _ => 0)
        case atStart => exact START.out
        case round =>
          obtain ⟨i2, own, F, hi2, rfl, hrise, hbd, hS, hO, hN⟩ := hrel
          obtain ⟨a13, c13, hu13, hc13, hm13⟩ := hO.form
          subst hu13
          have HS := Lib.hid hS
          have HO := Lib.hid hO
          have HN := Lib.hid hN
          have HBD := Lib.hid hbd
          have HRI := Lib.hid hrise
          have bx0 := hS.s.B.cell 0
          have ba0 := hS.A.cell 0
          have hI2 : (i2 : Int) ≤ 12 := by omega
          have hL2 : (own.length : Int) ≤ 12 := by omega
          by_cases hpos : 0 < own.length
          · have hposI : (0 : Int) < (own.length : Int) := by omega
            have e0 : LO a b own a = own := by unfold LO; rw [if_pos rfl]
            have LS := rank_list x k _ _ F a wr hS.s.H hak
            rw [e0] at LS
            have LS := Lib.hid LS
            have SM : Hid (∀ w3 u, Own w3 3 1 own.length u (ints own) → Fr (fun _ => False) wr w3 → Calls Try.prog 28 #[u, .slice a13 own.length c13] w3 fun e w' => e = .returned (.bool true) ∧ ∃ q, w' = w3.drewN q) := fun w3 u O3 f3 => by
              have := sl_same u _ own own w3 O3.rd (hO.fr f3 (fun _ _ => id)).rd (by omega)
              rw [decide_eq_true rfl] at this
              exact this
            have KEEP : Hid (∀ w3 q, Fr (fun _ => False) wr w3 → Fr (fun _ => False) wr (w3.drewN q) ∧ (w3.drewN q).cell? ⟨bx, 0, none⟩ = some (.pointer (some ⟨x, 0, none⟩)) ∧ (w3.drewN q).cell? ⟨ba, 0, none⟩ = some (.int .i64 a)) := fun w3 q f => by
              have f2 := f.trans (Fr.drewN0 w3 q)
              exact ⟨f2, (hS.fr f2).s.B.cell 0, (hS.fr f2).A.cell 0⟩
            clear hS hO hN hrise hbd e0
            go_upto_if 77 with (first
              | (go_at_call 29; (with_reducible refine LS.out.mono ?_); rintro e w3 ⟨u, rfl, O3, f3, _⟩; have HSM := Lib.hid (SM.out w3 u O3 f3); have Hf3 := Lib.hid f3; clear O3 f3)
              | (go_at_call 28; (with_reducible refine HSM.out.mono ?_); rintro e w4' ⟨rfl, q4, rfl⟩; obtain ⟨f4, bx4, ba4⟩ := KEEP.out _ q4 Hf3.out; have Hf4 := Lib.hid f4; clear f4))
            generalize w3.drewN q4 = w4 at *
            clear LS SM KEEP HSM Hf3 bx0 ba0
            go_cut [17] from 63 to 118 (fun t17 wx => ∃ j : Nat, j < own.length ∧ t17 = .int .i64 j ∧ wx = w4)
            case first =>
              by_cases hq3 : i2 < len3
              · have hq3' : (i2 : Int) < len3 := by omega
                obtain ⟨b3, off3, rfl, hb3, c3, hb3d⟩ : ∃ b3 off3, a3 = some ⟨b3, off3, none⟩ ∧ b3 < w4.heap.size ∧ (w4.cell? ⟨b3, off3 + i2, none⟩ = some (.int .i64 (A3 i2)) ∧ In64 (A3 i2)) := by
                  rcases HA3.out.at (HS.out.fr Hf4.out).s.f with h | ⟨b3, off3, h1, h2, h3⟩
                  · omega
                  · exact ⟨b3, off3, h1, h2, h3 i2 hq3⟩
                have hwb3 := wth_bd (n := A3 i2) (lo := 0) (hi := (own.length : Int) - 1) (by omega)
                obtain ⟨j, hj⟩ : ∃ j : Nat, wth (A3 i2) 0 ((own.length : Int) - 1) = j := ⟨(wth (A3 i2) 0 ((own.length : Int) - 1)).toNat, by omega⟩
                have hwi3 := fun w => within_any (A3 i2) 0 ((own.length : Int) - 1) w hb3d (by omega) (by omega) (by omega)
                rw [hj] at hwb3 hwi3
                have HWI3 := Lib.hid hwi3
                have hjl : j < own.length := by omega
                clear hwb3 hwi3 hj hb3d
                go_wp2_with (go_at_call 14; (with_reducible refine (HWI3.out _).mono ?_); rintro e w' ⟨rfl, rfl⟩)
                go_meet
                case rel => exact ⟨j, hjl, rfl, rfl⟩
              · have hq3' : ¬ (i2 : Int) < len3 := by omega
                go_wp2_with fail
                go_meet
                case rel => exact ⟨0, hpos, rfl, rfl⟩
            case rest =>
              obtain ⟨j, hjl, rfl, hwc⟩ := hcut
              subst hwc
              obtain ⟨g13, hg13, hgl⟩ : ∃ g13, a13 = some ⟨g13, 0, none⟩ ∧ g13 < wr.heap.size := by
                rcases HO.out.cases with ⟨_, h0, _⟩ | ⟨g, cap, e, hl, _⟩
                · omega
                · simp only [Value.slice.injEq] at e
                  exact ⟨g, e.1, hl⟩
              subst hg13
              have S4 := HS.out.fr Hf4.out
              have O4 := HO.out.fr Hf4.out (fun _ _ => id)
              have cj4 : ∀ W, Own W 3 1 own.length (.slice (some ⟨g13, 0, none⟩) own.length c13) (ints own) → W.cell? ⟨g13, j, none⟩ = some (.int .i64 own[j]) := fun W o => by
                obtain ⟨b', o', c', e, _, cj⟩ := o.rd.int hjl
                simp only [Value.slice.injEq, Option.some.injEq, Addr.mk.injEq] at e
                obtain ⟨⟨rfl, rfl, _⟩, _⟩ := e
                rw [Nat.zero_add] at cj
                exact cj
              have LT := (S4.fr (Fr.refl (fun _ => False) _).drew).letgo hak j hjl HRI.out (fun y hy => (HBD.out y hy).2)
              have hnotin : own[j] ∉ own.eraseIdx j := fun hm => by
                rw [List.mem_eraseIdx_iff_getElem] at hm
                obtain ⟨i, hi, hne, e⟩ := hm
                exact hne (rise_inj HRI.out e)
              have hjlI : (j : Int) < own.length := by omega
              have cjw := cj4 _ O4
              have AFT : Hid (∀ w5, OwnSt w x k bx ba a b (own.eraseIdx j) F w5 → Fr F wc.drew w5 → w5.cell? ⟨bx, 0, none⟩ = some (.pointer (some ⟨x, 0, none⟩)) ∧ w5.cell? ⟨ba, 0, none⟩ = some (.int .i64 a) ∧ w5.cell? ⟨g13, j, none⟩ = some (.int .i64 own[j]) ∧ Hid (Own w5 3 1 own.length (.slice (some ⟨g13, 0, none⟩) own.length c13) (ints own)) ∧
                  Hid (∀ q, Calls Try.prog 33 #[.pointer (some ⟨x, 0, none⟩), .int .i64 a, .int .i64 own[j]] (w5.drewN q) fun e w' => e = .returned (.bool false) ∧ w' = w5.drewN q) ∧
                  Hid (∀ q, Calls Try.prog 30 #[.pointer (some ⟨x, 0, none⟩), .int .i64 own[j]] (w5.drewN q) fun e w' => e = .returned (.int .i64 (-1)) ∧ w' = w5.drewN q)) := fun w5 S5 f5 => by
                have O5 := O4.fr ((Fr.refl F _).drew.trans f5) (fun q hq => (HN.out q hq).1)
                refine ⟨S5.s.B.cell 0, S5.A.cell 0, cj4 _ O5, O5, fun q => ?_, fun q => ?_⟩
                · have := rank_holds x k _ _ F a _ (S5.fr (Fr.drewN0 w5 q)).s.H hak own[j]
                  rw [show LO a b (own.eraseIdx j) a = own.eraseIdx j by unfold LO; rw [if_pos rfl], decide_eq_false hnotin] at this
                  exact this.mono fun _ _ h => ⟨h.1, h.2.symm⟩
                · have := rank_owner x k _ _ F _ (S5.fr (Fr.drewN0 w5 q)).s.H own[j]
                  rw [show OOw a b (own.eraseIdx j) own[j] = none by unfold OOw; rw [if_neg hnotin, if_neg (by have := HBD.out own[j] (List.getElem_mem _); omega)]] at this
                  exact this.mono fun _ _ h => ⟨h.1, h.2.symm⟩
              have HLT := Lib.hid LT
              clear S4 O4 LT hnotin cj4
              generalize own[j] = y at *
              go_wp2_with fail
              go_region_held3 (fun w' => w'.cell? ⟨bx, 0, none⟩ = some (.pointer (some ⟨x, 0, none⟩)) ∧ w'.cell? ⟨ba, 0, none⟩ = some (.int .i64 a) ∧ w'.cell? ⟨g13, j, none⟩ = some (.int .i64 y)) (first | exact ⟨by assumption, by assumption, by assumption⟩)
                (first | (go_at_call 27; (with_reducible refine HLT.out.mono ?_); rintro e w5 ⟨rfl, S5, f5⟩; obtain ⟨bx5, ba5, cj5, HO5, HHO, HOW⟩ := AFT.out w5 S5 f5; have HS5 := Lib.hid S5; have Hf5 := Lib.hid f5; clear S5 f5))
              clear bx4 ba4 cjw HLT AFT
              go_wp2_with fail
              go_quiet (first
                | (go_at_call 33; refine Calls.quiet_of_same (HHO.out _))
                | (go_at_call 30; refine Calls.quiet_of_same (HOW.out _)))
              go_wp2_with fail
              have S6 := HS5.out.fr (Fr.drewN0 w5 nq)
              have O6 := HO5.out.fr (Fr.drewN0 w5 nq) (fun _ _ => id)
              generalize w5.drewN nq = w6 at *
              have g6 : g13 < w6.heap.size := O6.lt rfl
              have c6 : own.length ≤ c13 ∧ c13 ≤ maxLen := by
                obtain ⟨_, _, e, h1, h2⟩ := O6.form
                simp only [Value.slice.injEq] at e
                omega
              have cI : (c13 : Int) ≤ 9223372036854775807 := by have := c6.2; unfold maxLen at this; omega
              have cI2 : (own.length : Int) ≤ c13 := by omega
              have cI3 : (j : Int) + 1 ≤ own.length := by omega
              have cI4 : (j : Int) ≤ c13 := by omega
              have cI5 : (0 : Int) ≤ j := by omega
              have cI6 : IntKind.i64.wrap ((j : Int) + 1) = (j : Int) + 1 := IntWalk.i64_in _ (by omega)
              have cI7 : (0 : Int) ≤ (j : Int) + 1 := by omega
              have O1 : Own (w6.alloc (.cells #[] 3)).drew 3 1 0 (.slice (some ⟨w6.heap.size, 0, none⟩) 0 0) [] := Own.lit (w := w6) #[] 3 1 0 (by unfold maxLen; omega) rfl
              have RR : ∀ W, Rd W (.slice (some ⟨g13, 0, none⟩) own.length c13) (ints own) → Rd W (.slice (some ⟨g13, 0, none⟩) j c13) (ints (own.take j)) ∧ Rd W (.slice (some ⟨g13, j + 1, none⟩) (own.length - (j + 1)) (c13 - (j + 1))) (ints (own.drop (j + 1))) := fun W r => by
                rcases r with ⟨h, _⟩ | ⟨b', o', c', e, h1, h2, h3, h4⟩
                · simp at h
                · simp only [Value.slice.injEq, Option.some.injEq, Addr.mk.injEq] at e
                  obtain ⟨⟨rfl, rfl, _⟩, _, rfl⟩ := e
                  rw [ints_len] at h1
                  refine ⟨.inr ⟨g13, 0, c13, by rw [ints_len, List.length_take]; congr 1; omega, by rw [ints_len, List.length_take]; omega, h2, h3, fun q u hq => ?_⟩, .inr ⟨g13, j + 1, c13 - (j + 1), by rw [ints_len, List.length_drop], by rw [ints_len, List.length_drop]; omega, by omega, h3, fun q u hq => ?_⟩⟩
                  · rw [ints_get, List.getElem?_take] at hq
                    split at hq
                    · exact h4 q u (by rw [ints_get]; exact hq)
                    · simp at hq
                  · rw [ints_get, List.getElem?_drop] at hq
                    have := h4 (j + 1 + q) u (by rw [ints_get]; exact hq)
                    rw [Nat.zero_add] at this
                    exact this
              have R1 := (RR _ (O6.rd.fr ((Fr.refl (fun _ => False) w6).alloc (.cells #[] 3)).drew (fun _ _ => id))).1
              by_cases hcap : c13 = j + 1
              have hcT : (c13 = j + 1) = True := eq_true hcap
              have R2 : ∀ w7, Fr (fun q => q = w6.heap.size) (w6.alloc (.cells #[] 3)).drew w7 → Rd w7 (.slice (some ⟨g13, 0, none⟩) (own.length - (j + 1)) (c13 - (j + 1))) (ints (own.drop (j + 1))) := fun w7 f => .inr ⟨g13, 0, c13 - (j + 1), by rw [ints_len, List.length_drop], by rw [ints_len, List.length_drop]; omega, by omega, Nat.lt_of_lt_of_le (by simp [World.drew]; omega) f.size, fun q u hq => by rw [ints_get, List.getElem?_drop, List.getElem?_eq_none (by omega)] at hq; simp at hq⟩
              clear hcap
              have HS6 := Lib.hid S6
              have HO1 := Lib.hid O1
              have HR1 := Lib.hid R1
              have HR2 := Lib.hid R2
              have HC6 := Lib.hid c6
              clear S6 O6 O1 RR R1 R2 c6 bx5 ba5 cj5 HO5 HHO HOW HS5 Hf5
              focus (
                go_region_held3 (fun _ => True) (trivial) (first
                  | (refine step_append_rd (by rfl) (.tmp 109) (.tmp 112) 24 (by rfl) 3 i0 (.int .i64 0) 8 Try.underlying24 hif hz0 hz1 hz2 rfl (by decide) w6.heap.size 0 0 [] (by simp [Act.eval]) HO1.out (.slice (some ⟨g13, 0, none⟩) j c13) (ints (own.take j)) (by simp [Act.eval]) HR1.out (ints_one _) (by rw [ints_len, List.length_take]; omega) ?_; intro g7 c7 w7 O7 F7 G7; have HO7 := Lib.hid O7; have HF7 := Lib.hid F7; have HG7 := Lib.hid G7; clear O7 F7 G7)
                  | (refine step_append_rd (by rfl) (.tmp 113) (.tmp 117) 24 (by rfl) 3 i0 (.int .i64 0) 8 Try.underlying24 hif hz0 hz1 hz2 rfl (by decide) g7 _ c7 _ (by simp [Act.eval]) HO7.out (.slice (some ⟨g13, 0, none⟩) (own.length - (j + 1)) (c13 - (j + 1))) (ints (own.drop (j + 1))) (by simp [Act.eval]) (HR2.out _ HF7.out) (ints_one _) (by simp only [ints_len, List.length_drop, List.length_take]; omega) ?_; intro g8 c8 w8 O8 F8 G8; have HO8 := Lib.hid O8; have HF8 := Lib.hid F8; have HG8 := Lib.hid G8; clear O8 F8 G8)))
              clear hcT
              rotate_left 1
              have R2 : ∀ w7, Fr (fun q => q = w6.heap.size) (w6.alloc (.cells #[] 3)).drew w7 → Rd w7 (.slice (some ⟨g13, j + 1, none⟩) (own.length - (j + 1)) (c13 - (j + 1))) (ints (own.drop (j + 1))) := fun w7 f => (RR _ ((O6.rd.fr ((Fr.refl (fun _ => False) w6).alloc (.cells #[] 3)).drew (fun _ _ => id)).fr f (fun q ⟨_, _, _, e⟩ h => by simp only [Value.slice.injEq, Option.some.injEq, Addr.mk.injEq] at e; omega))).2
              have HS6 := Lib.hid S6
              have HO1 := Lib.hid O1
              have HR1 := Lib.hid R1
              have HR2 := Lib.hid R2
              have HC6 := Lib.hid c6
              clear S6 O6 O1 RR R1 R2 c6 bx5 ba5 cj5 HO5 HHO HOW HS5 Hf5
              focus (
                go_region_held3 (fun _ => True) (trivial) (first
                  | (refine step_append_rd (by rfl) (.tmp 109) (.tmp 112) 24 (by rfl) 3 i0 (.int .i64 0) 8 Try.underlying24 hif hz0 hz1 hz2 rfl (by decide) w6.heap.size 0 0 [] (by simp [Act.eval]) HO1.out (.slice (some ⟨g13, 0, none⟩) j c13) (ints (own.take j)) (by simp [Act.eval]) HR1.out (ints_one _) (by rw [ints_len, List.length_take]; omega) ?_; intro g7 c7 w7 O7 F7 G7; have HO7 := Lib.hid O7; have HF7 := Lib.hid F7; have HG7 := Lib.hid G7; clear O7 F7 G7)
                  | (refine step_append_rd (by rfl) (.tmp 113) (.tmp 117) 24 (by rfl) 3 i0 (.int .i64 0) 8 Try.underlying24 hif hz0 hz1 hz2 rfl (by decide) g7 _ c7 _ (by simp [Act.eval]) HO7.out (.slice (some ⟨g13, j + 1, none⟩) (own.length - (j + 1)) (c13 - (j + 1))) (ints (own.drop (j + 1))) (by simp [Act.eval]) (HR2.out _ HF7.out) (ints_one _) (by simp only [ints_len, List.length_drop, List.length_take]; omega) ?_; intro g8 c8 w8 O8 F8 G8; have HO8 := Lib.hid O8; have HF8 := Lib.hid F8; have HG8 := Lib.hid G8; clear O8 F8 G8)))
              clear hcap
              rotate_left 1
              all_goals (
                go_wp2_with fail
                have o8 := HO8.out
                have hz6 := HS6.out.s.B.lt
                have hz6a := HS6.out.A.lt
                have hw0 := HS6.out.s.f.size
                have l7 := HF7.out.size
                have hc6 := HC6.out
                have e8 : ints (own.take j) ++ ints (own.drop (j + 1)) = ints (own.eraseIdx j) := by unfold ints; rw [← List.map_append, ← List.eraseIdx_eq_take_drop_succ]
                have el : (ints (own.take j)).length + (ints (own.drop (j + 1))).length = (own.eraseIdx j).length := by rw [← List.length_append, e8, ints_len]
                have el2 : (own.eraseIdx j).length + 1 = own.length := by rw [List.length_eraseIdx]; split <;> omega
                simp only [List.nil_append, Nat.zero_add] at o8
                rw [e8, el] at o8
                rw [el]
                have hg7 : w6.heap.size ≤ g7 := by rcases HG7.out with h | h <;> simp [World.drew] at * <;> omega
                have hg8 : w6.heap.size ≤ g8 := by rcases HG8.out with h | h <;> simp [World.drew] at * <;> omega
                have f8 : Fr (fun _ => False) w6 w8 := ((((Fr.refl (fun _ => False) w6).alloc (.cells #[] 3)).drew).step HF7.out (fun q hq e => by omega)).step HF8.out (fun q hq e => by omega)
                have hsub : ∀ y ∈ own.eraseIdx j, y ∈ own := fun y hy => List.mem_of_mem_eraseIdx hy
                refine ⟨⟨i2 + 1, own.eraseIdx j, F, by omega, by go_num, List.Pairwise.sublist (List.eraseIdx_sublist _ _) HRI.out, fun y hy => HBD.out y (hsub y hy), HS6.out.fr f8, o8, fun q hq => ?_⟩, ?_⟩
                · have hq' : some g8 = some q := hq
                  simp at hq'
                  subst hq'
                  exact ⟨fun hF => by have := HS6.out.s.H.lt hF; omega, by omega, by omega, by omega⟩
                · show (own.eraseIdx j).length < own.length
                  omega)
          · obtain rfl : own = [] := List.eq_nil_of_length_eq_zero (by omega)
            have LL' : Hid (∀ w', Fr (fun _ => False) wr w' → Calls Try.prog 29 #[.pointer (some ⟨x, 0, none⟩), .int .i64 a] w' fun e w2 => ∃ q c, e = .returned (.slice q 0 c) ∧ Fr (fun _ => False) w' w2) := fun w' f =>
              (rank_list x k _ _ F a w' (HS.out.fr f).s.H hak).mono fun e w2 ⟨u, he, O, f2, _⟩ => by
                obtain ⟨q1, q2, e2, _, _⟩ := O.form
                rw [show LO a b [] a = [] by unfold LO; rw [if_pos rfl]] at e2
                exact ⟨q1, q2, by rw [he, e2]; rfl, f2⟩
            have HB' : Hid (∀ w', Fr (fun _ => False) wr w' → Calls Try.prog 33 #[.pointer (some ⟨x, 0, none⟩), .int .i64 b, .int .i64 1000] w' fun e w2 => e = .returned (.bool true) ∧ w' = w2) := fun w' f => by
              have := rank_holds x k _ _ F b w' (HS.out.fr f).s.H hbk 1000
              rw [show LO a b [] b = [1000] by unfold LO; rw [if_neg hab, if_pos rfl], decide_eq_true (by simp)] at this
              exact this
            clear hS hO hN hrise hbd bx0 ba0
            go_wp2_with fail
            refine (guard_idle 35 _ _ (.stop 6 1000) (fun w => by simp [go_sem]) (rankOwn1 w x k bx ba a b F _ (HS.out.fr (gworld_fr _ (fun _ => False))) hak)).mono ?_
            rintro e w5 ⟨rfl, f5⟩
            have S5 := HS.out.fr f5
            have bx5 := S5.s.B.cell 0
            have lx5 := S5.s.B.lt
            have ba5 := S5.A.cell 0
            have la5 := S5.A.lt
            have Hf5 := Lib.hid f5
            have Hf6 := Lib.hid (f5.alloc (.cells #[.int .i64 6, .int .i64 1000] 30))
            simp only [Stp.why_s, Stp.at_s, Stp.is_s]
            clear f5 S5
            go_wp2_with (first
              | (go_at_call 29; (with_reducible refine (LL'.out _ Hf6.out).mono ?_); rintro e w6 ⟨q1, q2, rfl, f6⟩; have f7 := Hf6.out.trans f6; have bx7 := (HS.out.fr f7).s.B.cell 0; have ba7 := (HS.out.fr f7).A.cell 0; have Hf7 := Lib.hid f7; clear f6 f7)
              | (go_at_call 33; (with_reducible refine (HB'.out _ Hf7.out).mono ?_); rintro e w7 ⟨rfl, rfl⟩)
              | (go_at_call 4; (with_reducible refine (HRR.out _).mono ?_); rintro e w8 ⟨rfl, f8⟩; have HF8 := Lib.hid f8; clear f8))
            go_ret
            exact ⟨rfl, (HS.out.s.f.trans (Hf7.out.trans HF8.out)).below⟩)
end Go.Proofs.Ytoifefcbegdjdaa
