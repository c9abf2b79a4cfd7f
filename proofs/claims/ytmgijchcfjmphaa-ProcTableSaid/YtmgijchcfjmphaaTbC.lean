import Derived.Test.YtmgijchcfjmphaaTbB
import Derived.Test.YtmgijchcfjmphaaAsk4
import Derived.Test.YtmgijchcfjmphaaWithin
import Derived.Deep.RegionHeld
import Derived.Deep.Cut
import Derived.Deep.DeepCutAuto
namespace Go.Proofs.Ytmgijchcfjmphaa
open Go.RowKit
attribute [local irreducible] bare

/-- the law's own tables, and the view's -/
structure TbI (V : Vw) (wA : World) (bu bp bd : Nat) (U : Nat → Bool) (P D : Nat → Int) (L : Int) (w : World) : Prop where
  k : Kt V wA U P D L w
  u : Arr w bu 8 (fun j => .bool (U j)) 54
  p : Arr w bp 8 (fun j => .int .i64 (P j)) 55
  d : Arr w bd 8 (fun j => .int .i64 (D j)) 55
theorem Arr.lit8 (w : World) (z : Value) (t : TypeId) : Arr (w.alloc (.cells #[z, z, z, z, z, z, z, z] t)) w.heap.size 8 (fun _ => z) t := ⟨_, Blk.new w _ t, rfl, fun i hi => by
  match i, hi with
  | 0, _ => rfl
  | 1, _ => rfl
  | 2, _ => rfl
  | 3, _ => rfl
  | 4, _ => rfl
  | 5, _ => rfl
  | 6, _ => rfl
  | 7, _ => rfl⟩
section
variable {V : Vw} {wA w w' : World} {bu bp bd : Nat} {U U' : Nat → Bool} {P D P' D' : Nat → Int} {L L' : Int}
theorem TbI.call (h : TbI V wA bu bp bd U P D L w) (k : Kt V wA U' P' D' L' w') (f : Fr V.foot w w') (h1 : ¬ V.foot bu) (h2 : ¬ V.foot bp) (h3 : ¬ V.foot bd) : Kt V wA U' P' D' L' w' ∧ Arr w' bu 8 (fun j => .bool (U j)) 54 ∧ Arr w' bp 8 (fun j => .int .i64 (P j)) 55 ∧ Arr w' bd 8 (fun j => .int .i64 (D j)) 55 :=
  ⟨k, h.u.fr f h1, h.p.fr f h2, h.d.fr f h3⟩
theorem TbI.fr0 (h : TbI V wA bu bp bd U P D L w) (f : Fr (fun _ => False) w w') : TbI V wA bu bp bd U P D L w' := ⟨h.k.owned f (fun _ hk => hk.elim), h.u.fr f id, h.p.fr f id, h.d.fr f id⟩
end
theorem kidsL_len (U : Nat → Bool) (P : Nat → Int) (p : Int) : ∀ l k, (kidsL U P p l k).length ≤ l
  | 0, _ => Nat.le_refl _
  | l + 1, k => by
    have := kidsL_len U P p l (k + 1)
    unfold kidsL
    split
    · simp; omega
    · omega
theorem same_true (a b : Value) (la lb : List Int) (w : World) (ha : Rd w a (ints la)) (hb : Rd w b (ints lb)) (hl : la.length ≤ 1000000) (he : la = lb) :
    Calls Try.prog 21 #[a, b] w fun e w' => e = .returned (.bool true) ∧ ∃ q, w' = w.drewN q := by
  have c := sl_same a b la lb w ha hb hl
  rw [decide_eq_true he] at c
  exact c
set_option maxRecDepth 100000 in
set_option maxHeartbeats 1000000 in
theorem procTable_any (a : Option Addr) (len cap : Nat) (F : Nat → Nat → Int) (w : World) (hS : Asks4 w a len F) : Calls Try.prog 7 #[.slice a len cap] w fun e w' => e = .returned (.bool true) ∧ Fr (fun _ => False) w w' := by
  obtain ⟨i0, hif, hz0, hz1, hz2⟩ := info_parts info_int1
  have HS := Lib.hid hS
  clear hS
  go_enter Try.func7, Try.ntmps7
  go_wp2_with fail
  refine (keep_new0 _).mono ?_
  rintro e wA ⟨t, V, rfl, tb, f1, hv⟩
  obtain ⟨q0, q1, q2, hB⟩ := tb.c
  have c1 : wA.cell? ⟨t, 1, none⟩ = some V.p := hB.cell 1
  have HK : Hid (Keeps V wA bare [] wA) := by rw [bare_eq]; exact tb.vs.keeps
  have HF := Lib.hid f1
  have HV := Lib.hid hv
  clear tb f1 hv hB
  go_wp2_with fail
  have HI : Hid (TbI V wA wA.heap.size (wA.heap.size + 1) (wA.heap.size + 1 + 1) (fun _ => false) (fun _ => 0) (fun _ => 0) 0 (((wA.alloc (.cells #[.bool false, .bool false, .bool false, .bool false, .bool false, .bool false, .bool false, .bool false] 54)).alloc (.cells #[.int .i64 0, .int .i64 0, .int .i64 0, .int .i64 0, .int .i64 0, .int .i64 0, .int .i64 0, .int .i64 0] 55)).alloc (.cells #[.int .i64 0, .int .i64 0, .int .i64 0, .int .i64 0, .int .i64 0, .int .i64 0, .int .i64 0, .int .i64 0] 55))) := by
    refine ⟨((Kt.alloc ⟨bare, tb0, HK.out⟩ _).alloc _).alloc _, ((Arr.lit8 wA _ _).alloc _).alloc _, ?_, ?_⟩
    · have k := (Arr.lit8 (wA.alloc (.cells #[.bool false, .bool false, .bool false, .bool false, .bool false, .bool false, .bool false, .bool false] 54)) (.int .i64 0) 55).alloc (.cells #[.int .i64 0, .int .i64 0, .int .i64 0, .int .i64 0, .int .i64 0, .int .i64 0, .int .i64 0, .int .i64 0] 55)
      rw [World.size_alloc] at k
      exact k
    · have k := (Arr.lit8 ((wA.alloc (.cells #[.bool false, .bool false, .bool false, .bool false, .bool false, .bool false, .bool false, .bool false] 54)).alloc (.cells #[.int .i64 0, .int .i64 0, .int .i64 0, .int .i64 0, .int .i64 0, .int .i64 0, .int .i64 0, .int .i64 0] 55)) (.int .i64 0) 55)
      rw [World.size_alloc, World.size_alloc] at k
      exact k
  have HFT := Lib.hid (fun k hk => HK.out.lt k (Vw.foot_has hk) : ∀ k, V.foot k → k < wA.heap.size)
  obtain ⟨bu, hbu⟩ : ∃ b, b = wA.heap.size := ⟨_, rfl⟩
  rw [← hbu] at HI HFT ⊢
  obtain ⟨bp, hbp⟩ : ∃ b, b = bu + 1 := ⟨_, rfl⟩
  rw [← hbp] at HI ⊢
  obtain ⟨bd, hbd⟩ : ∃ b, b = bp + 1 := ⟨_, rfl⟩
  rw [← hbd] at HI ⊢
  have HD : Hid (¬ V.foot bu ∧ ¬ V.foot bp ∧ ¬ V.foot bd ∧ wA.heap.size ≤ bu ∧ wA.heap.size ≤ bp ∧ wA.heap.size ≤ bd ∧ bu ≠ bp ∧ bu ≠ bd ∧ bp ≠ bd) := ⟨fun h => by have := HFT.out _ h; omega, fun h => by have := HFT.out _ h; omega, fun h => by have := HFT.out _ h; omega, by omega, by omega, by omega, by omega, by omega, by omega⟩
  clear hbu hbp hbd HFT HK
  go_loopw [8, 9, 10] (fun t8 t9 t10 wr => ∃ (i : Nat) (U : Nat → Bool) (P D : Nat → Int) (L : Int), i ≤ len ∧ t10 = .int .i64 i ∧ t8 = .int .i64 L ∧ t9 = .int .i64 (cntU U) ∧ L ≤ i ∧ TbI V wA bu bp bd U P D L wr) (fun _ _ t10 _ => (len - intOf t10).toNat)
  case atStart => exact ⟨0, _, _, _, 0, by omega, rfl, rfl, rfl, by omega, HI.out⟩
  case round =>
    obtain ⟨i, U, P, D, L, hi, rfl, rfl, rfl, hL, hI⟩ := hrel
    clear HI
    have HI := Lib.hid hI
    clear hI
    by_cases hr : i < len ∧ i < 40
    · obtain ⟨hr1, hr2⟩ := hr
      have hr1' : (i : Int) < len := by omega
      have hr2' : (i : Int) < 40 := by omega
      rcases HS.out.fr (HF.out.step HI.out.k.facts.1 (fun k hk hf => by have := HV.out k (Vw.foot_has hf); omega)) (fun _ _ => id) with h | ⟨bb, off, rfl, hbw, hcl⟩
      · omega
      obtain ⟨⟨k0, hb0⟩, ⟨k1, hb1⟩, _, _⟩ := hcl i hr1
      obtain ⟨p, hp⟩ : ∃ p, p = wth (F i 1) 0 7 := ⟨_, rfl⟩
      have HW1 := Lib.hid (fun w => within_any (F i 1) 0 7 w hb1 (by omega) (by omega) (by omega))
      have b1 := wth_bd (n := F i 1) (lo := 0) (hi := 7) (by omega)
      rw [← hp] at HW1 b1
      obtain ⟨p, rfl⟩ : ∃ n : Nat, p = n := ⟨p.toNat, by omega⟩
      obtain ⟨kd, hkd⟩ : ∃ k, k = F i 0 := ⟨_, rfl⟩
      rw [← hkd] at k0
      clear hp hcl hb0 hb1 hr1 hr2 hkd
      have hp8 : p < 8 := by omega
      have hp0 : (0 : Int) ≤ p := by omega
      have hp8' : (p : Int) < 8 := by omega
      have cu := HI.out.u.cell hp8
      have fu := HI.out.u.frozen p
      have lu := HI.out.u.lt
      have hn8 := cntU_le U
      go_upto_if 48 with (go_at_call 13; (with_reducible refine (HW1.out _).mono ?_); rintro e w' ⟨rfl, rfl⟩)
      go_cut [8, 9] (fun t8 t9 wx => ∃ (U' : Nat → Bool) (P' D' : Nat → Int) (L' : Int), t8 = .int .i64 L' ∧ t9 = .int .i64 (cntU U') ∧ L' ≤ i + 1 ∧ TbI V wA bu bp bd U' P' D' L' wx)
      case first =>
        by_cases hk2 : kd = 2
        · subst hk2
          have HFR := Lib.hid (fun w (h : Kt V wA U P D L w) => kt_free p hp8 h)
          have hcn := cntU_upd U p hp8 false
          cases hu : U p with
          | true =>
            rw [hu] at HFR cu hcn
            have hN : ((cntU U : Int) - 1) = cntU (upd U p false) := by simp at hcn; omega
            have HN := Lib.hid hN
            clear hN hcn hn8
            go_wp2_with fail
            go_region_held3 (fun w' => w'.cell? ⟨bu, p, none⟩ = some (.bool true)) (first | exact by assumption)
              (first | (go_at_call 20; (with_reducible refine (HFR.out _ (HI.out.k.owned ((Fr.refl (fun _ => False) _).drew) (fun _ h => h.elim))).mono ?_); rintro e w6 ⟨rfl, k6, f6⟩; obtain ⟨_, u6, p6, d6⟩ := (HI.out.fr0 (Fr.refl _ _).drew).call k6 f6 HD.out.1 HD.out.2.1 HD.out.2.2.1; have c6 := u6.cell hp8; rw [hu] at c6; have fz6 := u6.frozen p; have l6 := u6.lt; have HK6 := Lib.hid k6; have HU6 := Lib.hid u6; have HP6 := Lib.hid p6; have HD6 := Lib.hid d6; clear k6 f6 u6 p6 d6))
            go_wp2_with fail
            go_meet
            refine ⟨upd U p false, P, D, L, rfl, by rw [HN.out]; congr 1; have := cntU_le (upd U p false); unfold wrap64; omega, by omega, ⟨HK6.out.setOwn HD.out.2.2.2.1 _, ?_, HP6.out.other HD.out.2.2.2.2.2.2.1 _, HD6.out.other HD.out.2.2.2.2.2.2.2.1 _⟩⟩
            rw [upd_comp (fun b => Value.bool b)]
            exact HU6.out.set p _
          | false =>
            rw [hu] at HFR cu
            have HE := Lib.hid (show upd U p false = U by funext j; simp only [upd]; split; · subst_vars; exact hu.symm
                                                          · rfl)
            rw [HE.out] at HFR
            clear hcn hn8
            go_wp2_with fail
            go_region_held3 (fun w' => w'.cell? ⟨bu, p, none⟩ = some (.bool false)) (first | exact by assumption)
              (first | (go_at_call 20; (with_reducible refine (HFR.out _ (HI.out.k.owned ((Fr.refl (fun _ => False) _).drew) (fun _ h => h.elim))).mono ?_); rintro e w6 ⟨rfl, k6, f6⟩; obtain ⟨_, u6, p6, d6⟩ := (HI.out.fr0 (Fr.refl _ _).drew).call k6 f6 HD.out.1 HD.out.2.1 HD.out.2.2.1; have c6 := u6.cell hp8; rw [hu] at c6; have HK6 := Lib.hid k6; have HU6 := Lib.hid u6; have HP6 := Lib.hid p6; have HD6 := Lib.hid d6; clear k6 f6 u6 p6 d6))
            go_wp2_with fail
            go_meet
            exact ⟨U, P, D, L, rfl, rfl, by omega, HK6.out, HU6.out, HP6.out, HD6.out⟩
        · have hk2' : (kd == 2) = false := beq_eq_false_iff_ne.2 hk2
          have hpl := HI.out.k.facts.2.2.1
          clear cu fu lu hk2
          rcases least_or U 8 with ⟨q, hq, hu, hall⟩ | hall
          · have HNW := Lib.hid (fun w (h : Kt V wA U P D L w) => kt_new_yes p (by omega) (by omega) q hq hu hall h)
            have hcl : (cntU U : Int) < 8 := by have := cntU_lt U q hq hu; omega
            have hcn := cntU_upd U q hq true
            have hN : ((cntU U : Int) + 1) = cntU (upd U q true) := by rw [hu] at hcn; simp at hcn; omega
            have HN := Lib.hid hN
            have HALL := Lib.hid hall
            have hq0 : (0 : Int) ≤ q := by omega
            have hq8 : (q : Int) < 8 := by omega
            clear hN hcn hn8 hall
            go_wp2_with (go_at_call 15; (with_reducible refine (HNW.out _ HI.out.k).mono ?_); rintro e w6 ⟨rfl, k6, f6⟩; obtain ⟨_, u6, p6, d6⟩ := HI.out.call k6 f6 HD.out.1 HD.out.2.1 HD.out.2.2.1; have HK6 := Lib.hid k6; have HU6 := Lib.hid u6; have HP6 := Lib.hid p6; have HD6 := Lib.hid d6; have c6 := u6.cell hq; rw [hu] at c6; have fz6 := u6.frozen q; have l6 := u6.lt; have c7 := p6.cell hq; have fz7 := p6.frozen q; have l7 := p6.lt; have c8 := d6.cell hq; have fz8 := d6.frozen q; have l8 := d6.lt; have hd1 := HD.out.2.2.2.2.2.2.1; have hd2 := HD.out.2.2.2.2.2.2.2.1; have hd3 := HD.out.2.2.2.2.2.2.2.2; clear k6 f6 u6 p6 d6)
            go_loop [14] (fun t14 => ∃ j : Nat, j ≤ q ∧ t14 = .int .i64 j) (fun t14 => (q - intOf t14).toNat)
            case atStart => exact ⟨0, by omega, rfl⟩
            case round =>
              obtain ⟨j, hj, rfl⟩ := hrel
              by_cases hjq : j < q
              · have hjq' : (j : Int) < q := by omega
                have hj0 : (0 : Int) ≤ j := by omega
                have hj8 : (j : Int) < 8 := by omega
                have cj := HU6.out.cell (show j < 8 by omega)
                rw [HALL.out j hjq] at cj
                go_wp2_with fail
                exact ⟨⟨j + 1, by omega, by go_num⟩, by simp [intOf]; omega⟩
              · obtain rfl : j = q := by omega
                have hjq' : ¬ (j : Int) < j := by omega
                go_wp2_with fail
                go_meet
                refine ⟨upd U j true, upd P j p, upd D j (L + 1), L + 1, rfl, by rw [HN.out], by omega, ⟨((HK6.out.setOwn HD.out.2.2.2.1 _).setOwn HD.out.2.2.2.2.1 _).setOwn HD.out.2.2.2.2.2.1 _, ?_, ?_, ?_⟩⟩
                · rw [upd_comp (fun b => Value.bool b)]; exact ((HU6.out.set j _).other hd1.symm _).other hd2.symm _
                · rw [upd_comp (fun b => Value.int .i64 b)]; exact ((HP6.out.other hd1 _).set j _).other hd3.symm _
                · rw [upd_comp (fun b => Value.int .i64 b)]; exact ((HD6.out.other hd2 _).other hd3 _).set j _
          · have HNW := Lib.hid (fun w (h : Kt V wA U P D L w) => kt_new_no p (by omega) (by omega) hall h)
            have hcl : ¬ (cntU U : Int) < 8 := by have := cntU_all U hall; omega
            clear hn8
            go_wp2_with (go_at_call 15; (with_reducible refine (HNW.out _ HI.out.k).mono ?_); rintro e w6 ⟨rfl, k6, f6⟩; obtain ⟨_, u6, p6, d6⟩ := HI.out.call k6 f6 HD.out.1 HD.out.2.1 HD.out.2.2.1; have HK6 := Lib.hid k6; have HU6 := Lib.hid u6; have HP6 := Lib.hid p6; have HD6 := Lib.hid d6; clear k6 f6 u6 p6 d6)
            exact ⟨⟨i + 1, U, P, D, L, by omega, by go_num, rfl, rfl, by omega, HK6.out, HU6.out, HP6.out, HD6.out⟩, by simp [intOf]; omega⟩
      case rest =>
        clear HI cu fu lu k0 k1
        obtain ⟨U', P', D', L', rfl, rfl, hL', hI'⟩ := hcut
        have HI := Lib.hid hI'
        clear hI'
        go_wp2_with fail
        go_loopw [107] (fun t107 wr => ∃ k : Nat, k ≤ 8 ∧ t107 = .int .i64 k ∧ TbI V wA bu bp bd U' P' D' L' wr) (fun t107 _ => (8 - intOf t107).toNat)
        case atStart => exact ⟨0, by omega, rfl, HI.out⟩
        case round =>
          obtain ⟨k, hk, rfl, hI⟩ := hrel
          clear HI
          have HI := Lib.hid hI
          clear hI
          by_cases hk8 : k < 8
          · have hk8' : (k : Int) < 8 := by omega
            have hk8n := hk8
            have hk0 : (0 : Int) ≤ k := by omega
            have cu := HI.out.u.cell hk8
            have HST := Lib.hid (fun w (h : Kt V wA U' P' D' L' w) => kt_state k hk8 h)
            have HKD := Lib.hid (fun w (h : Kt V wA U' P' D' L' w) => kt_kids k (by omega) h)
            cases hu : U' k with
            | true =>
              rw [hu] at cu HST
              have HBP := Lib.hid (fun w (h : Kt V wA U' P' D' L' w) => kt_bypid k hk8 hu h)
              go_wp2_with fail
              go_region_held3 (fun w' => w'.cell? ⟨bu, k, none⟩ = some (.bool true)) (first | exact by assumption)
                (first | (go_at_call 23; (with_reducible refine (HST.out _ (HI.out.k.owned ((Fr.refl (fun _ => False) _).drew) (fun _ h => h.elim))).mono ?_); rintro e w6 ⟨rfl, k6, f6⟩; obtain ⟨_, u6, p6, d6⟩ := (HI.out.fr0 (Fr.refl _ _).drew).call k6 f6 HD.out.1 HD.out.2.1 HD.out.2.2.1; have c6 := u6.cell hk8n; rw [hu] at c6; have cd6 := d6.cell hk8n; have HI6 := Lib.hid (TbI.mk k6 u6 p6 d6); clear k6 f6 u6 p6 d6))
              go_wp2_with (go_at_call 17; (with_reducible refine (HBP.out _ HI6.out.k).mono ?_); rintro e w6 ⟨rfl, k6, f6⟩; obtain ⟨_, u6, p6, d6⟩ := HI6.out.call k6 f6 HD.out.1 HD.out.2.1 HD.out.2.2.1; have c6 := u6.cell hk8n; rw [hu] at c6; have cd6 := d6.cell hk8n; have HI6 := Lib.hid (TbI.mk k6 u6 p6 d6); clear k6 f6 u6 p6 d6)
              clear c6 cd6 cu HBP HST
              have HL6 := Lib.hid (show wA.heap.size ≤ w6.heap.size ∧ bu < w6.heap.size ∧ bp < w6.heap.size ∧ bd < w6.heap.size from ⟨HI6.out.k.facts.1.size, HI6.out.u.lt, HI6.out.p.lt, HI6.out.d.lt⟩)
              have HFT := Lib.hid (fun x hx => by have := HI6.out.k.facts.2.1 x (Vw.foot_has hx); have := HL6.out.1; omega : ∀ x, V.foot x → x < w6.heap.size)
              go_loopw [18, 138] (fun t18 t138 wr => ∃ (j : Nat) (acc : List Int), j ≤ 8 ∧ t138 = .int .i64 j ∧ acc.length ≤ j ∧ Own wr 3 1 acc.length t18 (ints acc) ∧ (∀ b, Of t18 b → w6.heap.size ≤ b) ∧ w6.heap.size ≤ wr.heap.size ∧ TbI V wA bu bp bd U' P' D' L' wr ∧ acc ++ kidsL U' P' k (8 - j) j = kidsL U' P' k 8 0) (fun _ t138 _ => (8 - intOf t138).toNat)
              case atStart => exact ⟨0, [], by omega, rfl, by simp, Own.nil _ _ _, fun b hb => by simp [Of, Value.ownBlock] at hb, Nat.le_refl _, HI6.out, rfl⟩
              case round =>
                obtain ⟨j, acc, hj, rfl, ha, hO, hN, hsz, hI, hE⟩ := hrel
                clear HI
                have HI := Lib.hid hI
                have HO := Lib.hid hO
                have HN := Lib.hid hN
                have HE := Lib.hid hE
                have HSZ := Lib.hid hsz
                clear hI hO hN hE hsz
                by_cases hj8 : j < 8
                · have hj8' : (j : Int) < 8 := by omega
                  have hj0 : (0 : Int) ≤ j := by omega
                  have cj := HI.out.u.cell hj8
                  have pj := HI.out.p.cell hj8
                  have hacc : acc.length ≤ 1000000000 := by omega
                  have HLS := Lib.hid (show kidsL U' P' k (8 - j) j = if U' j = true ∧ P' j = (k : Int) then (j : Int) :: kidsL U' P' k (8 - (j + 1)) (j + 1) else kidsL U' P' k (8 - (j + 1)) (j + 1) by rw [show 8 - j = (8 - (j + 1)) + 1 by omega]; rfl)
                  by_cases hy : U' j = true ∧ P' j = (k : Int)
                  · obtain ⟨hy1, hy2⟩ := hy
                    rw [hy1] at cj
                    rw [hy2] at pj
                    go_wp2_with (first | (at_builtin; refine wpList_append1 rfl _ _ 42 rfl 3 i0 (.int .i64 0) 8 Try.underlying42 hif hz0 hz1 hz2 rfl (by decide) _ _ (ints acc) rfl (.int .i64 j) 3 (HO.out.fr ((Fr.refl (fun _ => False) _).alloc _) (fun _ _ => id)) _ rfl rfl rfl hacc ?_; intro v' w' O2 F2 N2; have HO2 := Lib.hid O2; have HF2 := Lib.hid F2; have HN2 := Lib.hid N2; clear O2 F2 N2))
                    have e : ints acc ++ [.int .i64 (j : Int)] = ints (acc ++ [(j : Int)]) := by simp [ints]
                    have ho := HO2.out
                    rw [e] at ho
                    have hi1 := HI.out.fr0 ((Fr.refl (fun _ => False) _).alloc (.cells #[.int .i64 (j : Int)] 3))
                    have hl6 := HL6.out
                    have hi2 : TbI V wA bu bp bd U' P' D' L' w' := ⟨hi1.k.owned HF2.out (fun x hx => by have := HN.out x hx; omega), hi1.u.fr HF2.out (fun hx => by have := HN.out _ hx; omega), hi1.p.fr HF2.out (fun hx => by have := HN.out _ hx; omega), hi1.d.fr HF2.out (fun hx => by have := HN.out _ hx; omega)⟩
                    have hsz2 := HF2.out.size
                    have hsz1 := HSZ.out
                    refine ⟨⟨j + 1, acc ++ [(j : Int)], by omega, by go_num, by simp; omega, by simpa using ho, fun b hb => (HN2.out b hb).elim (HN.out b) (fun h => by omega), by simp at hsz2; omega, hi2, ?_⟩, by simp [intOf]; omega⟩
                    have he := HE.out
                    rw [HLS.out, if_pos ⟨hy1, hy2⟩] at he
                    rw [← he]; simp
                  · have hE2 := HE.out
                    rw [HLS.out, if_neg hy] at hE2
                    have HE2 := Lib.hid hE2
                    clear hE2
                    cases hu2 : U' j with
                    | false =>
                      rw [hu2] at cj
                      go_wp2_with fail
                      exact ⟨⟨j + 1, acc, by omega, by go_num, by omega, HO.out, HN.out, HSZ.out, HI.out, HE2.out⟩, by simp [intOf]; omega⟩
                    | true =>
                      rw [hu2] at cj
                      have hne : (P' j == (k : Int)) = false := beq_eq_false_iff_ne.2 (fun e => hy ⟨hu2, e⟩)
                      go_wp2_with fail
                      exact ⟨⟨j + 1, acc, by omega, by go_num, by omega, HO.out, HN.out, HSZ.out, HI.out, HE2.out⟩, by simp [intOf]; omega⟩
                · have hj8' : ¬ (j : Int) < 8 := by omega
                  obtain rfl : j = 8 := by omega
                  have he : kidsL U' P' k 8 0 = acc := by have h := HE.out; rw [show kidsL U' P' k (8 - 8) 8 = [] from rfl, List.append_nil] at h; exact h.symm
                  rw [he] at HKD
                  have hlen : acc.length ≤ 1000000 := by omega
                  go_wp2_with (first
                    | (go_at_call 16; (with_reducible refine (HKD.out _ HI.out.k).mono ?_); rintro e w9 ⟨v9, rfl, O9, N9, k9, f9⟩; have SM := Lib.hid (same_true v9 _ acc acc w9 O9.rd (HO.out.fr f9 (fun b hb hf => by have := HN.out b hb; have := HFT.out b hf; omega)).rd hlen rfl); have HI9 := Lib.hid (TbI.mk k9 (HI.out.u.fr f9 HD.out.1) (HI.out.p.fr f9 HD.out.2.1) (HI.out.d.fr f9 HD.out.2.2.1)); clear O9 N9 k9 f9)
                    | (go_at_call 21; (with_reducible refine SM.out.mono ?_); rintro e w10 ⟨rfl, q10, rfl⟩))
                  exact ⟨⟨k + 1, by omega, by go_num, HI9.out.fr0 ⟨rfl, rfl, rfl, Nat.le_refl _, fun _ _ _ => rfl⟩⟩, by simp [intOf]; omega⟩
            | false =>
              rw [hu] at cu HST
              have HBP := Lib.hid (fun w (h : Kt V wA U' P' D' L' w) => kt_bypid_any (D' k) h)
              go_wp2_with fail
              go_region_held3 (fun w' => w'.cell? ⟨bu, k, none⟩ = some (.bool false)) (first | exact by assumption)
                (first | (go_at_call 23; (with_reducible refine (HST.out _ (HI.out.k.owned ((Fr.refl (fun _ => False) _).drew) (fun _ h => h.elim))).mono ?_); rintro e w6 ⟨rfl, k6, f6⟩; obtain ⟨_, u6, p6, d6⟩ := (HI.out.fr0 (Fr.refl _ _).drew).call k6 f6 HD.out.1 HD.out.2.1 HD.out.2.2.1; have c6 := u6.cell hk8n; rw [hu] at c6; have cd6 := d6.cell hk8n; have HI6 := Lib.hid (TbI.mk k6 u6 p6 d6); clear k6 f6 u6 p6 d6))
              go_wp2_with (go_at_call 17; (with_reducible refine (HBP.out _ HI6.out.k).mono ?_); rintro e w6 ⟨x6, b6, rfl, k6, f6⟩; obtain ⟨_, u6, p6, d6⟩ := HI6.out.call k6 f6 HD.out.1 HD.out.2.1 HD.out.2.2.1; have c6 := u6.cell hk8n; rw [hu] at c6; have cd6 := d6.cell hk8n; have HI6 := Lib.hid (TbI.mk k6 u6 p6 d6); clear k6 f6 u6 p6 d6)
              clear c6 cd6 cu HBP HST
              have HL6 := Lib.hid (show wA.heap.size ≤ w6.heap.size ∧ bu < w6.heap.size ∧ bp < w6.heap.size ∧ bd < w6.heap.size from ⟨HI6.out.k.facts.1.size, HI6.out.u.lt, HI6.out.p.lt, HI6.out.d.lt⟩)
              have HFT := Lib.hid (fun x hx => by have := HI6.out.k.facts.2.1 x (Vw.foot_has hx); have := HL6.out.1; omega : ∀ x, V.foot x → x < w6.heap.size)
              go_loopw [18, 138] (fun t18 t138 wr => ∃ (j : Nat) (acc : List Int), j ≤ 8 ∧ t138 = .int .i64 j ∧ acc.length ≤ j ∧ Own wr 3 1 acc.length t18 (ints acc) ∧ (∀ b, Of t18 b → w6.heap.size ≤ b) ∧ w6.heap.size ≤ wr.heap.size ∧ TbI V wA bu bp bd U' P' D' L' wr ∧ acc ++ kidsL U' P' k (8 - j) j = kidsL U' P' k 8 0) (fun _ t138 _ => (8 - intOf t138).toNat)
              case atStart => exact ⟨0, [], by omega, rfl, by simp, Own.nil _ _ _, fun b hb => by simp [Of, Value.ownBlock] at hb, Nat.le_refl _, HI6.out, rfl⟩
              case round =>
                obtain ⟨j, acc, hj, rfl, ha, hO, hN, hsz, hI, hE⟩ := hrel
                clear HI
                have HI := Lib.hid hI
                have HO := Lib.hid hO
                have HN := Lib.hid hN
                have HE := Lib.hid hE
                have HSZ := Lib.hid hsz
                clear hI hO hN hE hsz
                by_cases hj8 : j < 8
                · have hj8' : (j : Int) < 8 := by omega
                  have hj0 : (0 : Int) ≤ j := by omega
                  have cj := HI.out.u.cell hj8
                  have pj := HI.out.p.cell hj8
                  have hacc : acc.length ≤ 1000000000 := by omega
                  have HLS := Lib.hid (show kidsL U' P' k (8 - j) j = if U' j = true ∧ P' j = (k : Int) then (j : Int) :: kidsL U' P' k (8 - (j + 1)) (j + 1) else kidsL U' P' k (8 - (j + 1)) (j + 1) by rw [show 8 - j = (8 - (j + 1)) + 1 by omega]; rfl)
                  by_cases hy : U' j = true ∧ P' j = (k : Int)
                  · obtain ⟨hy1, hy2⟩ := hy
                    rw [hy1] at cj
                    rw [hy2] at pj
                    go_wp2_with (first | (at_builtin; refine wpList_append1 rfl _ _ 42 rfl 3 i0 (.int .i64 0) 8 Try.underlying42 hif hz0 hz1 hz2 rfl (by decide) _ _ (ints acc) rfl (.int .i64 j) 3 (HO.out.fr ((Fr.refl (fun _ => False) _).alloc _) (fun _ _ => id)) _ rfl rfl rfl hacc ?_; intro v' w' O2 F2 N2; have HO2 := Lib.hid O2; have HF2 := Lib.hid F2; have HN2 := Lib.hid N2; clear O2 F2 N2))
                    have e : ints acc ++ [.int .i64 (j : Int)] = ints (acc ++ [(j : Int)]) := by simp [ints]
                    have ho := HO2.out
                    rw [e] at ho
                    have hi1 := HI.out.fr0 ((Fr.refl (fun _ => False) _).alloc (.cells #[.int .i64 (j : Int)] 3))
                    have hl6 := HL6.out
                    have hi2 : TbI V wA bu bp bd U' P' D' L' w' := ⟨hi1.k.owned HF2.out (fun x hx => by have := HN.out x hx; omega), hi1.u.fr HF2.out (fun hx => by have := HN.out _ hx; omega), hi1.p.fr HF2.out (fun hx => by have := HN.out _ hx; omega), hi1.d.fr HF2.out (fun hx => by have := HN.out _ hx; omega)⟩
                    have hsz2 := HF2.out.size
                    have hsz1 := HSZ.out
                    refine ⟨⟨j + 1, acc ++ [(j : Int)], by omega, by go_num, by simp; omega, by simpa using ho, fun b hb => (HN2.out b hb).elim (HN.out b) (fun h => by omega), by simp at hsz2; omega, hi2, ?_⟩, by simp [intOf]; omega⟩
                    have he := HE.out
                    rw [HLS.out, if_pos ⟨hy1, hy2⟩] at he
                    rw [← he]; simp
                  · have hE2 := HE.out
                    rw [HLS.out, if_neg hy] at hE2
                    have HE2 := Lib.hid hE2
                    clear hE2
                    cases hu2 : U' j with
                    | false =>
                      rw [hu2] at cj
                      go_wp2_with fail
                      exact ⟨⟨j + 1, acc, by omega, by go_num, by omega, HO.out, HN.out, HSZ.out, HI.out, HE2.out⟩, by simp [intOf]; omega⟩
                    | true =>
                      rw [hu2] at cj
                      have hne : (P' j == (k : Int)) = false := beq_eq_false_iff_ne.2 (fun e => hy ⟨hu2, e⟩)
                      go_wp2_with fail
                      exact ⟨⟨j + 1, acc, by omega, by go_num, by omega, HO.out, HN.out, HSZ.out, HI.out, HE2.out⟩, by simp [intOf]; omega⟩
                · have hj8' : ¬ (j : Int) < 8 := by omega
                  obtain rfl : j = 8 := by omega
                  have he : kidsL U' P' k 8 0 = acc := by have h := HE.out; rw [show kidsL U' P' k (8 - 8) 8 = [] from rfl, List.append_nil] at h; exact h.symm
                  rw [he] at HKD
                  have hlen : acc.length ≤ 1000000 := by omega
                  go_wp2_with (first
                    | (go_at_call 16; (with_reducible refine (HKD.out _ HI.out.k).mono ?_); rintro e w9 ⟨v9, rfl, O9, N9, k9, f9⟩; have SM := Lib.hid (same_true v9 _ acc acc w9 O9.rd (HO.out.fr f9 (fun b hb hf => by have := HN.out b hb; have := HFT.out b hf; omega)).rd hlen rfl); have HI9 := Lib.hid (TbI.mk k9 (HI.out.u.fr f9 HD.out.1) (HI.out.p.fr f9 HD.out.2.1) (HI.out.d.fr f9 HD.out.2.2.1)); clear O9 N9 k9 f9)
                    | (go_at_call 21; (with_reducible refine SM.out.mono ?_); rintro e w10 ⟨rfl, q10, rfl⟩))
                  exact ⟨⟨k + 1, by omega, by go_num, HI9.out.fr0 ⟨rfl, rfl, rfl, Nat.le_refl _, fun _ _ _ => rfl⟩⟩, by simp [intOf]; omega⟩
          · have hk8' : ¬ (k : Int) < 8 := by omega
            go_wp2_with fail
            exact ⟨⟨i + 1, U', P', D', L', by omega, by go_num, rfl, rfl, by omega, HI.out⟩, by simp [intOf]; omega⟩
    · by_cases h1 : (i : Int) < len
      have h2 : ¬ (i : Int) < 40 := by omega
      rotate_left 1
      all_goals (
        clear hr
        go_wp2_with (go_at_call 5; refine (procRuns_any _).mono ?_; rintro e w9 ⟨rfl, f9⟩; have HF9 := Lib.hid f9; clear f9)
        go_ret
        exact ⟨rfl, (HF.out.step HI.out.k.facts.1 (fun k hk hf => by have := HV.out k (Vw.foot_has hf); omega)).trans HF9.out⟩)
theorem procTable_walk (a : Option Addr) (len cap : Nat) (V : Nat → Nat → Value) (w : World) (hS : IsSl [.int .i64, .int .i64, .int .i64, .int .i64] w a len cap V) : Calls Try.prog 7 #[.slice a len cap] w fun e w' => e = .returned (.bool true) ∧ Below w.heap.size w w' := by
  obtain ⟨F, hF⟩ := Asks4.of hS
  exact (procTable_any a len cap F w hF).mono fun _ _ ⟨h, f⟩ => ⟨h, f.below⟩
end Go.Proofs.Ytmgijchcfjmphaa
