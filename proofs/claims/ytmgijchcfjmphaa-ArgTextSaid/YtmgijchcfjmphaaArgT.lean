import Derived.Test.YtmgijchcfjmphaaArgA
import Derived.Test.YtmgijchcfjmphaaStrs
import Derived.Test.YtmgijchcfjmphaaWithin
import Derived.Deep.Cut
namespace Go.Proofs.Ytmgijchcfjmphaa
open Go.RowKit

theorem memSt_one {s : ByteArray} (h : s.size ≤ 200) : ((memSt 1 s).get (memK 1)).s = s := by
  have hp : place (memK 1) = some ((place (memK 1)).getD 0) := by decide +kernel
  unfold St.get memSt St.of putAt
  rw [hp]
  have hp' : place (12, 1) = some ((place (memK 1)).getD 0) := hp
  rw [hp']
  simp only [Option.getD_none, upd_self, Val.ofS_s]
  rw [Nat.min_eq_left h]
  exact ByteArray.extract_zero_size
/-- the text that the law makes of the first i parts -/
def pre (P : Nat → ByteArray) : Nat → ByteArray
  | 0 => ⟨#[]⟩
  | i + 1 => (pre P i ++ txt i (min (P i).size 9)) ++ ⟨#[0]⟩
theorem pre_size (P : Nat → ByteArray) : ∀ i, (pre P i).size ≤ 10 * i
  | 0 => Nat.le_refl _
  | i + 1 => by
    have h := pre_size P i
    have h1 : (⟨#[0]⟩ : ByteArray).size = 1 := rfl
    simp only [pre, ByteArray.size_append, txt_size, h1]
    omega
theorem nought_at (s : ByteArray) (a n : Nat) (h : a + n < s.size) (hz : s[a + n] = 0) (hall : ∀ j, j < n → (h : a + j < s.size) → s[a + j] ≠ 0) : nought s a = n := by
  have hd : ∀ j, a + j < s.size → (s.extract a s.size).data.toList[j]? = s.data.toList[a + j]? := fun j hj => by
    rw [Lib.extract_data, List.getElem?_take, if_pos (by omega), List.getElem?_drop]
  have h0 : (s.extract a s.size).data.toList[n]? = some 0 := by rw [hd n h, Lib.data_getElem? s _ h, hz]
  unfold nought
  rcases nought_of s a with hn | ⟨o, hn, ho⟩
  · exact absurd h0 (Lib.indexByte_none hn n)
  · unfold nought at hn
    obtain ⟨h1, h2⟩ := Lib.indexByte_some hn
    rw [hn]
    rcases Nat.lt_trichotomy o n with hlt | rfl | hgt
    · rw [hd o (by omega), Lib.data_getElem? s _ (by omega)] at h1
      exact absurd (Option.some.inj h1) (hall o hlt _)
    · rfl
    · exact absurd h0 (h2 n hgt)
theorem nought_none (s : ByteArray) (a : Nat) (hall : ∀ j, (h : a + j < s.size) → s[a + j] ≠ 0) : nought s a < 0 := by
  rcases nought_of s a with hn | ⟨o, hn, ho⟩
  · omega
  · exfalso
    unfold nought at hn
    obtain ⟨h1, _⟩ := Lib.indexByte_some hn
    rw [Lib.extract_data, List.getElem?_take, if_pos (by omega), List.getElem?_drop, Lib.data_getElem? s _ ho] at h1
    exact hall o ho (Option.some.inj h1)
theorem argText_neg (σ : St) (p a m : Int) (h : a < 0) : argText σ p a m = ((⟨#[]⟩, false), σ.got (memK p)) := by unfold argText; rw [if_pos (.inl h)]
theorem argText_no {S : ByteArray} {a0 : Nat} {m : Int} (h : S.size ≤ 200) (hn : nought S a0 < 0 ∨ m < nought S a0) : argText (memSt 1 S) 1 a0 m = ((⟨#[]⟩, false), (memSt 1 S).got (memK 1)) := by
  unfold argText
  rw [memSt_one h, Int.toNat_natCast, if_pos (.inr (.inr hn))]
theorem argText_yes {S : ByteArray} {a0 n : Nat} {m : Int} (h : S.size ≤ 200) (hn : nought S a0 = n) (hs : a0 < S.size) (hm : (n : Int) ≤ m) : argText (memSt 1 S) 1 a0 m = ((S.extract a0 (a0 + n), true), (memSt 1 S).got (memK 1)) := by
  unfold argText
  rw [memSt_one h, Int.toNat_natCast, hn, if_neg (by omega)]
  rw [show ((a0 : Int) + n).toNat = a0 + n by omega]
theorem two_foot {w : World} {t : Nat} {V : Vw} {σ : St} (h : TwoB w t V σ) : ¬ V.foot t := by
  obtain ⟨a, b, c, hB⟩ := h.c
  obtain ⟨lr, lw, hv⟩ := h.vs
  rintro (e | e)
  · exact hv.mr.ne hB e.symm
  · exact hv.mw.ne hB e.symm
set_option maxRecDepth 100000 in
set_option maxHeartbeats 1000000 in
theorem argText_any (a : Option Addr) (len cap : Nat) (P : Nat → ByteArray) (x y : Int) (w : World) (hS : Strs w a len P) (hx : In64 x) (hy : In64 y) : Calls Try.prog 4 #[.slice a len cap, .int .i64 x, .int .i64 y] w fun e w' => e = .returned (.bool true) ∧ Fr (fun _ => False) w w' := by
  have HS := Lib.hid hS
  clear hS
  go_enter Try.func4, Try.ntmps4
  go_wp2_with fail
  go_loopw [7, 8] (fun t7 t8 wr => ∃ i : Nat, i ≤ min len 5 ∧ t8 = .int .i64 i ∧ t7 = .string (pre P i) ∧ Fr (fun _ => False) w wr) (fun _ t8 _ => (5 - intOf t8).toNat)
  case atStart => exact ⟨0, by omega, rfl, rfl, Fr.refl _ _⟩
  case round =>
    obtain ⟨i, hi, rfl, rfl, hF⟩ := hrel
    have HF := Lib.hid hF
    clear hF
    have hsz := pre_size P i
    by_cases hlt : i < min len 5
    · have h1 : (i : Int) < len := by omega
      have h2 : (i : Int) < 5 := by omega
      obtain ⟨b, off, rfl, hb, hc⟩ : ∃ b off, a = some ⟨b, off, none⟩ ∧ b < w.heap.size ∧ ∀ i, i < len → w.cell? ⟨b, off + i, none⟩ = some (.string (P i)) ∧ (P i).size ≤ maxLen := by
        rcases HS.out with h | h
        · omega
        · exact h
      obtain ⟨hcell, hmax⟩ := hc i (by omega)
      have hcell' := (World.cell?_of_block (HF.out.block b hb id)).trans hcell
      clear hcell hc
      have hmax' : ((P i).size : Int) ≤ 9223372036854775807 := by unfold maxLen at hmax; omega
      have HP := Lib.hid (show pre P (i + 1) = (pre P i ++ txt i (min (P i).size 9)) ++ ⟨#[0]⟩ from rfl)
      obtain ⟨m, hm⟩ : ∃ m, m = min (P i).size 9 := ⟨_, rfl⟩
      rw [← hm] at HP
      have hmx : max (min ((P i).size : Int) 9) 0 = (m : Int) := by omega
      have hm9 : m ≤ 9 := by omega
      have HK := Lib.hid (fun w => keep_text i m (by omega) (by omega) w)
      clear hm
      have hts := txt_size i m
      go_wp2_with fail
      go_region_with (go_at_call 12; (with_reducible refine (HK.out _).mono ?_); rintro e w4 ⟨rfl, f4⟩; have HF4 := Lib.hid f4; clear f4)
      all_goals (
        go_wp2_with fail
        exact ⟨⟨i + 1, by omega, by go_num, by rw [HP.out], HF.out.trans ((Fr.refl _ _).drew.trans HF4.out)⟩, by simp [intOf]; omega⟩)
    · have hi5 : i ≤ 5 := by omega
      obtain ⟨S, hS⟩ : ∃ S, S = pre P i ++ ⟨#[120, 121, 122]⟩ := ⟨_, rfl⟩
      have hzS : S.size = (pre P i).size + 3 := by rw [hS, ByteArray.size_append]; rfl
      have hz1 : (S.size : Int) ≤ 53 := by omega
      have hz2 : S.size ≤ 53 := by omega
      have hz3 : (3 : Int) ≤ S.size := by omega
      have HSS := Lib.hid hS
      clear hS
      have HM := Lib.hid (fun w => law_memory 1 S (by omega) w)
      by_cases h1 : (i : Int) < len
      have h2 : ¬ (i : Int) < 5 := by omega
      rotate_left 1
      all_goals (
        clear hlt hi
        go_upto_region 7 with fail
        rw [← HSS.out]
        clear hzS hsz
        go_wp2_with fail
        refine (HM.out _).mono ?_
        rintro e w1 ⟨t, V, rfl, tb, f1, hv⟩
        obtain ⟨q0, q1, q2, hB⟩ := tb.c
        have c1 : w1.cell? ⟨t, 1, none⟩ = some V.p := hB.cell 1
        have HK := Lib.hid tb.vs.keeps
        have HBT := Lib.hid hB
        have HFT := Lib.hid (two_foot tb)
        have HF1 := Lib.hid (HF.out.trans f1)
        have HV := Lib.hid (fun k hk => Nat.le_trans HF.out.size (hv k hk))
        clear tb f1 hv hB
        obtain ⟨aa, haa⟩ : ∃ n, n = wth x 0 S.size := ⟨_, rfl⟩
        have hwa := fun w => within_any x 0 S.size w hx (by omega) (by omega) (by omega)
        have hba := wth_bd (n := x) (lo := 0) (hi := S.size) (by omega)
        rw [← haa] at hwa hba
        obtain ⟨mm, hmm⟩ : ∃ n, n = wth y 0 12 := ⟨_, rfl⟩
        have hwm := fun w => within_any y 0 12 w hy (by omega) (by omega) (by omega)
        have hbm := wth_bd (n := y) (lo := 0) (hi := 12) (by omega)
        rw [← hmm] at hwm hbm
        obtain ⟨a0, rfl⟩ : ∃ n : Nat, aa = n := ⟨aa.toNat, by omega⟩
        clear haa hmm
        have HWA := Lib.hid hwa
        have HWM := Lib.hid hwm
        clear hwa hwm
        go_wp2_with (first | (go_at_call 13; (with_reducible refine (HWA.out _).mono ?_); rintro e w' ⟨rfl, rfl⟩) | (go_at_call 13; (with_reducible refine (HWM.out _).mono ?_); rintro e w' ⟨rfl, rfl⟩))
        have HT2 : Hid (∀ w, Keeps V w1 ((memSt 1 S).got (memK 1)) [] w → Calls Try.prog 10 #[V.p, .int .i64 1, .int .i64 (-1 - mm), .int .i64 9] w (Ret V w1 [] w (.tuple #[.string ⟨#[]⟩, .bool false]) (((memSt 1 S).got (memK 1)).got (memK 1)))) := fun w h => by
          have k := arg_text 1 (-1 - mm) 9 h
          rw [argText_neg _ _ _ _ (by omega)] at k
          exact k
        go_loop [12] (fun t12 => ∃ n : Nat, a0 + n ≤ S.size ∧ t12 = .int .i64 n ∧ ∀ j, j < n → (h : a0 + j < S.size) → S[a0 + j] ≠ 0) (fun t12 => (S.size - intOf t12).toNat)
        case atStart => exact ⟨0, by omega, rfl, fun j hj => by omega⟩
        case round =>
          obtain ⟨n, hn, rfl, hz⟩ := hrel
          have HZ := Lib.hid hz
          clear hz
          have hn1 : (a0 : Int) + n ≤ S.size := by omega
          have hn0 : (0 : Int) ≤ a0 + n := by omega
          have hn2 : (a0 : Int) ≤ a0 + n := by omega
          by_cases hnl : a0 + n < S.size
          · have hnl' : (a0 : Int) + n < S.size := by omega
            by_cases hb : S[a0 + n] = 0
            · have hb1 : (((S[a0 + n]).toNat : Int) != 0) = false := by rw [hb]; rfl
              have hno := nought_at S a0 n hnl hb HZ.out
              have HB := Lib.hid hb
              clear hb
              by_cases hnm : (n : Int) ≤ mm
              · have HT1 : Hid (∀ w, Keeps V w1 (memSt 1 S) [] w → Calls Try.prog 10 #[V.p, .int .i64 1, .int .i64 a0, .int .i64 mm] w (Ret V w1 [] w (.tuple #[.string (S.extract a0 (a0 + n)), .bool true]) ((memSt 1 S).got (memK 1)))) := fun w h => by
                  have k := arg_text 1 a0 mm h
                  rw [argText_yes (by omega) hno (by omega) hnm] at k
                  exact k
                have HNO := Lib.hid hno
                clear hno
                go_wp2_with (first | (go_at_call 10; (with_reducible refine (HT1.out _ HK.out).mono ?_); rintro e w1 ⟨rfl, k1⟩; clear HK; have HK := Lib.hid k1.k; have F1 := Lib.hid k1.f; obtain ⟨s0, own⟩ := k1.facts; simp only [go_sem] at own; clear k1; have c1' := (HBT.out.fr F1.out HFT.out).cell 1) | (go_at_call 10; (with_reducible refine (HT2.out _ HK.out).mono ?_); rintro e w1 ⟨rfl, k1⟩; clear HK; have HK := Lib.hid k1.k; have F1 := Lib.hid k1.f; obtain ⟨s0, own⟩ := k1.facts; simp only [go_sem] at own; clear k1) | (go_at_call 3; refine (argRuns_any _).mono ?_; rintro e w9 ⟨rfl, f9⟩; have HF9 := Lib.hid f9; clear f9))
                go_ret
                exact ⟨rfl, (HF1.out.step HK.out.fr (fun k hk hf => by have := HV.out k (Vw.foot_has hf); omega)).trans HF9.out⟩
              · have HT1 : Hid (∀ w, Keeps V w1 (memSt 1 S) [] w → Calls Try.prog 10 #[V.p, .int .i64 1, .int .i64 a0, .int .i64 mm] w (Ret V w1 [] w (.tuple #[.string ⟨#[]⟩, .bool false]) ((memSt 1 S).got (memK 1)))) := fun w h => by
                  have k := arg_text 1 a0 mm h
                  rw [argText_no (by omega) (.inr (by rw [hno]; omega))] at k
                  exact k
                have hnm2 : decide ((n : Int) ≤ mm) = false := decide_eq_false hnm
                have HNO := Lib.hid hno
                clear hno
                go_wp2_with (first | (go_at_call 10; (with_reducible refine (HT1.out _ HK.out).mono ?_); rintro e w1 ⟨rfl, k1⟩; clear HK; have HK := Lib.hid k1.k; have F1 := Lib.hid k1.f; obtain ⟨s0, own⟩ := k1.facts; simp only [go_sem] at own; clear k1; have c1' := (HBT.out.fr F1.out HFT.out).cell 1) | (go_at_call 10; (with_reducible refine (HT2.out _ HK.out).mono ?_); rintro e w1 ⟨rfl, k1⟩; clear HK; have HK := Lib.hid k1.k; have F1 := Lib.hid k1.f; obtain ⟨s0, own⟩ := k1.facts; simp only [go_sem] at own; clear k1) | (go_at_call 3; refine (argRuns_any _).mono ?_; rintro e w9 ⟨rfl, f9⟩; have HF9 := Lib.hid f9; clear f9))
                go_ret
                exact ⟨rfl, (HF1.out.step HK.out.fr (fun k hk hf => by have := HV.out k (Vw.foot_has hf); omega)).trans HF9.out⟩
            · have hb1 : (((S[a0 + n]).toNat : Int) != 0) = true := by
                rw [bne_iff_ne]
                intro h
                exact hb (UInt8.toNat_inj.1 (by simpa using h))
              have HB := Lib.hid hb
              clear hb
              go_wp2_with fail
              refine ⟨⟨n + 1, by omega, by go_num, fun j hj h => ?_⟩, by simp [intOf]; omega⟩
              by_cases hjn : j = n
              · subst hjn; exact HB.out
              · exact HZ.out j (by omega) h
          · have hnl' : ¬ (a0 : Int) + n < S.size := by omega
            have HT1 : Hid (∀ w, Keeps V w1 (memSt 1 S) [] w → Calls Try.prog 10 #[V.p, .int .i64 1, .int .i64 a0, .int .i64 mm] w (Ret V w1 [] w (.tuple #[.string ⟨#[]⟩, .bool false]) ((memSt 1 S).got (memK 1)))) := fun w h => by
              have k := arg_text 1 a0 mm h
              rw [argText_no (by omega) (.inl (nought_none S a0 (fun j h => HZ.out j (by omega) h)))] at k
              exact k
            go_wp2_with (first | (go_at_call 10; (with_reducible refine (HT1.out _ HK.out).mono ?_); rintro e w1 ⟨rfl, k1⟩; clear HK; have HK := Lib.hid k1.k; have F1 := Lib.hid k1.f; obtain ⟨s0, own⟩ := k1.facts; simp only [go_sem] at own; clear k1; have c1' := (HBT.out.fr F1.out HFT.out).cell 1) | (go_at_call 10; (with_reducible refine (HT2.out _ HK.out).mono ?_); rintro e w1 ⟨rfl, k1⟩; clear HK; have HK := Lib.hid k1.k; have F1 := Lib.hid k1.f; obtain ⟨s0, own⟩ := k1.facts; simp only [go_sem] at own; clear k1) | (go_at_call 3; refine (argRuns_any _).mono ?_; rintro e w9 ⟨rfl, f9⟩; have HF9 := Lib.hid f9; clear f9))
            go_ret
            exact ⟨rfl, (HF1.out.step HK.out.fr (fun k hk hf => by have := HV.out k (Vw.foot_has hf); omega)).trans HF9.out⟩)
theorem argText_walk (a : Option Addr) (len cap : Nat) (V : Nat → Nat → Value) (x y : Int) (w : World) (hS : IsSl [.str] w a len cap V) (hx : (Lit.int .i64 x).wf = true) (hy : (Lit.int .i64 y).wf = true) : Calls Try.prog 4 #[.slice a len cap, .int .i64 x, .int .i64 y] w fun e w' => e = .returned (.bool true) ∧ Below w.heap.size w w' := by
  obtain ⟨P, hP⟩ := Strs.of hS
  exact (argText_any a len cap P x y w hP (wf_i64 hx) (wf_i64 hy)).mono fun _ _ ⟨h, f⟩ => ⟨h, f.below⟩
end Go.Proofs.Ytmgijchcfjmphaa
