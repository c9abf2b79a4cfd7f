import Derived.Test.YtmgijchcfjmphaaFdA
import Derived.Test.YtmgijchcfjmphaaAsk4
import Derived.Test.YtmgijchcfjmphaaWithin
import Derived.Deep.QuietTactic
import Derived.BigQuiet
namespace Go.Proofs.Ytmgijchcfjmphaa
open Go.RowKit

theorem fds2 : Fds pr2 (fun _ _ => 0) := fds0
attribute [local irreducible] bare pr1 pr2
def OwnA (w : World) (b : Nat) (own : Nat → Nat → Int) : Prop := Blk w b ((Array.range 12).map (fun j => .int .i64 (own (j / 6) (j % 6)))) 49
theorem OwnA.cell {w : World} {b : Nat} {own : Nat → Nat → Int} (h : OwnA w b own) (q k : Nat) (hq : q < 2) (hk : k < 6) : w.cell? ⟨b, q * 6 + k, none⟩ = some (.int .i64 (own q k)) := by
  unfold OwnA at h
  rw [h.cell]
  simp [show q * 6 + k < 12 by omega, show (q * 6 + k) / 6 = q by omega, show (q * 6 + k) % 6 = k by omega]
theorem OwnA.set {w : World} {b : Nat} {own : Nat → Nat → Int} (h : OwnA w b own) (q k : Nat) (hq : q < 2) (hk : k < 6) (x : Int) : OwnA (w.setCell ⟨b, q * 6 + k, none⟩ (.int .i64 x)) b (own1 own q k x) := by
  unfold OwnA at h ⊢
  have g := Blk.set h (q * 6 + k) (.int .i64 x)
  rw [show ((Array.range 12).map (fun j => Value.int .i64 (own (j / 6) (j % 6)))).setIfInBounds (q * 6 + k) (.int .i64 x) = (Array.range 12).map (fun j => Value.int .i64 (own1 own q k x (j / 6) (j % 6))) from ?_] at g
  · exact g
  · apply Array.ext_getElem?
    intro i
    rw [Array.getElem?_setIfInBounds]
    simp only [Array.size_map, Array.size_range, Array.getElem?_map, own1]
    by_cases hi : i < 12
    · rw [show (Array.range 12)[i]? = some i by simp [hi]]
      simp only [Option.map_some]
      by_cases e : q * 6 + k = i
      · subst e
        rw [if_pos rfl, if_pos hi, if_pos (by omega)]
      · rw [if_neg e, if_neg (by omega)]
    · rw [show (Array.range 12)[i]? = none by simp; omega]
      rw [if_neg (by omega)]
      rfl
theorem own0 (w : World) : OwnA (w.alloc (.cells #[.int .i64 0, .int .i64 0, .int .i64 0, .int .i64 0, .int .i64 0, .int .i64 0, .int .i64 0, .int .i64 0, .int .i64 0, .int .i64 0, .int .i64 0, .int .i64 0] 49)) w.heap.size (fun _ _ => 0) := by
  unfold OwnA
  rw [show ((Array.range 12).map (fun j => Value.int .i64 ((fun _ _ => 0 : Nat → Nat → Int) (j / 6) (j % 6)))) = #[.int .i64 0, .int .i64 0, .int .i64 0, .int .i64 0, .int .i64 0, .int .i64 0, .int .i64 0, .int .i64 0, .int .i64 0, .int .i64 0, .int .i64 0, .int .i64 0] by kernel_rfl]
  exact Blk.new w _ _
theorem Kp.facts {V : Vw} {w0 w : World} {own : Nat → Nat → Int} {O : List Own1} (h : Kp V w0 own O w) : Fr V.foot w0 w ∧ (∀ k, V.has k → k < w0.heap.size) ∧ ∀ q k, q < 2 → k < 6 → 0 ≤ own q k ∧ own q k ≤ 12 := by
  obtain ⟨σ, hF, hK⟩ := h
  exact ⟨hK.fr, hK.lt, fun q k hq hk => (hF.fd q k hq hk).2⟩
theorem Kp.setOwn {V : Vw} {w0 w : World} {own : Nat → Nat → Int} (h : Kp V w0 own [] w) {a : Addr} (hb : w0.heap.size ≤ a.block) (v : Value) : Kp V w0 own [] (w.setCell a v) := by
  obtain ⟨σ, hF, hK⟩ := h
  exact ⟨σ, hF, hK.setOwn hb v⟩
theorem Kp.drew {V : Vw} {w0 w : World} {own : Nat → Nat → Int} (h : Kp V w0 own [] w) : Kp V w0 own [] w.drew := by
  obtain ⟨σ, hF, hK⟩ := h
  exact ⟨σ, hF, hK.drew⟩
theorem Kp.drewN {V : Vw} {w0 w : World} {own : Nat → Nat → Int} (h : Kp V w0 own [] w) (n : Nat) : Kp V w0 own [] (w.drewN n) := by
  obtain ⟨σ, hF, hK⟩ := h
  exact ⟨σ, hF, hK.drewN n⟩
theorem OwnA.fr {S : Nat → Prop} {w w' : World} {b : Nat} {own : Nat → Nat → Int} (h : OwnA w b own) (f : Fr S w w') (hs : ¬ S b) : OwnA w' b own := Blk.fr h f hs
set_option maxRecDepth 100000 in
set_option maxHeartbeats 1000000 in
theorem procFds_any (a : Option Addr) (len cap : Nat) (F : Nat → Nat → Int) (w : World) (hS : Asks4 w a len F) : Calls Try.prog 6 #[.slice a len cap] w fun e w' => e = .returned (.bool true) ∧ Fr (fun _ => False) w w' := by
  have HS := Lib.hid hS
  clear hS
  go_enter Try.func6, Try.ntmps6
  go_wp2_with fail
  refine (keep_new0 _).mono ?_
  rintro e wA ⟨t, V, rfl, tb, f1, hv⟩
  obtain ⟨q0, q1, q2, hB⟩ := tb.c
  have c1 : wA.cell? ⟨t, 1, none⟩ = some V.p := hB.cell 1
  have HK : Hid (Keeps V wA bare [] wA) := by rw [bare_eq]; exact tb.vs.keeps
  have HF := Lib.hid f1
  have HV := Lib.hid hv
  clear tb f1 hv hB
  go_wp2_with (first | (go_at_call 15; (with_reducible refine (pc1 HK.out).mono ?_); rintro e w1 ⟨rfl, k1⟩; clear HK; have HK := Lib.hid k1.k; have F1 := Lib.hid k1.f; obtain ⟨s0, own⟩ := k1.facts; simp only [go_sem] at own; clear k1) | (go_at_call 15; (with_reducible refine (pc2 HK.out).mono ?_); rintro e w1 ⟨rfl, k1⟩; clear HK; have HK := Lib.hid k1.k; have F1 := Lib.hid k1.f; obtain ⟨s0, own⟩ := k1.facts; simp only [go_sem] at own; clear k1))
  have HFT := Lib.hid (fun k hk => by have := HK.out.lt k (Vw.foot_has hk); exact this : ∀ k, V.foot k → k < wA.heap.size)
  have hsz := HK.out.size
  have HI : Hid (Kp V wA (fun _ _ => 0) [] _) := ⟨pr2, fds2, HK.out.alloc (.cells #[.int .i64 0, .int .i64 0, .int .i64 0, .int .i64 0, .int .i64 0, .int .i64 0, .int .i64 0, .int .i64 0, .int .i64 0, .int .i64 0, .int .i64 0, .int .i64 0] 49)⟩
  have HA := Lib.hid (own0 w1)
  have HBL := Lib.hid hsz
  clear hsz HK
  go_loopw [8] (fun t8 wr => ∃ (i : Nat) (own : Nat → Nat → Int), i ≤ len ∧ t8 = .int .i64 i ∧ Kp V wA own [] wr ∧ OwnA wr w1.heap.size own) (fun t8 _ => (len - intOf t8).toNat)
  case atStart => exact ⟨0, _, by omega, rfl, HI.out, HA.out⟩
  case round =>
    obtain ⟨i, own, hi, rfl, hI, hA⟩ := hrel
    have HI := Lib.hid hI
    have HA := Lib.hid hA
    clear hI hA
    by_cases hr : i < len ∧ i < 40
    · obtain ⟨hr1, hr2⟩ := hr
      have hr1' : (i : Int) < len := by omega
      have hr2' : (i : Int) < 40 := by omega
      have HD := Lib.hid (fun hf => by have := HFT.out w1.heap.size hf; have := HBL.out; omega : ¬ V.foot w1.heap.size)
      rcases HS.out.fr (HF.out.step HI.out.facts.1 (fun k hk hf => by have := HV.out k (Vw.foot_has hf); omega)) (fun _ _ => id) with h | ⟨bb, off, rfl, hbw, hcl⟩
      · omega
      obtain ⟨⟨k0, hb0⟩, ⟨k1, hb1⟩, ⟨k2, hb2⟩, ⟨k3, hb3⟩⟩ := hcl i hr1
      obtain ⟨p, hp⟩ : ∃ p, p = wth (F i 1) 0 1 := ⟨_, rfl⟩
      obtain ⟨d, hd⟩ : ∃ p, p = wth (F i 2) 0 5 := ⟨_, rfl⟩
      obtain ⟨f, hf⟩ : ∃ p, p = wth (F i 3) 0 12 := ⟨_, rfl⟩
      have HW1 := Lib.hid (fun w => (within_any (F i 1) 0 1 w hb1 (by omega) (by omega) (by omega)).mono (fun _ w' k => (⟨k.1, k.2.symm⟩ : _ = _ ∧ w' = w)))
      have HW2 := Lib.hid (fun w => (within_any (F i 2) 0 5 w hb2 (by omega) (by omega) (by omega)).mono (fun _ w' k => (⟨k.1, k.2.symm⟩ : _ = _ ∧ w' = w)))
      have HW3 := Lib.hid (fun w => within_any (F i 3) 0 12 w hb3 (by omega) (by omega) (by omega))
      have b1 := wth_bd (n := F i 1) (lo := 0) (hi := 1) (by omega)
      have b2 := wth_bd (n := F i 2) (lo := 0) (hi := 5) (by omega)
      have b3 := wth_bd (n := F i 3) (lo := 0) (hi := 12) (by omega)
      rw [← hp] at HW1 b1
      rw [← hd] at HW2 b2
      rw [← hf] at HW3 b3
      obtain ⟨p, rfl⟩ : ∃ n : Nat, p = n := ⟨p.toNat, by omega⟩
      obtain ⟨d, rfl⟩ : ∃ n : Nat, d = n := ⟨d.toNat, by omega⟩
      clear hp hd hf hcl hb0 hb1 hb2 hb3 hi hr1 hr2 k0
      go_wp2_with fail
      go_quiet (first | (go_at_call 13; with_reducible refine Calls.quiet_of_same (HW1.out _)) | (go_at_call 13; with_reducible refine Calls.quiet_of_same (HW2.out _)))
      have HK := Lib.hid (HI.out.drewN nq)
      have HA2 := Lib.hid (HA.out.fr (⟨rfl, rfl, rfl, Nat.le_refl _, fun _ _ _ => rfl⟩ : Fr (fun _ => False) wr (wr.drewN nq)) id)
      have k3' : (wr.drewN nq).cell? ⟨bb, off + i * 4 + 3, none⟩ = _ := k3
      clear HI HA k1 k2 k3
      have HA := HA2
      clear HA2
      obtain ⟨own2, ho2⟩ : ∃ o, o = own1 own p d f := ⟨_, rfl⟩
      have HS1 : Hid (∀ w, Kp V wA own [] w → Calls Try.prog 18 #[V.p, .int .i64 p, .int .i64 d, .int .i64 (f - 1)] w (RetP V wA own2 [] w (.bool true))) := fun w h => by
        have k := kp_set p d (f - 1) (by omega) (by omega) (by omega) h
        rw [show f - 1 + 1 = f by omega, ← ho2] at k
        exact k
      have HS2 : Hid (∀ w, Kp V wA own2 [] w → Calls Try.prog 18 #[V.p, .int .i64 p, .int .i64 d, .int .i64 12] w (RetP V wA own2 [] w (.bool false))) := fun w h => kp_set_no p d 12 (by omega) (by omega) h
      have HS3 : Hid (∀ w, Kp V wA own2 [] w → Calls Try.prog 18 #[V.p, .int .i64 p, .int .i64 (6 + d), .int .i64 (f - 1)] w (RetP V wA own2 [] w (.bool false))) := fun w h => kp_set_no p (6 + d) (f - 1) (by omega) (by omega) h
      have HS4 : Hid (∀ w, Kp V wA own2 [] w → Calls Try.prog 18 #[V.p, .int .i64 2, .int .i64 d, .int .i64 (f - 1)] w (RetP V wA own2 [] w (.bool false))) := fun w h => kp_set_two d (f - 1) h
      have HO2 := Lib.hid ho2
      have HPD := Lib.hid (show p < 2 ∧ d < 6 by omega)
      clear ho2
      generalize wr.drewN nq = wq at *
      go_wp2_with (first | (go_at_call 13; (with_reducible refine (HW3.out _).mono ?_); rintro e w' ⟨rfl, rfl⟩) | (go_at_call 18; (with_reducible refine (HS1.out _ HK.out).mono ?_); rintro e w6 ⟨rfl, k6, f6, z6, _⟩; have HA9 := HA.out.fr f6 HD.out; clear HA HK; have HA := Lib.hid HA9; have HK := Lib.hid k6; have fz := Blk.frozen HA9 (p * 6 + d); have lz := Blk.lt HA9; have cz := OwnA.cell HA9 p d HPD.out.1 HPD.out.2; clear k6 f6 HA9) | (go_at_call 18; (with_reducible refine (HS2.out _ HK.out).mono ?_); rintro e w6 ⟨rfl, k6, f6, z6, _⟩; have HA9 := HA.out.fr f6 HD.out; clear HA HK; have HA := Lib.hid HA9; have HK := Lib.hid k6; have fz := Blk.frozen HA9 (p * 6 + d); have lz := Blk.lt HA9; have cz := OwnA.cell HA9 p d HPD.out.1 HPD.out.2; clear k6 f6 HA9) | (go_at_call 18; (with_reducible refine (HS3.out _ HK.out).mono ?_); rintro e w6 ⟨rfl, k6, f6, z6, _⟩; have HA9 := HA.out.fr f6 HD.out; clear HA HK; have HA := Lib.hid HA9; have HK := Lib.hid k6; have fz := Blk.frozen HA9 (p * 6 + d); have lz := Blk.lt HA9; have cz := OwnA.cell HA9 p d HPD.out.1 HPD.out.2; clear k6 f6 HA9) | (go_at_call 18; (with_reducible refine (HS4.out _ HK.out).mono ?_); rintro e w6 ⟨rfl, k6, f6, z6, _⟩; have HA9 := HA.out.fr f6 HD.out; clear HA HK; have HA := Lib.hid HA9; have HK := Lib.hid k6; have fz := Blk.frozen HA9 (p * 6 + d); have lz := Blk.lt HA9; have cz := OwnA.cell HA9 p d HPD.out.1 HPD.out.2; clear k6 f6 HA9))
      have HA9 : OwnA (w6.setCell ⟨w1.heap.size, p * 6 + d, none⟩ (.int .i64 f)) w1.heap.size own2 := by rw [HO2.out]; exact HA.out.set p d HPD.out.1 HPD.out.2 f
      have HK9 : Kp V wA own2 [] (w6.setCell ⟨w1.heap.size, p * 6 + d, none⟩ (.int .i64 f)) := HK.out.setOwn HBL.out _
      clear HA HK HS1 HS2 HS3 HS4 HO2
      have HA := Lib.hid HA9
      have HK := Lib.hid HK9
      clear HA9 HK9 cz fz lz
      go_loopw [96] (fun t96 wr => ∃ q : Nat, q ≤ 2 ∧ t96 = .int .i64 q ∧ Kp V wA own2 [] wr ∧ OwnA wr w1.heap.size own2) (fun t96 _ => (2 - intOf t96).toNat)
      case atStart => exact ⟨0, by omega, rfl, HK.out, HA.out⟩
      case round =>
        obtain ⟨q, hq, rfl, hK, hA⟩ := hrel
        clear HA HK
        have HA := Lib.hid hA
        have HK := Lib.hid hK
        clear hA hK
        by_cases hq2 : q < 2
        · have hq2' : (q : Int) < 2 := by omega
          go_wp2_with fail
          go_loopw [13, 14] (fun t13 t14 wr => ∃ k : Nat, k ≤ 6 ∧ t14 = .int .i64 ((k : Int) - 1) ∧ t13 = .int .i64 (lfree (own2 q) (6 - k) k) ∧ Kp V wA own2 [] wr ∧ OwnA wr w1.heap.size own2) (fun _ t14 _ => (intOf t14 + 1).toNat)
          case atStart => exact ⟨6, by omega, rfl, rfl, HK.out, HA.out⟩
          case round =>
            obtain ⟨k, hk, rfl, rfl, hK, hA⟩ := hrel
            clear HA HK
            have HA := Lib.hid hA
            have HK := Lib.hid hK
            clear hA hK
            match k, hk with
            | 0, _ =>
              rw [show ((0 : Nat) : Int) - 1 = -1 from rfl]
              obtain ⟨L, hL⟩ : ∃ L, L = lfree (own2 q) 6 0 := ⟨_, rfl⟩
              rw [show lfree (own2 q) (6 - 0) 0 = L from hL.symm]
              by_cases hL0 : 0 ≤ L
              · have HFR : Hid (∀ w, Kp V wA own2 [] w → Calls Try.prog 19 #[V.p, .int .i64 q] w (RetP V wA own2 [] w (.tuple #[.int .i64 L, .bool true]))) := fun w h => by
                  have k := kp_free q hq2 h
                  rw [← hL, if_pos hL0, decide_eq_true hL0] at k
                  exact k
                clear hL
                go_wp2_with (go_at_call 19; (with_reducible refine (HFR.out _ HK.out).mono ?_); rintro e w7 ⟨rfl, k7, f7, z7, _⟩; have HA9 := HA.out.fr f7 HD.out; clear HA HK; have HA := Lib.hid HA9; have HK := Lib.hid k7; clear k7 f7 HA9)
                exact ⟨⟨q + 1, by omega, by go_num, HK.out, HA.out⟩, by simp [intOf]; omega⟩
              · have HFR : Hid (∀ w, Kp V wA own2 [] w → Calls Try.prog 19 #[V.p, .int .i64 q] w (RetP V wA own2 [] w (.tuple #[.int .i64 0, .bool false]))) := fun w h => by
                  have k := kp_free q hq2 h
                  rw [← hL, if_neg hL0, decide_eq_false hL0] at k
                  exact k
                have hL1 : decide (0 ≤ L) = false := decide_eq_false hL0
                clear hL
                go_wp2_with (go_at_call 19; (with_reducible refine (HFR.out _ HK.out).mono ?_); rintro e w7 ⟨rfl, k7, f7, z7, _⟩; have HA9 := HA.out.fr f7 HD.out; clear HA HK; have HA := Lib.hid HA9; have HK := Lib.hid k7; clear k7 f7 HA9)
                exact ⟨⟨q + 1, by omega, by go_num, HK.out, HA.out⟩, by simp [intOf]; omega⟩
            | k + 1, hk =>
              rw [show ((k + 1 : Nat) : Int) - 1 = (k : Int) by omega]
              obtain ⟨L, hL⟩ : ∃ L, L = lfree (own2 q) (6 - (k + 1)) (k + 1) := ⟨_, rfl⟩
              rw [← hL]
              have hLL : lfree (own2 q) (6 - k) k = if own2 q k < 1 then (k : Int) else L := by
                rw [hL, show 6 - k = (6 - (k + 1)) + 1 by omega]; rfl
              have HLL := Lib.hid hLL
              have hb := HK.out.facts.2.2 q k hq2 (by omega)
              have HQK := Lib.hid (show q < 2 ∧ k < 6 by omega)
              have hk0 : (0 : Int) ≤ k := by omega
              clear hL hLL
              by_cases ho : 0 < own2 q k
              · have HFD : Hid (∀ w, Kp V wA own2 [] w → Calls Try.prog 22 #[V.p, .int .i64 q, .int .i64 k] w (RetP V wA own2 [] w (.tuple #[.int .i64 (own2 q k - 1), .bool true]))) := fun w h => by
                  have r := kp_fd q k HQK.out.1 HQK.out.2 h
                  rw [if_pos ho, decide_eq_true ho] at r
                  exact r
                go_wp2_with (go_at_call 22; (with_reducible refine (HFD.out _ HK.out).mono ?_); rintro e w7 ⟨rfl, k7, f7, z7, _⟩; have HA9 := HA.out.fr f7 HD.out; clear HA HK; have HA := Lib.hid HA9; have HK := Lib.hid k7; have cq := OwnA.cell HA9 q k HQK.out.1 HQK.out.2; clear k7 f7 HA9)
                exact ⟨⟨k, by omega, rfl, by rw [HLL.out, if_neg (by omega)], HK.out, HA.out⟩, by simp [intOf]⟩
              · have HFD : Hid (∀ w, Kp V wA own2 [] w → Calls Try.prog 22 #[V.p, .int .i64 q, .int .i64 k] w (RetP V wA own2 [] w (.tuple #[.int .i64 0, .bool false]))) := fun w h => by
                  have r := kp_fd q k HQK.out.1 HQK.out.2 h
                  rw [if_neg ho, decide_eq_false ho] at r
                  exact r
                have ho1 : decide (0 < own2 q k) = false := decide_eq_false ho
                go_wp2_with (go_at_call 22; (with_reducible refine (HFD.out _ HK.out).mono ?_); rintro e w7 ⟨rfl, k7, f7, z7, _⟩; have HA9 := HA.out.fr f7 HD.out; clear HA HK; have HA := Lib.hid HA9; have HK := Lib.hid k7; have cq := OwnA.cell HA9 q k HQK.out.1 HQK.out.2; clear k7 f7 HA9)
                exact ⟨⟨k, by omega, rfl, by rw [HLL.out, if_pos (by omega)], HK.out, HA.out⟩, by simp [intOf]⟩
        · have hq2' : ¬ (q : Int) < 2 := by omega
          go_wp2_with fail
          exact ⟨⟨i + 1, own2, by omega, by go_num, HK.out, HA.out⟩, by simp [intOf]; omega⟩
    · by_cases h1 : (i : Int) < len
      have h2 : ¬ (i : Int) < 40 := by omega
      rotate_left 1
      all_goals (
        clear hr
        go_wp2_with (go_at_call 5; refine (procRuns_any _).mono ?_; rintro e w9 ⟨rfl, f9⟩; have HF9 := Lib.hid f9; clear f9)
        go_ret
        exact ⟨rfl, (HF.out.step HI.out.facts.1 (fun k hk hf => by have := HV.out k (Vw.foot_has hf); omega)).trans HF9.out⟩)
theorem procFds_walk (a : Option Addr) (len cap : Nat) (V : Nat → Nat → Value) (w : World) (hS : IsSl [.int .i64, .int .i64, .int .i64, .int .i64] w a len cap V) : Calls Try.prog 6 #[.slice a len cap] w fun e w' => e = .returned (.bool true) ∧ Below w.heap.size w w' := by
  obtain ⟨F, hF⟩ := Asks4.of hS
  exact (procFds_any a len cap F w hF).mono fun _ _ ⟨h, f⟩ => ⟨h, f.below⟩
end Go.Proofs.Ytmgijchcfjmphaa
