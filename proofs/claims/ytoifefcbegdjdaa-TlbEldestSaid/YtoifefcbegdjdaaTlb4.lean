import Derived.Test.YtoifefcbegdjdaaTlb3
import Derived.Test.YtoifefcbegdjdaaWithin
namespace Go.Proofs.Ytoifefcbegdjdaa
open Go.RowKit

/-- the flags as values -/
def bools (l : List Bool) : List Value := l.map Value.bool

section
variable (b n cap : Nat) (B : Nat → Bool) (w : World) (h : Arr w b n (fun i => .bool (B i)) 4) (hn : n ≤ 1000)
include h hn
set_option maxRecDepth 100000 in
theorem bools_index_yes (q : Nat) (hq : q < n) (hx : B q = true) (hm : ∀ j, j < q → B j = false) : Calls Try.prog 81 #[.slice (some ⟨b, 0, none⟩) n cap, .bool true] w fun e w' => e = .returned (.int .i64 q) ∧ w = w' := by
  have hlen : (n : Int) ≤ 1000 := by omega
  have HA := Lib.hid h
  have HM := Lib.hid hm
  clear h hm
  go_enter Try.func81, Try.ntmps81
  go_wp2_with fail
  go_loop [8] (fun t8 => ∃ i : Nat, i ≤ q ∧ t8 = .int .i64 i) (fun t8 => (n - intOf t8).toNat)
  case atStart => exact ⟨0, by omega, rfl⟩
  case round =>
    obtain ⟨i, hi, rfl⟩ := hrel
    have hil : (i : Int) < n := by omega
    have ci := HA.out.cell (i := i) (by omega)
    by_cases hiq : i = q
    · subst hiq
      simp only [hx] at ci
      go_wp2_with fail
      go_ret
      exact ⟨rfl, rfl⟩
    · have hb := HM.out i (by omega)
      simp only [hb] at ci
      clear hb
      go_wp2_with fail
      go_round
      case rel => exact ⟨i + 1, by omega, by go_num⟩
      case measure => simp [intOf]; omega
set_option maxRecDepth 100000 in
theorem bools_index_no (hm : ∀ j, j < n → B j = false) : Calls Try.prog 81 #[.slice (some ⟨b, 0, none⟩) n cap, .bool true] w fun e w' => e = .returned (.int .i64 (-1)) ∧ w = w' := by
  have hlen : (n : Int) ≤ 1000 := by omega
  have HA := Lib.hid h
  have HM := Lib.hid hm
  clear h hm
  go_enter Try.func81, Try.ntmps81
  go_wp2_with fail
  go_loop [8] (fun t8 => ∃ i : Nat, i ≤ n ∧ t8 = .int .i64 i) (fun t8 => (n - intOf t8).toNat)
  case atStart => exact ⟨0, by omega, rfl⟩
  case round =>
    obtain ⟨i, hi, rfl⟩ := hrel
    by_cases hin : i < n
    · have hil : (i : Int) < n := by omega
      have ci := HA.out.cell (i := i) (by omega)
      have hb := HM.out i (by omega)
      simp only [hb] at ci
      clear hb
      go_wp2_with fail
      go_round
      case rel => exact ⟨i + 1, by omega, by go_num⟩
      case measure => simp [intOf]; omega
    · have hil : ¬ (i : Int) < n := by omega
      go_wp2_with fail
      go_ret
      exact ⟨rfl, rfl⟩
theorem bools_has (any : Bool) (ha : any = true ↔ ∃ j, j < n ∧ B j = true) : Calls Try.prog 78 #[.slice (some ⟨b, 0, none⟩) n cap, .bool true] w fun e w' => e = .returned (.bool any) ∧ w = w' := by
  cases any with
  | true =>
    obtain ⟨q, hq, hx, hm⟩ : ∃ q, q < n ∧ B q = true ∧ ∀ j, j < q → B j = false := by
      obtain ⟨j, hj, hb⟩ := ha.1 rfl
      have key : ∀ m j, j < m → j < n → B j = true → ∃ q, q < n ∧ B q = true ∧ ∀ j, j < q → B j = false := by
        intro m
        induction m with
        | zero => intro j h; omega
        | succ m ih =>
          intro j hjm hj hb
          by_cases hex : ∃ i, i < j ∧ B i = true
          · obtain ⟨i, hi, hbi⟩ := hex
            exact ih i (by omega) (by omega) hbi
          · refine ⟨j, hj, hb, fun i hi => ?_⟩
            cases e : B i with
            | false => rfl
            | true => exact absurd ⟨i, hi, e⟩ hex
      exact key (j + 1) j (by omega) hj hb
    have HI := Lib.hid (bools_index_yes b n cap B w h hn q hq hx hm)
    have hq0 : (0 : Int) ≤ q := by omega
    clear h hm ha hx
    go_enter Try.func78, Try.ntmps78
    go_wp2_with (go_at_call 81; refine HI.out.mono ?_; rintro e w' ⟨rfl, rfl⟩)
    go_ret
    exact ⟨rfl, rfl⟩
  | false =>
    have HI := Lib.hid (bools_index_no b n cap B w h hn (fun j hj => by
      cases e : B j with
      | false => rfl
      | true => exact absurd (ha.2 ⟨j, hj, e⟩) (by simp)))
    clear h ha
    go_enter Try.func78, Try.ntmps78
    go_wp2_with (go_at_call 81; refine HI.out.mono ?_; rintro e w' ⟨rfl, rfl⟩)
    go_ret
    exact ⟨rfl, rfl⟩
end

/-- pages on their way out: of the keeper x, pages l in pv, who has to answer -/
structure Shot (w : World) (s x : Nat) (pv : Value) (l : List Int) (wb n : Nat) (B : Nat → Bool) : Prop where
  h : Blk w s #[.pointer (some ⟨x, 0, none⟩), pv, .slice (some ⟨wb, 0, none⟩) n n] 103
  a : Arr w wb n (fun i => .bool (B i)) 4
  p : Own w 3 1 l.length pv (ints l)
theorem Shot.fr {w w' : World} {s x : Nat} {pv : Value} {l : List Int} {wb n : Nat} {B : Nat → Bool} {S : Nat → Prop} (h : Shot w s x pv l wb n B) (f : Fr S w w') (hs : ∀ k, S k → k ≠ s ∧ k ≠ wb ∧ ¬ Of pv k) : Shot w' s x pv l wb n B :=
  ⟨h.h.fr f (fun e => (hs _ e).1 rfl), h.a.fr f (fun e => (hs _ e).2.1 rfl), h.p.fr f (fun k hk e => (hs k e).2.2 hk)⟩

theorem shot_done (s x : Nat) (pv : Value) (l : List Int) (wb n : Nat) (B : Nat → Bool) (w : World) (h : Shot w s x pv l wb n B) (hn : n ≤ 1000) (any : Bool) (ha : any = true ↔ ∃ j, j < n ∧ B j = true) :
    Calls Try.prog 44 #[.pointer (some ⟨s, 0, none⟩)] w fun e w' => e = .returned (.bool !any) ∧ w = w' := by
  have h2 := h.h.cell 2
  have HC := Lib.hid (bools_has wb n n B w h.a hn any ha)
  clear h ha
  cases any
  · go_enter Try.func44, Try.ntmps44
    go_wp2_with (go_at_call 78; refine HC.out.mono ?_; rintro e w' ⟨rfl, rfl⟩)
    go_ret
    exact ⟨rfl, rfl⟩
  · go_enter Try.func44, Try.ntmps44
    go_wp2_with (go_at_call 78; refine HC.out.mono ?_; rintro e w' ⟨rfl, rfl⟩)
    go_ret
    exact ⟨rfl, rfl⟩

/-- the numbers of those that wait, ahead of j -/
def whoWait (B : Nat → Bool) (j : Nat) : List Int := ((List.range j).filter B).map (fun (i : Nat) => (i : Int))
theorem whoWait_succ (B : Nat → Bool) (j : Nat) : whoWait B (j + 1) = if B j = true then whoWait B j ++ [(j : Int)] else whoWait B j := by
  unfold whoWait
  rw [List.range_succ, List.filter_append]
  by_cases e : B j = true <;> simp [e]
theorem whoWait_le (B : Nat → Bool) (j : Nat) : (whoWait B j).length ≤ j := by
  unfold whoWait
  rw [List.length_map]
  exact Nat.le_trans (List.length_filter_le _ _) (by rw [List.length_range]; exact Nat.le_refl _)

set_option maxRecDepth 100000 in
theorem shot_waits (s x : Nat) (pv : Value) (l : List Int) (wb n : Nat) (B : Nat → Bool) (w : World) (h : Shot w s x pv l wb n B) (hn : n ≤ 1000) :
    Calls Try.prog 40 #[.pointer (some ⟨s, 0, none⟩)] w fun e w' => ∃ v', e = .returned v' ∧ Own w' 3 1 (whoWait B n).length v' (ints (whoWait B n)) ∧ Fr (fun _ => False) w w' ∧ ∀ k, Of v' k → w.heap.size ≤ k := by
  obtain ⟨i0, hif, hz0, hz1, hz2⟩ := info_parts info_int1
  have h2 := h.h.cell 2
  have HA := Lib.hid h.a
  have hlen : (n : Int) ≤ 1000 := by omega
  clear h
  go_enter Try.func40, Try.ntmps40
  go_wp2_with fail
  go_loopw [3, 4, 5, 11] (fun t3 _ _ t11 wr => ∃ i : Nat, i ≤ n ∧ t11 = .int .i64 i ∧ Own wr 3 1 (whoWait B i).length t3 (ints (whoWait B i)) ∧ Fr (fun _ => False) w wr ∧ ∀ k, Of t3 k → w.heap.size ≤ k) (fun _ _ _ t11 _ => (n - intOf t11).toNat)
  case atStart => exact ⟨0, by omega, rfl, Own.nil _ _ _, Fr.refl _ _, fun k hk => by simp [Of, Value.ownBlock] at hk⟩
  case round =>
    obtain ⟨i, hi, rfl, hO, hF, hN⟩ := hrel
    have HO := Lib.hid hO
    have HF := Lib.hid hF
    have HN := Lib.hid hN
    have hsucc := whoWait_succ B i
    have hle := whoWait_le B i
    by_cases hin : i < n
    · have hil : (i : Int) < n := by omega
      have ci := (HA.out.fr hF id).cell (i := i) (by omega)
      cases hb : B i with
      | true =>
        simp only [hb] at ci
        rw [hb, if_pos rfl] at hsucc
        have HS := Lib.hid hsucc
        have O1 := Lib.hid (hO.fr ((Fr.refl (fun _ => False) wr).alloc (.cells #[.int .i64 i] 3)) (fun _ _ => id))
        have HB := Lib.hid hb
        clear hO hF hN hb hsucc
        go_wp2_with (at_builtin; refine wpList_append1 rfl _ _ 24 rfl 3 i0 (.int .i64 0) 8 Try.underlying24 hif hz0 hz1 hz2 rfl (by decide) _ _ (ints (whoWait B i)) rfl (.int .i64 i) 3 O1.out wr.heap.size rfl rfl rfl (by omega) ?_; intro v' w' O2 F2 N2; have HO2 := Lib.hid O2; have HF2 := Lib.hid F2; have HN2 := Lib.hid N2; clear O2 F2 N2)
        refine ⟨⟨i + 1, by omega, by go_num, ?_, (HF.out.alloc _).step HF2.out (fun k hk hs => by have := HN.out k hs; omega), fun k hk => ?_⟩, by simp [intOf]; omega⟩
        · rw [HS.out]
          have o := HO2.out
          rw [List.length_append]
          simpa [ints] using o
        · rcases HN2.out k hk with h | h
          · exact HN.out k h
          · have := HF.out.size; omega
      | false =>
        simp only [hb] at ci
        rw [hb, if_neg (by simp)] at hsucc
        have HS := Lib.hid hsucc
        clear hO hF hN hb hsucc
        go_wp2_with fail
        refine ⟨⟨i + 1, by omega, by go_num, ?_, HF.out, HN.out⟩, by simp [intOf]; omega⟩
        rw [HS.out]; exact HO.out
    · have hil : ¬ (i : Int) < n := by omega
      obtain rfl : i = n := by omega
      clear hO hF hN hsucc
      go_wp2_with fail
      go_ret
      exact ⟨_, rfl, HO.out, HF.out, HN.out⟩
end Go.Proofs.Ytoifefcbegdjdaa
