import Derived.Test.YtmgijchcfjmphaaRec
import Derived.Test.YtmgijchcfjmphaaMapB
import Derived.Deep.QuietTactic
import Derived.BigQuiet
import Derived.IntWalk
import Derived.RegionDies
namespace Go.Proofs.Ytmgijchcfjmphaa
open Go.RowKit

/-- a call that turns nothing, in a region that only reads: behind n draws; behind draws that stood ahead of the region -/
theorem quiet0 {P : Program} {f : FuncId} {args : Array Value} {w : World} {n : Nat} {v : Value} (h : Calls P f args (w.drewN n) fun e w' => e = .returned v ∧ w.drewN n = w') :
    Calls P f args (w.drewN n) fun e w'' => e = .returned v ∧ ∃ m, w'' = w.drewN m := h.mono fun _ _ k => ⟨k.1, n, k.2.symm⟩
theorem quiet1 {P : Program} {f : FuncId} {args : Array Value} {w : World} {a n : Nat} {v : Value} (h : Calls P f args (w.drewN (a + n)) fun e w' => e = .returned v ∧ w.drewN (a + n) = w') :
    Calls P f args (w.drewN (a + n)) fun e w'' => e = .returned v ∧ ∃ m, w'' = w.drewN (a + m) := h.mono fun _ _ k => ⟨k.1, n, k.2.symm⟩

/-- how many objects of a kind -/
def many (k : Int) : Int := if k = 4 ∨ k = 12 then 8 else if k = 6 then 12 else if k = 8 then 4 else if k = 10 then 16 else if k < 1 ∨ 12 < k then 0 else 1
/-- how many objects ahead of a kind -/
def ahead (k : Int) : Int := if k = 1 then 0 else if k = 2 then 1 else if k = 3 then 2 else if k = 4 then 3 else if k = 5 then 11 else if k = 6 then 12 else if k = 7 then 24 else if k = 8 then 25 else if k = 9 then 29 else if k = 10 then 30 else if k = 11 then 46 else if k = 12 then 47 else 55
/-- an object: its kind, its number -/
abbrev Key := Int × Int
def placeZ (k : Key) : Int := if k.2 < 0 ∨ many k.1 ≤ k.2 then -1 else ahead k.1 + k.2
def place (k : Key) : Option Nat := if k.2 < 0 ∨ many k.1 ≤ k.2 then none else some (ahead k.1 + k.2).toNat
abbrev keyV (k : Key) : Value := .agg #[.int .i64 k.1, .int .i64 k.2]

theorem key_many (k : Int) (w : World) : Calls Try.prog 44 #[.int .i64 k] w fun e w' => e = .returned (.int .i64 (many k)) ∧ w = w' := by
  have c : ∀ a : Int, k = a ∨ k ≠ a := fun a => by omega
  rcases c 4 with rfl | h4
  · go_enter Try.func44, Try.ntmps44
    go_wp2_with fail
    go_ret
    exact ⟨rfl, rfl⟩
  rcases c 12 with rfl | h12
  · go_enter Try.func44, Try.ntmps44
    go_wp2_with fail
    go_ret
    exact ⟨rfl, rfl⟩
  rcases c 6 with rfl | h6
  · go_enter Try.func44, Try.ntmps44
    go_wp2_with fail
    go_ret
    exact ⟨rfl, rfl⟩
  rcases c 8 with rfl | h8
  · go_enter Try.func44, Try.ntmps44
    go_wp2_with fail
    go_ret
    exact ⟨rfl, rfl⟩
  rcases c 10 with rfl | h10
  · go_enter Try.func44, Try.ntmps44
    go_wp2_with fail
    go_ret
    exact ⟨rfl, rfl⟩
  have e : many k = if k < 1 ∨ 12 < k then 0 else 1 := by unfold many; rw [if_neg (by omega), if_neg h6, if_neg h8, if_neg h10]
  have b4 : (k == 4) = false := beq_eq_false_iff_ne.2 h4
  have b12 : (k == 12) = false := beq_eq_false_iff_ne.2 h12
  have b6 : (k == 6) = false := beq_eq_false_iff_ne.2 h6
  have b8 : (k == 8) = false := beq_eq_false_iff_ne.2 h8
  have b10 : (k == 10) = false := beq_eq_false_iff_ne.2 h10
  by_cases h : k < 1 ∨ 12 < k
  · have e := e.trans (if_pos h)
    rw [e]
    clear e c h4 h12 h6 h8 h10
    rcases h with h | h
    · go_enter Try.func44, Try.ntmps44
      go_wp2_with fail
      go_ret
      exact ⟨rfl, rfl⟩
    · have h1 : ¬ k < 1 := by omega
      go_enter Try.func44, Try.ntmps44
      go_wp2_with fail
      go_ret
      exact ⟨rfl, rfl⟩
  · have e := e.trans (if_neg h)
    rw [e]
    clear e c h4 h12 h6 h8 h10
    have h1 : ¬ k < 1 := by omega
    have h2 : ¬ 12 < k := by omega
    go_enter Try.func44, Try.ntmps44
    go_wp2_with fail
    go_ret
    exact ⟨rfl, rfl⟩

def ahead0 : Nat → Int
  | 0 => 0
  | n + 1 => ahead0 n + many (n + 1 : Nat)
theorem ahead0_eq (n : Nat) (h : n ≤ 12) : ahead0 n = ahead (n + 1 : Nat) ∧ 0 ≤ ahead0 n ∧ ahead0 n ≤ 1000 := by
  match n, h with
  | 0, _ => decide
  | 1, _ => decide
  | 2, _ => decide
  | 3, _ => decide
  | 4, _ => decide
  | 5, _ => decide
  | 6, _ => decide
  | 7, _ => decide
  | 8, _ => decide
  | 9, _ => decide
  | 10, _ => decide
  | 11, _ => decide
  | 12, _ => decide
  | n + 13, h => omega
theorem many_bd (k : Int) : 0 ≤ many k ∧ many k ≤ 16 := by unfold many; repeat (split <;> try omega)

theorem key_ahead (n : Nat) (hn : n ≤ 12) (w : World) : Calls Try.prog 45 #[.int .i64 ((n : Int) + 1)] w fun e w' => e = .returned (.int .i64 (ahead0 n)) ∧ w = w' := by
  go_enter Try.func45, Try.ntmps45
  go_wp2_with fail
  go_loop [3, 4] (fun s k => ∃ j : Nat, j ≤ n ∧ k = .int .i64 ((j : Int) + 1) ∧ s = .int .i64 (ahead0 j)) (fun _ k => (n + 1 - intOf k).toNat)
  case atStart => exact ⟨0, by omega, rfl, rfl⟩
  case round =>
    obtain ⟨j, hj, rfl, rfl⟩ := hrel
    obtain ⟨a1, a2⟩ := (ahead0_eq j (by omega)).2
    obtain ⟨m1, m2⟩ := many_bd ((j : Int) + 1)
    have HE := Lib.hid (show ahead0 (j + 1) = ahead0 j + many ((j : Int) + 1) from rfl)
    by_cases hlt : j < n
    · have hlt' : (j : Int) + 1 < (n : Int) + 1 := by omega
      go_wp2_with (go_at_call 44; refine (key_many _ _).mono ?_; rintro e w' ⟨rfl, rfl⟩)
      go_round
      case rel => exact ⟨j + 1, by omega, by go_num, by rw [HE.out]⟩
      case measure => simp [intOf]; omega
    · have hlt' : ¬ (j : Int) + 1 < (n : Int) + 1 := by omega
      obtain rfl : j = n := by omega
      go_wp2_with fail
      go_ret
      exact ⟨rfl, rfl⟩

theorem key_all (w : World) : Calls Try.prog 40 #[] w fun e w' => e = .returned (.int .i64 55) ∧ w = w' := by
  have H := Lib.hid (key_ahead 12 (by omega) w)
  go_enter Try.func40, Try.ntmps40
  go_wp2_with (go_at_call 45; refine H.out.mono ?_; rintro e w' ⟨rfl, rfl⟩)
  go_ret
  exact ⟨rfl, rfl⟩

theorem place_some {k : Key} {p : Nat} (h : place k = some p) : 0 ≤ k.2 ∧ k.2 < many k.1 ∧ 1 ≤ k.1 ∧ k.1 ≤ 12 ∧ (p : Int) = ahead k.1 + k.2 ∧ p < 55 := by
  unfold place at h
  split at h
  · simp at h
  · rename_i hn
    have h2 : 1 ≤ k.1 ∧ k.1 ≤ 12 := by
      unfold many at hn
      by_cases e : k.1 < 1 ∨ 12 < k.1
      · rw [if_neg (by omega), if_neg (by omega), if_neg (by omega), if_neg (by omega), if_pos e] at hn; omega
      · omega
    obtain ⟨q, hq⟩ : ∃ q : Nat, k.1 = ((q + 1 : Nat) : Int) := ⟨(k.1 - 1).toNat, by omega⟩
    have hb : 0 ≤ ahead k.1 ∧ ahead k.1 + many k.1 ≤ 55 := by
      rw [hq]
      have : q < 12 := by omega
      match q, this with
      | 0, _ => decide
      | 1, _ => decide
      | 2, _ => decide
      | 3, _ => decide
      | 4, _ => decide
      | 5, _ => decide
      | 6, _ => decide
      | 7, _ => decide
      | 8, _ => decide
      | 9, _ => decide
      | 10, _ => decide
      | 11, _ => decide
    simp only [Option.some.injEq] at h
    omega
theorem placeZ_some {k : Key} {p : Nat} (h : place k = some p) : placeZ k = p := by
  have := place_some h
  unfold placeZ
  rw [if_neg (by omega)]
  omega
theorem placeZ_none {k : Key} (h : place k = none) : placeZ k = -1 := by
  unfold place at h
  unfold placeZ
  split at h
  · rename_i e; rw [if_pos e]
  · simp at h

theorem place_inj {k q : Key} (h : place k = place q) (hs : (place k).isSome) : k = q := by
  cases hk : place k with
  | none => rw [hk] at hs; simp at hs
  | some p =>
    have hq := hk ▸ h
    obtain ⟨a, b⟩ := k
    obtain ⟨c, d⟩ := q
    obtain ⟨a1, a2, a3, a4, a5, _⟩ := place_some hk
    obtain ⟨b1, b2, b3, b4, b5, _⟩ := place_some hq.symm
    simp only at *
    have e : a = c := by
      have ha : ∀ x : Int, 1 ≤ x → x ≤ 12 → x = 1 ∨ x = 2 ∨ x = 3 ∨ x = 4 ∨ x = 5 ∨ x = 6 ∨ x = 7 ∨ x = 8 ∨ x = 9 ∨ x = 10 ∨ x = 11 ∨ x = 12 := fun x _ _ => by omega
      have f : ∀ x : Int, 1 ≤ x → x ≤ 12 → ∀ y, 0 ≤ y → y < many x → ∀ z : Int, 1 ≤ z → z ≤ 12 → ∀ u, 0 ≤ u → u < many z → ahead x + y = ahead z + u → x = z := by
        intro x x1 x2 y y1 y2 z z1 z2 u u1 u2 hh
        have m1 : ahead x + y < ahead (x + 1) := by
          rcases ha x x1 x2 with rfl | rfl | rfl | rfl | rfl | rfl | rfl | rfl | rfl | rfl | rfl | rfl <;> simp [many] at y2 <;> simp [ahead] <;> omega
        have m2 : ahead z + u < ahead (z + 1) := by
          rcases ha z z1 z2 with rfl | rfl | rfl | rfl | rfl | rfl | rfl | rfl | rfl | rfl | rfl | rfl <;> simp [many] at u2 <;> simp [ahead] <;> omega
        have mono : ∀ x z : Int, 1 ≤ x → x < z → z ≤ 12 → ahead (x + 1) ≤ ahead z := by
          intro x z h1 h2 h3
          rcases ha z (by omega) h3 with rfl | rfl | rfl | rfl | rfl | rfl | rfl | rfl | rfl | rfl | rfl | rfl <;>
            rcases ha x h1 (by omega) with rfl | rfl | rfl | rfl | rfl | rfl | rfl | rfl | rfl | rfl | rfl | rfl <;> first | omega | decide
        rcases Int.lt_trichotomy x z with h | h | h
        · have := mono x z x1 h z2; omega
        · exact h
        · have := mono z x z1 h x2; omega
      exact f a a3 a4 b a1 a2 c b3 b4 d b1 b2 (by omega)
    subst e
    have : b = d := by omega
    rw [this]
theorem Fr.drewN {S : Nat → Prop} {a w : World} (h : Fr S a w) (q : Nat) : Fr S a (w.drewN q) := ⟨h.os, h.tape, h.output, h.size, h.block⟩

theorem key_place (k : Key) (w : World) : Calls Try.prog 37 #[keyV k] w fun e w' => e = .returned (.int .i64 (placeZ k)) ∧ Fr (fun _ => False) w w' := by
  obtain ⟨a, b⟩ := k
  have f1 : Fr (fun _ => False) w (w.alloc (.cells #[.int .i64 a, .int .i64 b] 61)) := (Fr.refl _ _).alloc _
  have HF := Lib.hid f1
  clear f1
  obtain ⟨m, hm⟩ : ∃ m, m = many a := ⟨_, rfl⟩
  have HM := Lib.hid (fun w => hm ▸ key_many a w)
  cases hp : place (a, b) with
  | none =>
    have hz := Lib.hid (placeZ_none hp)
    have hc : b < 0 ∨ 0 ≤ b ∧ m ≤ b := by
      unfold place at hp
      split at hp
      · simp only at *; omega
      · simp at hp
    clear hp hm
    rw [hz.out]
    rcases hc with hc | ⟨h0, hc⟩
    · go_enter Try.func37, Try.ntmps37
      go_wp2_with fail
      go_quiet (fail)
      go_wp2_with fail
      go_ret
      exact ⟨rfl, HF.out.drewN _⟩
    · have hd : decide (b < 0) = false := decide_eq_false (by omega)
      go_enter Try.func37, Try.ntmps37
      go_wp2_with fail
      go_quiet ((go_at_call 44; exact quiet0 (HM.out _)))
      go_wp2_with fail
      go_ret
      exact ⟨rfl, HF.out.drewN _⟩
  | some p =>
    have hz := Lib.hid (placeZ_some hp)
    obtain ⟨h1, h2, h3, h4, h5, h6⟩ := place_some hp
    simp only at h1 h2 h3 h4 h5
    rw [← hm] at h2
    obtain ⟨q, rfl⟩ : ∃ q : Nat, a = (q : Int) + 1 := ⟨(a - 1).toNat, by omega⟩
    obtain ⟨c1, c2⟩ := ahead0_eq q (by omega)
    rw [hz.out, h5]
    rw [show ((q : Int) + 1) = ((q + 1 : Nat) : Int) from by omega, ← c1]
    have HA := Lib.hid (fun w => key_ahead q (by omega) w)
    have hd : decide (b < 0) = false := decide_eq_false (by omega)
    have hd2 : decide (m ≤ b) = false := decide_eq_false (by omega)
    have hb : b ≤ 1000 := by have := many_bd ((q : Int) + 1); omega
    rw [show ((q + 1 : Nat) : Int) = (q : Int) + 1 from by omega]
    clear hp hm c1 h5
    go_enter Try.func37, Try.ntmps37
    go_wp2_with fail
    go_quiet ((go_at_call 44; exact quiet0 (HM.out _)))
    go_wp2_with fail
    go_quiet ((go_at_call 45; exact quiet1 (HA.out _)))
    go_wp2_with fail
    go_ret
    exact ⟨rfl, (HF.out.drewN _).drewN _⟩
end Go.Proofs.Ytmgijchcfjmphaa
