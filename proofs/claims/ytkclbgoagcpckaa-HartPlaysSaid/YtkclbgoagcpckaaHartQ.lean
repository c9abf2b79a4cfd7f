import Derived.Test.YtkclbgoagcpckaaHart2
import Derived.Test.YtkclbgoagcpckaaGuard
namespace Go.Proofs.Ytkclbgoagcpckaa
open Go.RowKit

/-! HartPlays: numbers of no hart; the deed as a relation, its contract -/
theorem hart_new_no (n : Int) (hn : n < 1 ∨ 8 < n) (w : World) : Calls Try.prog 23 #[.int .i64 n] w fun e w' => e = .panicked [{ v := .iface 40 (.agg #[.int .i64 3, .int .i64 n]), recovered := false }] ∧ w = w' := by
  rcases hn with hn | hn
  · have h1 : ¬ 1 ≤ n := by omega
    go_enter Try.func23, Try.ntmps23
    go_wp2_with (go_at_call 37; (with_reducible refine (must_no _ _ _).mono ?_); rintro e w' ⟨rfl, rfl⟩)
    exact ⟨rfl, rfl, rfl⟩
  · have h1 : 1 ≤ n := by omega
    have h2 : ¬ n ≤ 8 := by omega
    go_enter Try.func23, Try.ntmps23
    go_wp2_with (go_at_call 37; (with_reducible refine (must_no _ _ _).mono ?_); rintro e w' ⟨rfl, rfl⟩)
    exact ⟨rfl, rfl, rfl⟩

section
variable (x g n : Nat) (F : Nat → HOne) (i : Int) (w : World) (H : HartsB w x g n F) (hi : i < 0 ∨ (n : Int) ≤ i)
include H hi
theorem hart_of_no : Calls Try.prog 42 #[.pointer (some ⟨x, 0, none⟩), .int .i64 i] w fun e w' => e = .panicked [{ v := .iface 40 (.agg #[.int .i64 3, .int .i64 i]), recovered := false }] ∧ w = w' := by
  have h0 := H.h.cell 0
  clear H
  rcases hi with hi | hi
  · go_enter Try.func42, Try.ntmps42
    go_wp2_with (go_at_call 37; (with_reducible refine (must_no _ _ _).mono ?_); rintro e w' ⟨rfl, rfl⟩)
    exact ⟨rfl, rfl, rfl⟩
  · have h1 : (0 : Int) ≤ i := by omega
    have h2 : decide (i < (n : Int)) = false := decide_eq_false (by omega)
    go_enter Try.func42, Try.ntmps42
    go_wp2_with (go_at_call 37; (with_reducible refine (must_no _ _ _).mono ?_); rintro e w' ⟨rfl, rfl⟩)
    exact ⟨rfl, rfl, rfl⟩
theorem hart_set_who (on : Bool) : Calls Try.prog 30 #[.pointer (some ⟨x, 0, none⟩), .int .i64 i, .bool on] w fun e w' => e = .panicked [{ v := .iface 40 (.agg #[.int .i64 3, .int .i64 i]), recovered := false }] ∧ w = w' := by
  have HO := Lib.hid (hart_of_no x g n F i w H hi)
  clear H hi
  go_enter Try.func30, Try.ntmps30
  go_wp2_with (go_at_call 42; (with_reducible refine HO.out.mono ?_); rintro e w' ⟨rfl, rfl⟩)
  exact ⟨rfl, rfl, rfl⟩
theorem hart_push_who : Calls Try.prog 24 #[.pointer (some ⟨x, 0, none⟩), .int .i64 i] w fun e w' => e = .panicked [{ v := .iface 40 (.agg #[.int .i64 3, .int .i64 i]), recovered := false }] ∧ w = w' := by
  have HO := Lib.hid (hart_of_no x g n F i w H hi)
  clear H hi
  go_enter Try.func24, Try.ntmps24
  go_wp2_with (go_at_call 42; (with_reducible refine HO.out.mono ?_); rintro e w' ⟨rfl, rfl⟩)
  exact ⟨rfl, rfl, rfl⟩
theorem hart_pop_who : Calls Try.prog 25 #[.pointer (some ⟨x, 0, none⟩), .int .i64 i] w fun e w' => e = .panicked [{ v := .iface 40 (.agg #[.int .i64 3, .int .i64 i]), recovered := false }] ∧ w = w' := by
  have HO := Lib.hid (hart_of_no x g n F i w H hi)
  clear H hi
  go_enter Try.func25, Try.ntmps25
  go_wp2_with (go_at_call 42; (with_reducible refine HO.out.mono ?_); rintro e w' ⟨rfl, rfl⟩)
  exact ⟨rfl, rfl, rfl⟩
theorem hart_post_who (m : Int) : Calls Try.prog 28 #[.pointer (some ⟨x, 0, none⟩), .int .i64 i, .int .i64 m] w fun e w' => e = .panicked [{ v := .iface 40 (.agg #[.int .i64 3, .int .i64 i]), recovered := false }] ∧ w = w' := by
  have HO := Lib.hid (hart_of_no x g n F i w H hi)
  clear H hi
  go_enter Try.func28, Try.ntmps28
  go_wp2_with (go_at_call 42; (with_reducible refine HO.out.mono ?_); rintro e w' ⟨rfl, rfl⟩)
  exact ⟨rfl, rfl, rfl⟩
theorem hart_take_who : Calls Try.prog 29 #[.pointer (some ⟨x, 0, none⟩), .int .i64 i] w fun e w' => e = .panicked [{ v := .iface 40 (.agg #[.int .i64 3, .int .i64 i]), recovered := false }] ∧ w = w' := by
  have HO := Lib.hid (hart_of_no x g n F i w H hi)
  clear H hi
  go_enter Try.func29, Try.ntmps29
  go_wp2_with (go_at_call 42; (with_reducible refine HO.out.mono ?_); rintro e w' ⟨rfl, rfl⟩)
  exact ⟨rfl, rfl, rfl⟩
theorem hart_due_who : Calls Try.prog 33 #[.pointer (some ⟨x, 0, none⟩), .int .i64 i] w fun e w' => e = .panicked [{ v := .iface 40 (.agg #[.int .i64 3, .int .i64 i]), recovered := false }] ∧ w = w' := by
  have HO := Lib.hid (hart_of_no x g n F i w H hi)
  clear H hi
  go_enter Try.func33, Try.ntmps33
  go_wp2_with (go_at_call 42; (with_reducible refine HO.out.mono ?_); rintro e w' ⟨rfl, rfl⟩)
  exact ⟨rfl, rfl, rfl⟩
end

/-- what a deed on the harts comes to -/
inductive HD (n : Nat) (F : Nat → HOne) (kind h m : Int) (on : Bool) : Stp → Int → Bool → (Nat → HOne) → Prop
  | who (hb : h < 0 ∨ (n : Int) ≤ h) : HD n F kind h m on (.stop 3 h) 0 false F
  | setBad (i : Nat) (e : h = i) (hi : i < n) (hk : kind = 1) (hz : (F i).nest ≠ 0) : HD n F kind h m on (.stop 9 h) 0 false F
  | set (i : Nat) (e : h = i) (hi : i < n) (hk : kind = 1) (hz : (F i).nest = 0) : HD n F kind h m on .ok 0 false (upd F i { F i with on := on })
  | push0 (i : Nat) (e : h = i) (hi : i < n) (hk : kind = 2) (hz : (F i).nest = 0) : HD n F kind h m on .ok 0 false (upd F i ⟨false, (F i).on, 1, (F i).mail⟩)
  | push1 (i : Nat) (e : h = i) (hi : i < n) (hk : kind = 2) (hz : (F i).nest ≠ 0) : HD n F kind h m on .ok 0 false (upd F i ⟨false, (F i).kept, (F i).nest + 1, (F i).mail⟩)
  | popBad (i : Nat) (e : h = i) (hi : i < n) (hk : kind = 3) (hz : (F i).nest = 0) : HD n F kind h m on (.stop 4 h) 0 false F
  | pop1 (i : Nat) (e : h = i) (hi : i < n) (hk : kind = 3) (hz : (F i).nest = 1) : HD n F kind h m on .ok 0 false (upd F i ⟨(F i).kept, (F i).kept, 0, (F i).mail⟩)
  | pop2 (i : Nat) (e : h = i) (hi : i < n) (hk : kind = 3) (hz : 2 ≤ (F i).nest) : HD n F kind h m on .ok 0 false (upd F i { F i with nest := (F i).nest - 1 })
  | postBad (i : Nat) (e : h = i) (hi : i < n) (hk : kind = 4) (hm : m < 0 ∨ 8 ≤ m) : HD n F kind h m on (.stop 9 m) 0 false F
  | post (i q : Nat) (e : h = i) (hi : i < n) (hk : kind = 4) (hm : m = q) (hq : q < 8) : HD n F kind h m on .ok 0 false (upd F i { F i with mail := putb (F i).mail q })
  | takeNo (i : Nat) (e : h = i) (hi : i < n) (hk : kind = 5) (hz : (F i).mail = 0) : HD n F kind h m on .ok 0 false F
  | take (i : Nat) (e : h = i) (hi : i < n) (hk : kind = 5) (hz : (F i).mail ≠ 0) : HD n F kind h m on .ok (tzn (F i).mail : Nat) true (upd F i { F i with mail := takeb (F i).mail (tzn (F i).mail) })
  | due (i : Nat) (e : h = i) (hi : i < n) (hk : (kind == 1) = false ∧ (kind == 2) = false ∧ (kind == 3) = false ∧ (kind == 4) = false ∧ (kind == 5) = false) : HD n F kind h m on .ok 0 false F

theorem HD.any (n : Nat) (F : Nat → HOne) (kind h m : Int) (on : Bool) : ∃ s got took F', HD n F kind h m on s got took F' := by
  by_cases hb : h < 0 ∨ (n : Int) ≤ h
  · exact ⟨_, _, _, _, .who hb⟩
  · obtain ⟨i, e⟩ : ∃ i : Nat, h = i := ⟨h.toNat, by omega⟩
    have hi : i < n := by omega
    by_cases k1 : kind = 1
    · by_cases hz : (F i).nest = 0
      · exact ⟨_, _, _, _, .set i e hi k1 hz⟩
      · exact ⟨_, _, _, _, .setBad i e hi k1 hz⟩
    by_cases k2 : kind = 2
    · by_cases hz : (F i).nest = 0
      · exact ⟨_, _, _, _, .push0 i e hi k2 hz⟩
      · exact ⟨_, _, _, _, .push1 i e hi k2 hz⟩
    by_cases k3 : kind = 3
    · rcases (show (F i).nest = 0 ∨ (F i).nest = 1 ∨ 2 ≤ (F i).nest by omega) with hz | hz | hz
      · exact ⟨_, _, _, _, .popBad i e hi k3 hz⟩
      · exact ⟨_, _, _, _, .pop1 i e hi k3 hz⟩
      · exact ⟨_, _, _, _, .pop2 i e hi k3 hz⟩
    by_cases k4 : kind = 4
    · by_cases hm : m < 0 ∨ 8 ≤ m
      · exact ⟨_, _, _, _, .postBad i e hi k4 hm⟩
      · exact ⟨_, _, _, _, .post i m.toNat e hi k4 (by omega) (by omega)⟩
    by_cases k5 : kind = 5
    · by_cases hz : (F i).mail = 0
      · exact ⟨_, _, _, _, .takeNo i e hi k5 hz⟩
      · exact ⟨_, _, _, _, .take i e hi k5 hz⟩
    · exact ⟨_, _, _, _, .due i e hi (by simp [k1, k2, k3, k4, k5])⟩
end Go.Proofs.Ytkclbgoagcpckaa
