import Derived.Test.YtkclbgoagcpckaaHarB
namespace Go.Proofs.Ytkclbgoagcpckaa
open Go.RowKit

section
variable (x g n : Nat) (F : Nat → HOne) (i : Nat) (w : World) (H : HartsB w x g n F) (hi : i < n)
include H hi

theorem hart_on : Calls Try.prog 26 #[.pointer (some ⟨x, 0, none⟩), .int .i64 i] w fun e w' => e = .returned (.bool (F i).on) ∧ w = w' := by
  have HO := Lib.hid (hart_of x g n F i w H hi)
  have c0 := H.c0 hi
  have c1 := H.c1 hi
  have c2 := H.c2 hi
  have c3 := H.c3 hi
  have fr := H.a.frozen
  have lt := H.a.lt
  have HH := Lib.hid H
  clear H hi
  go_enter Try.func26, Try.ntmps26
  go_wp2_with (go_at_call 42; refine HO.out.mono ?_; rintro e w' ⟨rfl, rfl⟩)
  go_ret
  exact ⟨rfl, rfl⟩

theorem hart_nest : Calls Try.prog 31 #[.pointer (some ⟨x, 0, none⟩), .int .i64 i] w fun e w' => e = .returned (.int .i64 (F i).nest) ∧ w = w' := by
  have HO := Lib.hid (hart_of x g n F i w H hi)
  have c0 := H.c0 hi
  have c1 := H.c1 hi
  have c2 := H.c2 hi
  have c3 := H.c3 hi
  have fr := H.a.frozen
  have lt := H.a.lt
  have HH := Lib.hid H
  clear H hi
  go_enter Try.func31, Try.ntmps31
  go_wp2_with (go_at_call 42; refine HO.out.mono ?_; rintro e w' ⟨rfl, rfl⟩)
  go_ret
  exact ⟨rfl, rfl⟩

theorem hart_set (on : Bool) (hz : (F i).nest = 0) : Calls Try.prog 30 #[.pointer (some ⟨x, 0, none⟩), .int .i64 i, .bool on] w fun e w' => e = .returned (.tuple #[]) ∧ Fr (fun k => k = g) w w' ∧ HartsB w' x g n (upd F i { F i with on := on }) := by
  have e2 := H.c2 hi
  rw [hz] at e2
  have HO := Lib.hid (hart_of x g n F i w H hi)
  have c0 := H.c0 hi
  have c1 := H.c1 hi
  have c3 := H.c3 hi
  have fr := H.a.frozen
  have lt := H.a.lt
  have HH := Lib.hid H
  clear H hi
  go_enter Try.func30, Try.ntmps30
  go_wp2_with (first | (go_at_call 42; refine HO.out.mono ?_; rintro e w' ⟨rfl, rfl⟩) | (go_at_call 37; refine (must_ok _ _ _).mono ?_; rintro e w' ⟨rfl, rfl⟩))
  go_end0
  exact ⟨rfl, Fr.set1 _ _ _ _, HH.out.set (j := 0) (by omega) _ _ rfl (four (fun h => absurd rfl h) (fun _ => rfl) (fun _ => rfl) (fun _ => rfl))⟩

theorem hart_set_bad (on : Bool) (hz : (F i).nest ≠ 0) : Calls Try.prog 30 #[.pointer (some ⟨x, 0, none⟩), .int .i64 i, .bool on] w fun e w' => e = .panicked [{ v := .iface 40 (.agg #[.int .i64 9, .int .i64 i]), recovered := false }] ∧ w = w' := by
  have hz' : (((F i).nest : Int) == 0) = false := beq_eq_false_iff_ne.2 (by omega)
  clear hz
  have HO := Lib.hid (hart_of x g n F i w H hi)
  have c0 := H.c0 hi
  have c1 := H.c1 hi
  have c2 := H.c2 hi
  have c3 := H.c3 hi
  have fr := H.a.frozen
  have lt := H.a.lt
  have HH := Lib.hid H
  clear H hi
  go_enter Try.func30, Try.ntmps30
  go_wp2_with (first | (go_at_call 42; refine HO.out.mono ?_; rintro e w' ⟨rfl, rfl⟩) | (go_at_call 37; refine (must_no _ _ _).mono ?_; rintro e w' ⟨rfl, rfl⟩))
  exact ⟨rfl, rfl, rfl⟩

theorem hart_push0 (hz : (F i).nest = 0) : Calls Try.prog 24 #[.pointer (some ⟨x, 0, none⟩), .int .i64 i] w fun e w' => e = .returned (.tuple #[]) ∧ Fr (fun k => k = g) w w' ∧ HartsB w' x g n (upd F i ⟨false, (F i).on, 1, (F i).mail⟩) := by
  have e2 := H.c2 hi
  rw [hz] at e2
  have HO := Lib.hid (hart_of x g n F i w H hi)
  have c0 := H.c0 hi
  have c1 := H.c1 hi
  have c3 := H.c3 hi
  have fr := H.a.frozen
  have lt := H.a.lt
  have HH := Lib.hid H
  clear H hi
  go_enter Try.func24, Try.ntmps24
  go_wp2_with (go_at_call 42; refine HO.out.mono ?_; rintro e w' ⟨rfl, rfl⟩)
  go_end0
  refine ⟨rfl, (((Fr.refl (fun k => k = g) _).setCell (fun _ => rfl) _).setCell (fun _ => rfl) _).setCell (fun _ => rfl) _, ?_⟩
  have s1 := HH.out.set (j := 1) (i := i) (by omega) { F i with kept := (F i).on } _ rfl (four (fun _ => rfl) (fun h => absurd rfl h) (fun _ => rfl) (fun _ => rfl))
  have s2 := s1.set (j := 0) (i := i) (by omega) { F i with kept := (F i).on, on := false } _ rfl (by rw [upd_self]; exact four (fun h => absurd rfl h) (fun _ => rfl) (fun _ => rfl) (fun _ => rfl))
  have s3 := s2.set (j := 2) (i := i) (by omega) ⟨false, (F i).on, 1, (F i).mail⟩ _ rfl (by rw [upd_self]; exact four (fun _ => rfl) (fun _ => rfl) (fun h => absurd rfl h) (fun _ => rfl))
  rw [upd_upd, upd_upd] at s3
  exact s3

theorem hart_push1 (hz : (F i).nest ≠ 0) (hb : (F i).nest ≤ 1000) : Calls Try.prog 24 #[.pointer (some ⟨x, 0, none⟩), .int .i64 i] w fun e w' => e = .returned (.tuple #[]) ∧ Fr (fun k => k = g) w w' ∧ HartsB w' x g n (upd F i ⟨false, (F i).kept, (F i).nest + 1, (F i).mail⟩) := by
  have hz' : (((F i).nest : Int) == 0) = false := beq_eq_false_iff_ne.2 (by omega)
  have hz2 : ((F i).nest : Int) ≤ 1000 := by omega
  have hz3 : (0 : Int) ≤ ((F i).nest : Int) := by omega
  clear hz hb
  have HO := Lib.hid (hart_of x g n F i w H hi)
  have c0 := H.c0 hi
  have c1 := H.c1 hi
  have c2 := H.c2 hi
  have c3 := H.c3 hi
  have fr := H.a.frozen
  have lt := H.a.lt
  have HH := Lib.hid H
  clear H hi
  go_enter Try.func24, Try.ntmps24
  go_wp2_with (go_at_call 42; refine HO.out.mono ?_; rintro e w' ⟨rfl, rfl⟩)
  go_end0
  refine ⟨rfl, ((Fr.refl (fun k => k = g) _).setCell (fun _ => rfl) _).setCell (fun _ => rfl) _, ?_⟩
  have s2 := HH.out.set (j := 0) (i := i) (by omega) { F i with on := false } _ rfl (four (fun h => absurd rfl h) (fun _ => rfl) (fun _ => rfl) (fun _ => rfl))
  have s3 := s2.set (j := 2) (i := i) (by omega) ⟨false, (F i).kept, (F i).nest + 1, (F i).mail⟩ (.int .i64 ((F i).nest + 1)) (by show Value.int .i64 (((F i).nest + 1 : Nat) : Int) = _; go_num) (by rw [upd_self]; exact four (fun _ => rfl) (fun _ => rfl) (fun h => absurd rfl h) (fun _ => rfl))
  rw [upd_upd] at s3
  exact s3

theorem hart_pop_bad (hz : (F i).nest = 0) : Calls Try.prog 25 #[.pointer (some ⟨x, 0, none⟩), .int .i64 i] w fun e w' => e = .panicked [{ v := .iface 40 (.agg #[.int .i64 4, .int .i64 i]), recovered := false }] ∧ w = w' := by
  have e2 := H.c2 hi
  rw [hz] at e2
  have HO := Lib.hid (hart_of x g n F i w H hi)
  have c0 := H.c0 hi
  have c1 := H.c1 hi
  have c3 := H.c3 hi
  have fr := H.a.frozen
  have lt := H.a.lt
  have HH := Lib.hid H
  clear H hi
  go_enter Try.func25, Try.ntmps25
  go_wp2_with (first | (go_at_call 42; refine HO.out.mono ?_; rintro e w' ⟨rfl, rfl⟩) | (go_at_call 37; refine (must_no _ _ _).mono ?_; rintro e w' ⟨rfl, rfl⟩))
  exact ⟨rfl, rfl, rfl⟩

theorem hart_pop1 (hz : (F i).nest = 1) : Calls Try.prog 25 #[.pointer (some ⟨x, 0, none⟩), .int .i64 i] w fun e w' => e = .returned (.tuple #[]) ∧ Fr (fun k => k = g) w w' ∧ HartsB w' x g n (upd F i ⟨(F i).kept, (F i).kept, 0, (F i).mail⟩) := by
  have e2 := H.c2 hi
  rw [hz] at e2
  have HO := Lib.hid (hart_of x g n F i w H hi)
  have c0 := H.c0 hi
  have c1 := H.c1 hi
  have c3 := H.c3 hi
  have fr := H.a.frozen
  have lt := H.a.lt
  have HH := Lib.hid H
  clear H hi
  go_enter Try.func25, Try.ntmps25
  go_wp2_with (first | (go_at_call 42; refine HO.out.mono ?_; rintro e w' ⟨rfl, rfl⟩) | (go_at_call 37; refine (must_ok _ _ _).mono ?_; rintro e w' ⟨rfl, rfl⟩))
  go_end0
  refine ⟨rfl, ((Fr.refl (fun k => k = g) _).setCell (fun _ => rfl) _).setCell (fun _ => rfl) _, ?_⟩
  have s2 := HH.out.set (j := 2) (i := i) (by omega) { F i with nest := 0 } (.int .i64 0) rfl (four (fun _ => rfl) (fun _ => rfl) (fun h => absurd rfl h) (fun _ => rfl))
  have s3 := s2.set (j := 0) (i := i) (by omega) ⟨(F i).kept, (F i).kept, 0, (F i).mail⟩ (.bool (F i).kept) rfl (by rw [upd_self]; exact four (fun h => absurd rfl h) (fun _ => rfl) (fun _ => rfl) (fun _ => rfl))
  rw [upd_upd] at s3
  exact s3

theorem hart_pop2 (hz : 2 ≤ (F i).nest) (hb : (F i).nest ≤ 1000) : Calls Try.prog 25 #[.pointer (some ⟨x, 0, none⟩), .int .i64 i] w fun e w' => e = .returned (.tuple #[]) ∧ Fr (fun k => k = g) w w' ∧ HartsB w' x g n (upd F i { F i with nest := (F i).nest - 1 }) := by
  have hz' : (((F i).nest : Int) - 1 == 0) = false := beq_eq_false_iff_ne.2 (by omega)
  have hz7 : 0 < (F i).nest := by omega
  have hz5 : (((F i).nest : Int) == 1) = false := beq_eq_false_iff_ne.2 (by omega)
  have hz6 : ((F i).nest == 1) = false := beq_eq_false_iff_ne.2 (by omega)
  have hz2 : ((F i).nest : Int) ≤ 1000 := by omega
  have hz3 : (2 : Int) ≤ ((F i).nest : Int) := by omega
  have hz4 : (0 : Int) < ((F i).nest : Int) := by omega
  have HZ := Lib.hid (show ((F i).nest : Int) - 1 = (((F i).nest - 1 : Nat) : Int) by omega)
  clear hz hb
  have HO := Lib.hid (hart_of x g n F i w H hi)
  have c0 := H.c0 hi
  have c1 := H.c1 hi
  have c2 := H.c2 hi
  have c3 := H.c3 hi
  have fr := H.a.frozen
  have lt := H.a.lt
  have HH := Lib.hid H
  clear H hi
  go_enter Try.func25, Try.ntmps25
  go_wp2_with (first | (go_at_call 42; refine HO.out.mono ?_; rintro e w' ⟨rfl, rfl⟩) | (go_at_call 37; refine (must_ok _ _ _).mono ?_; rintro e w' ⟨rfl, rfl⟩))
  go_end0
  refine ⟨rfl, Fr.set1 _ _ _ _, HH.out.set (j := 2) (i := i) (by omega) { F i with nest := (F i).nest - 1 } (.int .i64 ((F i).nest - 1)) (congrArg (Value.int .i64) HZ.out.symm) (four (fun _ => rfl) (fun _ => rfl) (fun h => absurd rfl h) (fun _ => rfl))⟩

end
end Go.Proofs.Ytkclbgoagcpckaa
