import Derived.Test.YtkclbgoagcpckaaHarB
namespace Go.Proofs.Ytkclbgoagcpckaa
open Go.RowKit

section
variable (x g n : Nat) (F : Nat → HOne) (i : Nat) (w : World) (H : HartsB w x g n F) (hi : i < n)
include H hi

theorem hart_post (m : Nat) (hm : m < 8) (hb : (F i).mail < 256) : Calls Try.prog 28 #[.pointer (some ⟨x, 0, none⟩), .int .i64 i, .int .i64 m] w fun e w' => e = .returned (.tuple #[]) ∧ Fr (fun k => k = g) w w' ∧ HartsB w' x g n (upd F i { F i with mail := putb (F i).mail m }) := by
  have hm1 : (0 : Int) ≤ m := by omega
  have hm2 : (m : Int) < 8 := by omega
  have HM := Lib.hid hm
  have HB := Lib.hid hb
  clear hm hb
  have HO := Lib.hid (hart_of x g n F i w H hi)
  have c0 := H.c0 hi
  have c3 := H.c3 hi
  have fr := H.a.frozen
  have lt := H.a.lt
  have HH := Lib.hid H
  clear H hi
  go_enter Try.func28, Try.ntmps28
  go_wp2_with (first | (go_at_call 42; refine HO.out.mono ?_; rintro e w' ⟨rfl, rfl⟩) | (go_at_call 37; refine (must_ok _ _ _).mono ?_; rintro e w' ⟨rfl, rfl⟩))
  go_end0
  have e := or_pow _ m HB.out HM.out
  refine ⟨rfl, Fr.set1 _ _ _ _, HH.out.set (j := 3) (i := i) (by omega) { F i with mail := putb (F i).mail m } _ ?_ (four (fun _ => rfl) (fun _ => rfl) (fun _ => rfl) (fun h => absurd rfl h))⟩
  rw [e]
  rfl

theorem hart_post_bad (m : Int) (hm : m < 0 ∨ 8 ≤ m) : Calls Try.prog 28 #[.pointer (some ⟨x, 0, none⟩), .int .i64 i, .int .i64 m] w fun e w' => e = .panicked [{ v := .iface 40 (.agg #[.int .i64 9, .int .i64 m]), recovered := false }] ∧ w = w' := by
  have HO := Lib.hid (hart_of x g n F i w H hi)
  have c0 := H.c0 hi
  have c3 := H.c3 hi
  have fr := H.a.frozen
  have lt := H.a.lt
  have HH := Lib.hid H
  clear H hi
  rcases hm with hm | hm
  · go_enter Try.func28, Try.ntmps28
    go_wp2_with (first | (go_at_call 42; refine HO.out.mono ?_; rintro e w' ⟨rfl, rfl⟩) | (go_at_call 37; refine (must_no _ _ _).mono ?_; rintro e w' ⟨rfl, rfl⟩))
    exact ⟨rfl, rfl, rfl⟩
  · have h0 : 0 ≤ m := by omega
    have h1 : decide (m < 8) = false := decide_eq_false (by omega)
    go_enter Try.func28, Try.ntmps28
    go_wp2_with (first | (go_at_call 42; refine HO.out.mono ?_; rintro e w' ⟨rfl, rfl⟩) | (go_at_call 37; refine (must_no _ _ _).mono ?_; rintro e w' ⟨rfl, rfl⟩))
    exact ⟨rfl, rfl, rfl⟩

theorem hart_take_none (hz : (F i).mail = 0) : Calls Try.prog 29 #[.pointer (some ⟨x, 0, none⟩), .int .i64 i] w fun e w' => e = .returned (.tuple #[.int .i64 0, .bool false]) ∧ w = w' := by
  have e3 : w.cell? ⟨g, i * 4 + 3, none⟩ = some (.int .u8 0) := by rw [H.c3 hi, hz]; rfl
  clear hz
  have HO := Lib.hid (hart_of x g n F i w H hi)
  have c0 := H.c0 hi
  have fr := H.a.frozen
  have lt := H.a.lt
  have HH := Lib.hid H
  clear H hi
  go_enter Try.func29, Try.ntmps29
  go_wp2_with (go_at_call 42; refine HO.out.mono ?_; rintro e w' ⟨rfl, rfl⟩)
  go_ret2
  exact ⟨rfl, rfl⟩

theorem hart_take (hz : (F i).mail ≠ 0) (hb : (F i).mail < 256) : Calls Try.prog 29 #[.pointer (some ⟨x, 0, none⟩), .int .i64 i] w fun e w' => e = .returned (.tuple #[.int .i64 (tzn (F i).mail : Nat), .bool true]) ∧ Fr (fun k => k = g) w w' ∧ HartsB w' x g n (upd F i { F i with mail := takeb (F i).mail (tzn (F i).mail) }) := by
  have hz1 : (((F i).mail : Int) == 0) = false := beq_eq_false_iff_ne.2 (by omega)
  have hz2 : ((F i).mail == 0) = false := beq_eq_false_iff_ne.2 hz
  have htl := tzn_lt _ hz hb
  have HB := Lib.hid hb
  have HTL := Lib.hid htl
  have ht := fun w => tz8 (F i).mail hb w
  have HT := Lib.hid ht
  obtain ⟨q, hq⟩ : ∃ q, q = tzn (F i).mail := ⟨_, rfl⟩
  rw [← hq] at HT HTL
  have q1 : (0 : Int) ≤ q := by omega
  have q2 : (q : Int) < 8 := by have := HTL.out; omega
  have HQ := Lib.hid hq
  clear hz hb htl ht hq
  have HO := Lib.hid (hart_of x g n F i w H hi)
  have c0 := H.c0 hi
  have c3 := H.c3 hi
  have fr := H.a.frozen
  have lt := H.a.lt
  have HH := Lib.hid H
  clear H hi
  go_enter Try.func29, Try.ntmps29
  go_wp2_with (first | (go_at_call 42; refine HO.out.mono ?_; rintro e w' ⟨rfl, rfl⟩) | (go_at_call 43; refine (HT.out _).mono ?_; rintro e w' ⟨rfl, rfl⟩))
  go_ret2
  have e := andnot_pow _ q HB.out HTL.out
  rw [← HQ.out]
  refine ⟨rfl, Fr.set1 _ _ _ _, HH.out.set (j := 3) (i := i) (by omega) { F i with mail := takeb (F i).mail q } _ ?_ (four (fun _ => rfl) (fun _ => rfl) (fun _ => rfl) (fun h => absurd rfl h))⟩
  rw [e]
  rfl

theorem hart_take_eq {v : Int} {q : Nat} (hz : (F i).mail ≠ 0) (hb : (F i).mail < 256) (hq : tzn (F i).mail = q) (hv : (q : Int) = v) : Calls Try.prog 29 #[.pointer (some ⟨x, 0, none⟩), .int .i64 i] w fun e w' => e = .returned (.tuple #[.int .i64 v, .bool true]) ∧ Fr (fun k => k = g) w w' ∧ HartsB w' x g n (upd F i { F i with mail := takeb (F i).mail q }) := by
  subst hv
  subst hq
  exact hart_take x g n F i w H hi hz hb
end
end Go.Proofs.Ytkclbgoagcpckaa
