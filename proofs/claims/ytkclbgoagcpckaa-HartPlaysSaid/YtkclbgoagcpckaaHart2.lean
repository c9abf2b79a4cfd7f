import Derived.Test.YtkclbgoagcpckaaHart
import Derived.Test.YtkclbgoagcpckaaHarP
namespace Go.Proofs.Ytkclbgoagcpckaa
open Go.RowKit

section
variable (x g n : Nat) (F : Nat → HOne) (i : Nat) (w : World) (H : HartsB w x g n F) (hi : i < n)
include H hi

theorem hart_due : Calls Try.prog 33 #[.pointer (some ⟨x, 0, none⟩), .int .i64 i] w fun e w' => e = .returned (.bool ((F i).on && decide ((F i).mail ≠ 0))) ∧ w = w' := by
  have HO := Lib.hid (hart_of x g n F i w H hi)
  have c0 := H.c0 hi
  have c3 := H.c3 hi
  have fr := H.a.frozen
  have lt := H.a.lt
  have HH := Lib.hid H
  clear H hi
  by_cases ho : (F i).on = true
  · rw [ho] at c0
    by_cases hz : (F i).mail = 0
    · rw [hz] at c3
      have E := Lib.hid (show ((F i).on && decide ((F i).mail ≠ 0)) = false by simp [hz])
      clear ho hz
      go_enter Try.func33, Try.ntmps33
      go_wp2_with (go_at_call 42; refine HO.out.mono ?_; rintro e w' ⟨rfl, rfl⟩)
      go_ret
      rw [E.out]
      exact ⟨rfl, rfl⟩
    · have hz1 : (((F i).mail : Int) != 0) = true := bne_iff_ne.2 (by omega)
      have hz2 : ((F i).mail != 0) = true := bne_iff_ne.2 hz
      have E := Lib.hid (show ((F i).on && decide ((F i).mail ≠ 0)) = true by simp [hz, ho])
      clear ho hz
      go_enter Try.func33, Try.ntmps33
      go_wp2_with (go_at_call 42; refine HO.out.mono ?_; rintro e w' ⟨rfl, rfl⟩)
      go_ret
      rw [E.out]
      exact ⟨rfl, rfl⟩
  · have ho' : (F i).on = false := by simpa using ho
    rw [ho'] at c0
    have E := Lib.hid (show ((F i).on && decide ((F i).mail ≠ 0)) = false by simp [ho'])
    clear ho ho'
    go_enter Try.func33, Try.ntmps33
    go_wp2_with (go_at_call 42; refine HO.out.mono ?_; rintro e w' ⟨rfl, rfl⟩)
    go_ret
    rw [E.out]
    exact ⟨rfl, rfl⟩
end

section
variable (x g n : Nat) (F : Nat → HOne) (i : Nat) (w : World) (H : HartsB w x g n F) (hi : i < n)
include H hi
theorem hart_on_eq {v : Bool} (hv : (F i).on = v) : Calls Try.prog 26 #[.pointer (some ⟨x, 0, none⟩), .int .i64 i] w fun e w' => e = .returned (.bool v) ∧ w = w' := hv ▸ hart_on x g n F i w H hi
theorem hart_nest_eq {v : Int} (hv : ((F i).nest : Int) = v) : Calls Try.prog 31 #[.pointer (some ⟨x, 0, none⟩), .int .i64 i] w fun e w' => e = .returned (.int .i64 v) ∧ w = w' := hv ▸ hart_nest x g n F i w H hi
theorem hart_due_eq {v : Bool} (hv : ((F i).on && decide ((F i).mail ≠ 0)) = v) : Calls Try.prog 33 #[.pointer (some ⟨x, 0, none⟩), .int .i64 i] w fun e w' => e = .returned (.bool v) ∧ w = w' := hv ▸ hart_due x g n F i w H hi
end

theorem hart_n (x g n : Nat) (F : Nat → HOne) (w : World) (H : HartsB w x g n F) : Calls Try.prog 36 #[.pointer (some ⟨x, 0, none⟩)] w fun e w' => e = .returned (.int .i64 n) ∧ w = w' := by
  have h0 := H.h.cell 0
  clear H
  go_enter Try.func36, Try.ntmps36
  go_wp2
  go_ret
  exact ⟨rfl, rfl⟩
end Go.Proofs.Ytkclbgoagcpckaa
