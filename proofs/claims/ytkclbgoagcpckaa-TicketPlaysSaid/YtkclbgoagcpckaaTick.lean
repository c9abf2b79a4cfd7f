import Derived.Test.YtkclbgoagcpckaaMemx
import Derived.Test.YtkclbgoagcpckaaHaltB
import Derived.Deep.RegionHeld3
import Derived.RegionTactic
import Derived.IntWalk
import Derived.RegionDies
namespace Go.Proofs.Ytkclbgoagcpckaa
open Go.RowKit

/-- a try: of the lock at a, where it is, its ticket -/
abbrev TryB (w : World) (t : Nat) (a at_ tk : Int) : Prop := Blk w t #[.int .i64 a, .int .i64 at_, .int .i64 tk] 66

theorem try_new (a : Int) (w : World) :
    Calls Try.prog 13 #[.int .i64 a] w fun e w' => e = .returned (.pointer (some ⟨w.heap.size, 0, none⟩)) ∧ Fr (fun _ => False) w w' ∧ TryB w' w.heap.size a 0 (-1) ∧ w'.heap.size = w.heap.size + 1 := by
  go_enter Try.func13, Try.ntmps13
  go_wp2
  go_ret
  exact ⟨rfl, (Fr.refl _ _).alloc _, Blk.at_new rfl, by simp⟩

theorem try_at (t : Nat) (a at_ tk : Int) (w : World) (h : TryB w t a at_ tk) :
    Calls Try.prog 16 #[.pointer (some ⟨t, 0, none⟩)] w fun e w' => e = .returned (.int .i64 at_) ∧ w' = w := by
  have c0 := h.cell 1
  clear h
  go_enter Try.func16, Try.ntmps16
  go_wp2
  go_ret
  exact ⟨rfl, rfl⟩

theorem try_ticket (t : Nat) (a at_ tk : Int) (w : World) (h : TryB w t a at_ tk) :
    Calls Try.prog 17 #[.pointer (some ⟨t, 0, none⟩)] w fun e w' => e = .returned (.int .i64 tk) ∧ w' = w := by
  have c0 := h.cell 2
  clear h
  go_enter Try.func17, Try.ntmps17
  go_wp2
  go_ret
  exact ⟨rfl, rfl⟩

section
variable (t m g n : Nat) (V : Nat → Int) (c : Int) (a : Nat) (tk : Int) (w : World) (M : Mem w m g n V c) (hc : 0 ≤ c ∧ c ≤ 1000000)
include M hc

theorem step_fresh (h : TryB w t a 0 tk) (ha : a < n) :
    Calls Try.prog 14 #[.pointer (some ⟨t, 0, none⟩), .pointer (some ⟨m, 0, none⟩)] w fun e w' => e = .returned (.bool false) ∧ Fr (fun k => k = t ∨ k = m ∨ k = g) w w' ∧ TryB w' t a 1 (V a) ∧ Mem w' m g n (upd V a (wadd (V a) 1)) (c + 1) := by
  have c0 := h.cell 0
  have c1 := h.cell 1
  have dm : t ≠ m := h.ne M.h (.inr (by decide))
  have dg : g ≠ t := M.a.ne h (by decide)
  have HA := Lib.hid (mem_add m g n V c a w M ha hc 1)
  have HT := Lib.hid h
  clear M hc h ha
  go_enter Try.func14, Try.ntmps14
  go_wp2_with (go_at_call 38; refine HA.out.mono ?_; rintro e w1 ⟨rfl, f, M⟩; have F := Lib.hid f; have M' := Lib.hid M; have t' := HT.out.fr f (by omega); have T' := Lib.hid t'; have d0 := t'.cell 0; have d1 := t'.cell 1; have d2 := t'.cell 2; have df := t'.frozen; have dl := t'.lt; clear f M t')
  go_ret
  refine ⟨rfl, ?_, (T'.out.set 2 _).set 1 _, (M'.out.other (by dsimp only; omega) (by dsimp only; omega) _).other (by dsimp only; omega) (by dsimp only; omega) _⟩
  exact ((Fr.mono (T := fun k => k = t ∨ k = m ∨ k = g) F.out (fun _ _ h => .inr h)).setCell (fun _ => .inl rfl) _).setCell (fun _ => .inl rfl) _

theorem step_waits (h : TryB w t a 1 tk) (ha : a + 1 < n) (hn : n ≤ 4096) :
    Calls Try.prog 14 #[.pointer (some ⟨t, 0, none⟩), .pointer (some ⟨m, 0, none⟩)] w fun e w' => e = .returned (.bool (decide (V (a + 1) = tk))) ∧ Fr (fun k => k = t ∨ k = m) w w' ∧ TryB w' t a (if V (a + 1) = tk then 2 else 1) tk ∧ Mem w' m g n V (c + 1) := by
  have c0 := h.cell 0
  have c1 := h.cell 1
  have c2 := h.cell 2
  have dm : t ≠ m := h.ne M.h (.inr (by decide))
  have dg : g ≠ t := M.a.ne h (by decide)
  have hA := mem_load m g n V c (a + 1) w.drew M.drew ha hc
  have ec : ((a + 1 : Nat) : Int) = (a : Int) + 1 := by omega
  rw [ec] at hA
  have HA := Lib.hid hA
  have HT := Lib.hid h
  have hw : IntKind.i64.wrap ((a : Int) + 1) = (a : Int) + 1 := IntWalk.i64_in _ (by omega)
  clear M hc h ha hA ec
  by_cases hv : V (a + 1) = tk
  · subst hv
    go_enter Try.func14, Try.ntmps14
    go_wp2_with fail
    go_region_held3 (fun w' => w'.cell? ⟨t, 0, none⟩ = some (.int .i64 a) ∧ w'.cell? ⟨t, 2, none⟩ = some (.int .i64 (V (a + 1)))) (first | exact ⟨by assumption, by assumption⟩)
      (first | (go_at_call 22; refine HA.out.mono ?_; rintro e w1 ⟨rfl, f, M⟩; have F := Lib.hid f; have M' := Lib.hid M; have t' := HT.out.drew.fr f dm; have T' := Lib.hid t'; have d0 := t'.cell 0; have d1 := t'.cell 1; have d2 := t'.cell 2; have df := t'.frozen; have dl := t'.lt; clear f M t'))
    go_wp2_with fail
    go_ret
    refine ⟨by simp, ?_, by simpa using T'.out.set 1 (.int .i64 2), M'.out.other (by dsimp only; omega) (by dsimp only; omega) _⟩
    exact (((Fr.refl (fun k => k = t ∨ k = m) _).drew.step F.out (fun _ _ h => .inr h)).setCell (fun _ => .inl rfl) _)
  · have hv' : (V (a + 1) == tk) = false := beq_eq_false_iff_ne.2 hv
    go_enter Try.func14, Try.ntmps14
    go_wp2_with fail
    go_region_held3 (fun w' => w'.cell? ⟨t, 0, none⟩ = some (.int .i64 a) ∧ w'.cell? ⟨t, 2, none⟩ = some (.int .i64 tk)) (first | exact ⟨by assumption, by assumption⟩)
      (first | (go_at_call 22; refine HA.out.mono ?_; rintro e w1 ⟨rfl, f, M⟩; have F := Lib.hid f; have M' := Lib.hid M; have t' := HT.out.drew.fr f dm; have T' := Lib.hid t'; have d0 := t'.cell 0; have d1 := t'.cell 1; have d2 := t'.cell 2; have df := t'.frozen; have dl := t'.lt; clear f M t'))
    go_wp2_with fail
    go_ret
    refine ⟨by simp, ?_, by simpa [hv] using T'.out, M'.out⟩
    exact ((Fr.refl (fun k => k = t ∨ k = m) _).drew.step F.out (fun _ _ h => .inr h))

theorem leave_ok (h : TryB w t a 2 tk) (ha : a + 1 < n) (hn : n ≤ 4096) :
    Calls Try.prog 15 #[.pointer (some ⟨t, 0, none⟩), .pointer (some ⟨m, 0, none⟩)] w fun e w' => e = .returned (.tuple #[]) ∧ Fr (fun k => k = t ∨ k = m ∨ k = g) w w' ∧ TryB w' t a 3 tk ∧ Mem w' m g n (upd V (a + 1) (wadd (V (a + 1)) 1)) (c + 1) := by
  have c0 := h.cell 0
  have c1 := h.cell 1
  have dm : t ≠ m := h.ne M.h (.inr (by decide))
  have dg : g ≠ t := M.a.ne h (by decide)
  have hA := mem_add m g n V c (a + 1) w.drew M.drew ha hc 1
  have ec : ((a + 1 : Nat) : Int) = (a : Int) + 1 := by omega
  rw [ec] at hA
  have HA := Lib.hid hA
  have HT := Lib.hid h
  have ha1 : (a : Int) ≤ 4096 := by omega
  clear M hc h ha hA ec
  go_enter Try.func15, Try.ntmps15
  go_wp2_with fail
  go_region_held3 (fun w' => w'.cell? ⟨t, 0, none⟩ = some (.int .i64 a) ∧ w'.cell? ⟨t, 1, none⟩ = some (.int .i64 2)) (first | exact ⟨by assumption, by assumption⟩)
    (first | (go_at_call 37; refine (must_true _ _ _).mono ?_; rintro e w1 ⟨rfl, rfl⟩; have z0 := HT.out.drew.cell 0; have z1 := HT.out.drew.cell 1))
  go_wp2_with (go_at_call 38; refine HA.out.mono ?_; rintro e w1 ⟨rfl, f, M⟩; have F := Lib.hid f; have M' := Lib.hid M; have t' := HT.out.drew.fr f (by omega); have T' := Lib.hid t'; have d0 := t'.cell 0; have d1 := t'.cell 1; have d2 := t'.cell 2; have df := t'.frozen; have dl := t'.lt; clear f M t')
  go_end0
  refine ⟨rfl, ?_, T'.out.set 1 _, M'.out.other (by dsimp only; omega) (by dsimp only; omega) _⟩
  exact (((Fr.refl (fun k => k = t ∨ k = m ∨ k = g) _).drew.step F.out (fun _ _ h => .inr h)).setCell (fun _ => .inl rfl) _)
end

theorem step_holds (t m : Nat) (a tk : Int) (w : World) (h : TryB w t a 2 tk) :
    Calls Try.prog 14 #[.pointer (some ⟨t, 0, none⟩), .pointer (some ⟨m, 0, none⟩)] w fun e w' => e = .returned (.bool true) ∧ w' = w := by
  have c0 := h.cell 0
  have c1 := h.cell 1
  clear h
  go_enter Try.func14, Try.ntmps14
  go_wp2
  go_ret
  exact ⟨rfl, rfl⟩

theorem step_done (t m : Nat) (a tk : Int) (w : World) (h : TryB w t a 3 tk) :
    Calls Try.prog 14 #[.pointer (some ⟨t, 0, none⟩), .pointer (some ⟨m, 0, none⟩)] w fun e w' => e = .panicked [{ v := .iface 40 (.agg #[.int .i64 9, .int .i64 a]), recovered := false }] ∧ w' = w := by
  have c0 := h.cell 0
  have c1 := h.cell 1
  clear h
  go_enter Try.func14, Try.ntmps14
  go_wp2_with (go_at_call 39; refine (stop_any _ _ _).mono ?_; rintro e w' ⟨rfl, rfl⟩)
  exact ⟨rfl, rfl, rfl⟩

theorem leave_bad (t m : Nat) (a at_ tk : Int) (w : World) (h : TryB w t a at_ tk) (h2 : at_ ≠ 2) :
    Calls Try.prog 15 #[.pointer (some ⟨t, 0, none⟩), .pointer (some ⟨m, 0, none⟩)] w fun e w' => Tame (.stop 6 a) e ∧ Fr (fun _ => False) w w' := by
  have c0 := h.cell 0
  have c1 := h.cell 1
  have hb : (at_ == 2) = false := beq_eq_false_iff_ne.2 h2
  clear h h2
  go_enter Try.func15, Try.ntmps15
  go_wp2_with fail
  go_region_dies
  all_goals
    refine (must_false _ _ _).mono ?_
    rintro e w1 ⟨rfl, rfl⟩
    exact ⟨rfl, ⟨[], rfl, rfl⟩, (Fr.refl _ _).drew⟩
end Go.Proofs.Ytkclbgoagcpckaa
