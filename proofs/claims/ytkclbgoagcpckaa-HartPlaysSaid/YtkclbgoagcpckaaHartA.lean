import Derived.Test.YtkclbgoagcpckaaHart2
import Derived.Test.YtkclbgoagcpckaaGuard
namespace Go.Proofs.Ytkclbgoagcpckaa
open Go.RowKit

/-- two harts -/
def hh (a b : HOne) (i : Nat) : HOne := if i = 0 then a else b

structure HRun (w0 : World) (x g bx : Nat) (a b : HOne) (w : World) : Prop where
  H : HartsB w x g 2 (hh a b)
  B : Blk w bx #[.pointer (some ⟨x, 0, none⟩)] 45
  F : Fr (fun _ => False) w0 w
  d : bx ≠ g ∧ w0.heap.size ≤ x ∧ w0.heap.size ≤ g ∧ w0.heap.size ≤ bx

section
variable {w0 : World} {x g bx : Nat} {a b : HOne} {w : World} (h : HRun w0 x g bx a b w)
include h
theorem HRun.s0 {w' : World} {c : HOne} (f : Fr (fun k => k = g) w w') (H : HartsB w' x g 2 (upd (hh a b) 0 c)) : HRun w0 x g bx c b w' :=
  ⟨H.congr fun i hi => by match i, hi with
    | 0, _ => rfl
    | 1, _ => rfl, h.B.fr f h.d.1, h.F.step f (fun k hk hs => by have := h.d; omega), h.d⟩
theorem HRun.s1 {w' : World} {c : HOne} (f : Fr (fun k => k = g) w w') (H : HartsB w' x g 2 (upd (hh a b) 1 c)) : HRun w0 x g bx a c w' :=
  ⟨H.congr fun i hi => by match i, hi with
    | 0, _ => rfl
    | 1, _ => rfl, h.B.fr f h.d.1, h.F.step f (fun k hk hs => by have := h.d; omega), h.d⟩
theorem HRun.fr {w' : World} (f : Fr (fun _ => False) w w') : HRun w0 x g bx a b w' := ⟨h.H.fr f id id, h.B.fr f id, h.F.trans f, h.d⟩
theorem HRun.alloc (o : Obj) : HRun w0 x g bx a b (w.alloc o) := ⟨h.H.alloc o, h.B.alloc o, h.F.alloc o, h.d⟩
end

theorem hartRuns1 (x g bx n : Nat) (F : Nat → HOne) (w : World) (H : HartsB w x g n F) (B : Blk w bx #[.pointer (some ⟨x, 0, none⟩)] 45) (hn : 0 < n) (hz : (F 0).nest = 0) :
    Calls Try.prog 27 #[.pointer (some ⟨bx, 0, none⟩)] w fun e w' => Tame (.stop 4 0) e ∧ Fr (fun _ => False) w w' := by
  have b0 := B.cell 0
  have HP := Lib.hid (hart_pop_bad x g n F 0 w H hn hz)
  clear H B hz hn
  go_enter Try.func27, Try.ntmps27
  go_wp2_with (go_at_call 25; refine HP.out.mono ?_; rintro e w' ⟨rfl, rfl⟩)
  exact ⟨rfl, ⟨[], rfl, rfl⟩, Fr.refl _ _⟩

set_option maxHeartbeats 2000000 in
set_option maxRecDepth 100000 in
theorem hartRuns_any (w : World) : Calls Try.prog 8 #[] w fun e w' => e = .returned (.bool true) ∧ Fr (fun _ => False) w w' := by
  have hmf : ∀ (fn : Fn) (first cap : Array Value) (w : World), (Instr.makeFunc fn first cap).run Try.prog w = .ok (.func fn first cap) w := fun _ _ _ _ => rfl
  go_enter Try.func8, Try.ntmps8
  go_wp2_with fail
  refine (hart_new 2 (by omega) _).mono ?_
  rintro e w1 ⟨rfl, f1, H1⟩
  have ls := H1.h.lt
  have h2 : HRun w (w.heap.size + 1) w.heap.size w1.heap.size ⟨true, false, 0, 0⟩ ⟨true, false, 0, 0⟩ (w1.alloc (.cells #[.pointer (some ⟨w.heap.size + 1, 0, none⟩)] 45)) :=
    ⟨(H1.alloc _).congr fun i _ => by unfold hh; split <;> rfl, Blk.at_new rfl, f1.alloc _, by omega⟩
  obtain ⟨x, hx⟩ : ∃ x, x = w.heap.size + 1 := ⟨_, rfl⟩
  obtain ⟨g, hg⟩ : ∃ g, g = w.heap.size := ⟨_, rfl⟩
  rw [← hx, ← hg] at h2
  rw [← hx]
  clear f1 H1 ls hx hg
  go_wp2_with fail
  obtain ⟨bx, hbx⟩ : ∃ bx, bx = w1.heap.size := ⟨_, rfl⟩
  rw [← hbx] at h2
  rw [← hbx]
  generalize (w1.alloc (.cells #[.pointer (some ⟨x, 0, none⟩)] 45)) = w2 at *
  have H2 := Lib.hid h2
  have b2 := h2.B.cell 0
  clear h2 hbx
  go_wp2_with fail
  refine (hart_push0 x g 2 _ 0 w2 H2.out.H (by omega) rfl).mono ?_
  rintro e w3 ⟨rfl, f, h⟩
  have H3 := Lib.hid (show HRun w x g bx ⟨false, true, 1, 0⟩ ⟨true, false, 0, 0⟩ w3 from H2.out.s0 f h)
  have b3 := H3.out.B.cell 0
  clear f h H2 b2
  go_wp2_with fail
  refine (hart_push1 x g 2 _ 0 w3 H3.out.H (by omega) (by decide) (by decide)).mono ?_
  rintro e w4 ⟨rfl, f, h⟩
  have H4 := Lib.hid (show HRun w x g bx ⟨false, true, 2, 0⟩ ⟨true, false, 0, 0⟩ w4 from H3.out.s0 f h)
  have b4 := H4.out.B.cell 0
  clear f h H3 b3
  go_wp2_with fail
  refine (hart_pop2 x g 2 _ 0 w4 H4.out.H (by omega) (by decide) (by decide)).mono ?_
  rintro e w5 ⟨rfl, f, h⟩
  have H5 := Lib.hid (show HRun w x g bx ⟨false, true, 1, 0⟩ ⟨true, false, 0, 0⟩ w5 from H4.out.s0 f h)
  have b5 := H5.out.B.cell 0
  clear f h H4 b4
  go_wp2_with fail
  refine (hart_on_eq x g 2 _ 0 w5 H5.out.H (by omega) (v := false) rfl).mono ?_
  rintro e w' ⟨rfl, rfl⟩
  go_wp2_with fail
  refine (hart_pop1 x g 2 _ 0 w5 H5.out.H (by omega) rfl).mono ?_
  rintro e w6 ⟨rfl, f, h⟩
  have H6 := Lib.hid (show HRun w x g bx ⟨true, true, 0, 0⟩ ⟨true, false, 0, 0⟩ w6 from H5.out.s0 f h)
  have b6 := H6.out.B.cell 0
  clear f h H5 b5
  go_wp2_with fail
  refine (hart_on_eq x g 2 _ 0 w6 H6.out.H (by omega) (v := true) rfl).mono ?_
  rintro e w' ⟨rfl, rfl⟩
  go_wp2_with fail
  refine (guard_idle 27 _ w6 (.stop 4 0) (fun w => by simp [go_sem]) (hartRuns1 x g bx 2 _ _ (H6.out.H.fr (gworld_fr _ (fun _ => False)) id id) (H6.out.B.fr (gworld_fr _ (fun _ => False)) id) (by omega) rfl)).mono ?_
  rintro e w7 ⟨rfl, f⟩
  have H7 := Lib.hid ((H6.out.fr f).alloc (.cells #[.int .i64 4, .int .i64 0] 40))
  have S7 := Lib.hid (Blk.new w7 #[.int .i64 4, .int .i64 0] 40)
  simp only [Stp.why_s, Stp.at_s, Stp.is_s]
  have b7 := (H6.out.fr f).B.cell 0
  have l7 := (H6.out.fr f).B.lt
  have g7 := (H6.out.fr f).H.a.lt
  clear f H6 b6
  go_wp2_with fail
  obtain ⟨bs, hbs⟩ : ∃ bs, bs = w7.heap.size := ⟨_, rfl⟩
  rw [← hbs] at S7
  rw [← hbs]
  have dbs := Lib.hid (show bs ≠ g by omega)
  generalize (w7.alloc (.cells #[.int .i64 4, .int .i64 0] 40)) = w8 at *
  clear b7 l7 g7 hbs
  have H8 := H7
  have S8 := S7
  have b8 := H8.out.B.cell 0
  clear H7 S7
  refine (hart_post x g 2 _ 1 w8 H8.out.H (by omega) 5 (by omega) (by decide)).mono ?_
  rintro e w9 ⟨rfl, f, h⟩
  have H9 := Lib.hid (show HRun w x g bx ⟨true, true, 0, 0⟩ ⟨true, false, 0, 32⟩ w9 from H8.out.s1 f h)
  have S9 := Lib.hid (S8.out.fr f dbs.out)
  have b9 := H9.out.B.cell 0
  clear f h H8 b8 S8
  go_wp2_with fail
  refine (hart_post x g 2 _ 1 w9 H9.out.H (by omega) 2 (by omega) (by decide)).mono ?_
  rintro e w10 ⟨rfl, f, h⟩
  have H10 := Lib.hid (show HRun w x g bx ⟨true, true, 0, 0⟩ ⟨true, false, 0, 36⟩ w10 from H9.out.s1 f h)
  have S10 := Lib.hid (S9.out.fr f dbs.out)
  have b10 := H10.out.B.cell 0
  clear f h H9 b9 S9
  go_wp2_with fail
  refine (hart_take_eq x g 2 _ 1 w10 H10.out.H (by omega) (v := 2) (q := 2) (by decide) (by decide) (by decide) rfl).mono ?_
  rintro e w11 ⟨rfl, f, h⟩
  have H11 := Lib.hid (show HRun w x g bx ⟨true, true, 0, 0⟩ ⟨true, false, 0, 32⟩ w11 from H10.out.s1 f h)
  have S11 := Lib.hid (S10.out.fr f dbs.out)
  have b11 := H11.out.B.cell 0
  clear f h H10 b10 S10
  go_wp2_with fail
  refine (hart_take_eq x g 2 _ 1 w11 H11.out.H (by omega) (v := 5) (q := 5) (by decide) (by decide) (by decide) rfl).mono ?_
  rintro e w12 ⟨rfl, f, h⟩
  have H12 := Lib.hid (show HRun w x g bx ⟨true, true, 0, 0⟩ ⟨true, false, 0, 0⟩ w12 from H11.out.s1 f h)
  have S12 := Lib.hid (S11.out.fr f dbs.out)
  have b12 := H12.out.B.cell 0
  clear f h H11 b11 S11
  have s0 := S12.out.cell 0
  have s1 := S12.out.cell 1
  go_wp2_with fail
  refine (hart_take_none x g 2 _ 1 w12 H12.out.H (by omega) (by decide)).mono ?_
  rintro e w' ⟨rfl, rfl⟩
  go_wp2_with fail
  go_ret
  exact ⟨rfl, H12.out.F⟩

theorem hartRuns_walk (w : World) : Calls Try.prog 8 #[] w fun e w' => e = .returned (.bool true) ∧ Below w.heap.size w w' :=
  (hartRuns_any w).mono fun _ _ h => ⟨h.1, h.2.below⟩
end Go.Proofs.Ytkclbgoagcpckaa
