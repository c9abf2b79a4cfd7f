import Derived.Test.YtkclbgoagcpckaaTick
namespace Go.Proofs.Ytkclbgoagcpckaa
open Go.RowKit

structure RunsSt (w w' : World) (m g x y : Nat) (V : Nat → Int) (c ax tx ay ty : Int) : Prop where
  M : Mem w' m g 2 V c
  X : TryB w' x (0 : Nat) ax tx
  Y : TryB w' y (0 : Nat) ay ty
  F : Fr (fun _ => False) w w'
  d : x ≠ y ∧ x ≠ m ∧ x ≠ g ∧ y ≠ m ∧ y ≠ g ∧ w.heap.size ≤ x ∧ w.heap.size ≤ y ∧ w.heap.size ≤ m ∧ w.heap.size ≤ g

theorem RunsSt.swap {w w' : World} {m g x y : Nat} {V : Nat → Int} {c ax tx ay ty : Int} (h : RunsSt w w' m g x y V c ax tx ay ty) : RunsSt w w' m g y x V c ay ty ax tx :=
  ⟨h.M, h.Y, h.X, h.F, by have := h.d; omega⟩

section
variable {w w' : World} {m g x y : Nat} {V : Nat → Int} {c tx ay ty : Int}

theorem RunsSt.fresh (h : RunsSt w w' m g x y V c 0 tx ay ty) (hc : 0 ≤ c ∧ c ≤ 100) :
    Calls Try.prog 14 #[.pointer (some ⟨x, 0, none⟩), .pointer (some ⟨m, 0, none⟩)] w' fun e w2 => e = .returned (.bool false) ∧ RunsSt w w2 m g x y (upd V 0 (wadd (V 0) 1)) (c + 1) 1 (V 0) ay ty :=
  (step_fresh x m g 2 V c 0 tx w' h.M (by omega) h.X (by omega)).mono fun _ _ ⟨he, f, hx, hm⟩ =>
    ⟨he, hm, hx, h.Y.fr f (by have := h.d; omega), h.F.step f (fun k hk hs => by have := h.d; omega), h.d⟩

theorem RunsSt.waits (h : RunsSt w w' m g x y V c 1 tx ay ty) (hc : 0 ≤ c ∧ c ≤ 100) :
    Calls Try.prog 14 #[.pointer (some ⟨x, 0, none⟩), .pointer (some ⟨m, 0, none⟩)] w' fun e w2 => e = .returned (.bool (decide (V 1 = tx))) ∧ RunsSt w w2 m g x y V (c + 1) (if V 1 = tx then 2 else 1) tx ay ty :=
  (step_waits x m g 2 V c 0 tx w' h.M (by omega) h.X (by omega) (by omega)).mono fun _ _ ⟨he, f, hx, hm⟩ =>
    ⟨he, hm, hx, h.Y.fr f (by have := h.d; omega), h.F.step f (fun k hk hs => by have := h.d; omega), h.d⟩

theorem RunsSt.leave (h : RunsSt w w' m g x y V c 2 tx ay ty) (hc : 0 ≤ c ∧ c ≤ 100) :
    Calls Try.prog 15 #[.pointer (some ⟨x, 0, none⟩), .pointer (some ⟨m, 0, none⟩)] w' fun e w2 => e = .returned (.tuple #[]) ∧ RunsSt w w2 m g x y (upd V 1 (wadd (V 1) 1)) (c + 1) 3 tx ay ty :=
  (leave_ok x m g 2 V c 0 tx w' h.M (by omega) h.X (by omega) (by omega)).mono fun _ _ ⟨he, f, hx, hm⟩ =>
    ⟨he, hm, hx, h.Y.fr f (by have := h.d; omega), h.F.step f (fun k hk hs => by have := h.d; omega), h.d⟩
end

def two (p q : Int) (i : Nat) : Int := if i = 0 then p else q

theorem RunsSt.to {w w' : World} {m g x y : Nat} {V : Nat → Int} {c ax tx ay ty p q d ax' tx' : Int} (h : RunsSt w w' m g x y V c ax tx ay ty) (e0 : V 0 = p) (e1 : V 1 = q) (hc : c = d) (h1 : ax = ax') (h2 : tx = tx') : RunsSt w w' m g x y (two p q) d ax' tx' ay ty := by
  subst h1
  subst h2
  refine ⟨h.M.congr (fun i hi => ?_) hc, h.X, h.Y, h.F, h.d⟩
  match i, hi with
  | 0, _ => simpa [two] using e0
  | 1, _ => simpa [two] using e1

theorem up0 {V : Nat → Int} {p q : Int} (h : V 0 = p) (e : wadd p 1 = q) : upd V 0 (wadd (V 0) 1) 0 = q := by rw [upd_self, h, e]
theorem up1 {V : Nat → Int} {p q : Int} (h : V 1 = p) (e : wadd p 1 = q) : upd V 1 (wadd (V 1) 1) 1 = q := by rw [upd_self, h, e]
theorem wadd01 : wadd 0 1 = 1 := by simp [wadd, wrap64]
theorem wadd11 : wadd 1 1 = 2 := by simp [wadd, wrap64]

set_option maxHeartbeats 1000000 in
set_option maxRecDepth 100000 in
theorem ticketRuns_any (w : World) : Calls Try.prog 3 #[] w fun e w' => e = .returned (.bool true) ∧ Fr (fun _ => False) w w' := by
  go_enter Try.func3, Try.ntmps3
  go_wp2_with fail
  refine (mem_new 2 (by omega) _).mono ?_
  rintro e w1 ⟨rfl, f1, M1⟩
  have HF1 := Lib.hid f1
  have HM1 := Lib.hid M1
  clear f1 M1
  go_wp2_with fail
  refine (try_new 0 _).mono ?_
  rintro e w2 ⟨rfl, f2, x2, s2⟩
  have HF2 := Lib.hid f2
  have HX2 := Lib.hid x2
  have HS2 := Lib.hid s2
  clear f2 x2 s2
  go_wp2_with fail
  refine (try_new 0 _).mono ?_
  rintro e w3 ⟨rfl, f3, y3, s3⟩
  have l1 := HM1.out.h.lt
  have l2 := HS2.out
  have st : RunsSt w w3 (w.heap.size + 1) w.heap.size w1.heap.size w2.heap.size (fun _ => 0) 0 0 (-1) 0 (-1) :=
    ⟨(HM1.out.fr HF2.out id id).fr f3 id id, HX2.out.fr f3 id, y3, (HF1.out.trans HF2.out).trans f3, by omega⟩
  obtain ⟨g, hg⟩ : ∃ g, g = w.heap.size := ⟨_, rfl⟩
  obtain ⟨m, hm⟩ : ∃ m, m = w.heap.size + 1 := ⟨_, rfl⟩
  rw [← hm] at st
  rw [← hm]
  have H3 := Lib.hid st
  clear st HF1 HM1 HF2 HX2 HS2 f3 y3 s3 l1 l2 hm hg g
  go_wp2_with fail
  refine (H3.out.fresh (by omega)).mono ?_
  rintro e w4 ⟨rfl, st⟩
  have H4 := Lib.hid (st.to (p := 1) (q := 0) (d := 1) (ax' := 1) (tx' := 0) (up0 rfl wadd01) rfl rfl rfl rfl)
  clear st
  go_wp2_with fail
  refine (H4.out.swap.fresh (by omega)).mono ?_
  rintro e w5 ⟨rfl, st⟩
  have H5 := Lib.hid (st.to (p := 2) (q := 0) (d := 2) (ax' := 1) (tx' := 1) (up0 rfl wadd11) rfl rfl rfl rfl)
  clear st
  go_wp2_with fail
  refine (H5.out.waits (by omega)).mono ?_
  rintro e w6 ⟨rfl, st⟩
  have H6 := Lib.hid (st.to (p := 2) (q := 0) (d := 3) (ax' := 1) (tx' := 1) rfl rfl rfl rfl rfl)
  clear st
  go_wp2_with fail
  refine (H6.out.swap.waits (by omega)).mono ?_
  rintro e w7 ⟨rfl, st⟩
  have H7 := Lib.hid (st.to (p := 2) (q := 0) (d := 4) (ax' := 2) (tx' := 0) rfl rfl rfl rfl rfl)
  clear st
  go_wp2_with fail
  refine (H7.out.leave (by omega)).mono ?_
  rintro e w8 ⟨rfl, st⟩
  have H8 := Lib.hid (st.to (p := 2) (q := 1) (d := 5) (ax' := 3) (tx' := 0) rfl (up1 rfl wadd01) rfl rfl rfl)
  clear st
  go_wp2_with fail
  refine (H8.out.swap.waits (by omega)).mono ?_
  rintro e w9 ⟨rfl, st⟩
  have H9 := Lib.hid (st.to (p := 2) (q := 1) (d := 6) (ax' := 2) (tx' := 1) rfl rfl rfl rfl rfl)
  clear st
  go_wp2_with fail
  refine (try_at _ _ _ _ _ H9.out.X).mono ?_
  rintro e w10 ⟨rfl, hw⟩
  subst hw
  go_wp2_with fail
  refine (try_at _ _ _ _ _ H9.out.Y).mono ?_
  rintro e w11 ⟨rfl, hw⟩
  subst hw
  go_wp2_with fail
  refine (try_ticket _ _ _ _ _ H9.out.X).mono ?_
  rintro e w12 ⟨rfl, hw⟩
  subst hw
  go_wp2_with fail
  refine (mem_count _ _ _ _ _ _ H9.out.M).mono ?_
  rintro e w13 ⟨rfl, hw⟩
  subst hw
  go_wp2_with fail
  go_ret
  exact ⟨rfl, H9.out.F⟩

theorem ticketRuns_walk (w : World) : Calls Try.prog 3 #[] w fun e w' => e = .returned (.bool true) ∧ Below w.heap.size w w' :=
  (ticketRuns_any w).mono fun _ _ h => ⟨h.1, h.2.below⟩
end Go.Proofs.Ytkclbgoagcpckaa
