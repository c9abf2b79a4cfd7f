import Derived.Test.YtkclbgoagcpckaaHartA
import Derived.Test.YtkclbgoagcpckaaWithin
import Derived.Test.YtkclbgoagcpckaaOpen
namespace Go.Proofs.Ytkclbgoagcpckaa
open Go.RowKit

/-- a new hart -/
def hnew : HOne := ⟨true, false, 0, 0⟩
/-- all are new but one -/
def hf (a : Nat) (o : HOne) : Nat → HOne := upd (fun _ => hnew) a o
theorem hf_self (a : Nat) (o : HOne) : hf a o a = o := upd_self _ _ _
theorem hf_ne {a i : Nat} (o : HOne) (h : i ≠ a) : hf a o i = hnew := upd_ne _ _ h
theorem hf_upd (a : Nat) (o p : HOne) : upd (hf a o) a p = hf a p := upd_upd _ _ _ _

/-- the harts, and the two variables that a closure sees -/
structure HNst (w0 : World) (x g n bA bX a : Nat) (o : HOne) (w : World) : Prop where
  H : HartsB w x g n (hf a o)
  A : Blk w bA #[.int .i64 a] 3
  X : Blk w bX #[.pointer (some ⟨x, 0, none⟩)] 45
  F : Fr (fun _ => False) w0 w
  d : bA ≠ g ∧ bX ≠ g ∧ w0.heap.size ≤ x ∧ w0.heap.size ≤ g

section
variable {w0 : World} {x g n bA bX a : Nat} {o : HOne} {w : World} (h : HNst w0 x g n bA bX a o w)
include h
theorem HNst.step {w' : World} {p : HOne} (f : Fr (fun k => k = g) w w') (H : HartsB w' x g n (upd (hf a o) a p)) : HNst w0 x g n bA bX a p w' :=
  ⟨hf_upd a o p ▸ H, h.A.fr f h.d.1, h.X.fr f h.d.2.1, h.F.step f (fun k hk hs => by have := h.d; omega), h.d⟩
theorem HNst.fr {w' : World} (f : Fr (fun _ => False) w w') : HNst w0 x g n bA bX a o w' := ⟨h.H.fr f id id, h.A.fr f id, h.X.fr f id, h.F.trans f, h.d⟩
theorem HNst.alloc (b : Obj) : HNst w0 x g n bA bX a o (w.alloc b) := h.fr ((Fr.refl _ _).alloc b)
theorem HNst.to {p : HOne} (e : o = p) : HNst w0 x g n bA bX a p w := e ▸ h
end

theorem hartNests1 (x g n bA bX a : Nat) (o : HOne) (w0 w : World) (h : HNst w0 x g n bA bX a o w) (hn : a < n) (hz : o.nest ≠ 0) :
    Calls Try.prog 32 #[.pointer (some ⟨bX, 0, none⟩), .pointer (some ⟨bA, 0, none⟩)] w fun e w' => Tame (.stop 9 a) e ∧ Fr (fun _ => False) w w' := by
  have b0 := h.A.cell 0
  have b1 := h.X.cell 0
  have HP := Lib.hid (hart_set_bad x g n _ a w h.H hn true (by rw [hf_self]; exact hz))
  clear h hz hn
  go_enter Try.func32, Try.ntmps32
  go_wp2_with (go_at_call 30; refine HP.out.mono ?_; rintro e w' ⟨rfl, rfl⟩)
  exact ⟨rfl, ⟨[], rfl, rfl⟩, Fr.refl _ _⟩

theorem on_at (x g n a : Nat) (o : HOne) (w : World) (H : HartsB w x g n (hf a o)) (hn : a < n) {v : Bool} (hv : o.on = v) : Calls Try.prog 26 #[.pointer (some ⟨x, 0, none⟩), .int .i64 a] w fun e w' => e = .returned (.bool v) ∧ w = w' := hart_on_eq x g n _ a w H hn (by rw [hf_self]; exact hv)
theorem nest_at (x g n a : Nat) (o : HOne) (w : World) (H : HartsB w x g n (hf a o)) (hn : a < n) {v : Int} (hv : (o.nest : Int) = v) : Calls Try.prog 31 #[.pointer (some ⟨x, 0, none⟩), .int .i64 a] w fun e w' => e = .returned (.int .i64 v) ∧ w = w' := hart_nest_eq x g n _ a w H hn (by rw [hf_self]; exact hv)

section
variable {w0 : World} {x g n bA bX a : Nat} {o : HOne} {w : World} (h : HNst w0 x g n bA bX a o w) (hn : a < n)
include h hn
theorem HNst.push0 (hz : o.nest = 0) : Calls Try.prog 24 #[.pointer (some ⟨x, 0, none⟩), .int .i64 a] w fun e w' => e = .returned (.tuple #[]) ∧ HNst w0 x g n bA bX a ⟨false, o.on, 1, o.mail⟩ w' :=
  (hart_push0 x g n _ a w h.H hn (by rw [hf_self]; exact hz)).mono fun _ _ ⟨he, f, h'⟩ => ⟨he, (h.step f h').to (by rw [hf_self])⟩
theorem HNst.push1 (hz : o.nest ≠ 0) (hb : o.nest ≤ 1000) : Calls Try.prog 24 #[.pointer (some ⟨x, 0, none⟩), .int .i64 a] w fun e w' => e = .returned (.tuple #[]) ∧ HNst w0 x g n bA bX a ⟨false, o.kept, o.nest + 1, o.mail⟩ w' :=
  (hart_push1 x g n _ a w h.H hn (by rw [hf_self]; exact hz) (by rw [hf_self]; exact hb)).mono fun _ _ ⟨he, f, h'⟩ => ⟨he, (h.step f h').to (by rw [hf_self])⟩
theorem HNst.pop1 (hz : o.nest = 1) : Calls Try.prog 25 #[.pointer (some ⟨x, 0, none⟩), .int .i64 a] w fun e w' => e = .returned (.tuple #[]) ∧ HNst w0 x g n bA bX a ⟨o.kept, o.kept, 0, o.mail⟩ w' :=
  (hart_pop1 x g n _ a w h.H hn (by rw [hf_self]; exact hz)).mono fun _ _ ⟨he, f, h'⟩ => ⟨he, (h.step f h').to (by rw [hf_self])⟩
theorem HNst.pop2 (hz : 2 ≤ o.nest) (hb : o.nest ≤ 1000) : Calls Try.prog 25 #[.pointer (some ⟨x, 0, none⟩), .int .i64 a] w fun e w' => e = .returned (.tuple #[]) ∧ HNst w0 x g n bA bX a { o with nest := o.nest - 1 } w' :=
  (hart_pop2 x g n _ a w h.H hn (by rw [hf_self]; exact hz) (by rw [hf_self]; exact hb)).mono fun _ _ ⟨he, f, h'⟩ => ⟨he, (h.step f h').to (by rw [hf_self])⟩
theorem HNst.set (on : Bool) (hz : o.nest = 0) : Calls Try.prog 30 #[.pointer (some ⟨x, 0, none⟩), .int .i64 a, .bool on] w fun e w' => e = .returned (.tuple #[]) ∧ HNst w0 x g n bA bX a { o with on := on } w' :=
  (hart_set x g n _ a w h.H hn on (by rw [hf_self]; exact hz)).mono fun _ _ ⟨he, f, h'⟩ => ⟨he, (h.step f h').to (by rw [hf_self])⟩
end

def PushRel (w0 : World) (x g n bA bX a d : Nat) (on : Bool) (t13 : Value) (w : World) : Prop :=
  ∃ (i : Nat) (o : HOne), 1 ≤ i ∧ i ≤ d + 1 ∧ t13 = .int .i64 i ∧ ((i = 1 ∧ o = ⟨on, false, 0, 0⟩) ∨ (2 ≤ i ∧ o = ⟨false, on, i - 1, 0⟩)) ∧ HNst w0 x g n bA bX a o w

def PopRel (w0 : World) (x g n bA bX a d : Nat) (on : Bool) (t16 : Value) (w : World) : Prop :=
  ∃ (i : Nat) (o : HOne), i ≤ d ∧ t16 = .int .i64 ((i : Int) - 1) ∧ ((i = 0 ∧ o = ⟨on, on, 0, 0⟩) ∨ (1 ≤ i ∧ o = ⟨false, on, i, 0⟩)) ∧ HNst w0 x g n bA bX a o w

def LookRel (w0 : World) (x g n bA bX a : Nat) (on : Bool) (t17 : Value) (w : World) : Prop :=
  ∃ (i : Nat), i ≤ n ∧ t17 = .int .i64 i ∧ HNst w0 x g n bA bX a ⟨on, on, 0, 0⟩ w

set_option maxHeartbeats 2000000 in
set_option maxRecDepth 100000 in
theorem hartNests_walk (n h deep : Int) (on : Bool) (w : World) (wf : (Lit.int .i64 n).wf = true) (wf2 : (Lit.int .i64 h).wf = true) (wf3 : (Lit.int .i64 deep).wf = true) :
    Calls Try.prog 9 #[.int .i64 n, .int .i64 h, .int .i64 deep, .bool on] w fun e w' => e = .returned (.bool true) ∧ Below w.heap.size w w' := by
  have hmf : ∀ (fn : Fn) (first cap : Array Value) (w : World), (Instr.makeFunc fn first cap).run Try.prog w = .ok (.func fn first cap) w := fun _ _ _ _ => rfl
  have hw := fun w => within_any n 2 8 w (wf_i64 wf) (by omega) (by omega) (by omega)
  have hk := wth_bd (n := n) (lo := 2) (hi := 8) (by omega)
  obtain ⟨k, hk'⟩ : ∃ k : Nat, wth n 2 8 = k := ⟨(wth n 2 8).toNat, by omega⟩
  rw [hk'] at hw hk
  have hk1 : 2 ≤ k := by omega
  have hk2 : k ≤ 8 := by omega
  have hw2 := fun w => within_any h 0 ((k : Int) - 1) w (wf_i64 wf2) (by omega) (by omega) (by omega)
  have ha := wth_bd (n := h) (lo := 0) (hi := (k : Int) - 1) (by omega)
  obtain ⟨a, ha'⟩ : ∃ a : Nat, wth h 0 ((k : Int) - 1) = a := ⟨(wth h 0 ((k : Int) - 1)).toNat, by omega⟩
  rw [ha'] at hw2 ha
  have hak : a < k := by omega
  have hw3 := fun w => within_any deep 1 30 w (wf_i64 wf3) (by omega) (by omega) (by omega)
  have hd := wth_bd (n := deep) (lo := 1) (hi := 30) (by omega)
  obtain ⟨d, hd'⟩ : ∃ d : Nat, wth deep 1 30 = d := ⟨(wth deep 1 30).toNat, by omega⟩
  rw [hd'] at hw3 hd
  have hd1 : 1 ≤ d := by omega
  have hd2 : d ≤ 30 := by omega
  have HW := Lib.hid hw
  have HW2 := Lib.hid hw2
  have HW3 := Lib.hid hw3
  clear hw hk hk' hw2 ha ha' hw3 hd hd' wf wf2 wf3
  go_enter Try.func9, Try.ntmps9
  go_wp2_with (first
    | (go_at_call 19; (with_reducible refine (HW.out _).mono ?_); rintro e w' ⟨rfl, rfl⟩)
    | (go_at_call 19; (with_reducible refine (HW2.out _).mono ?_); rintro e w' ⟨rfl, rfl⟩)
    | (go_at_call 19; (with_reducible refine (HW3.out _).mono ?_); rintro e w' ⟨rfl, rfl⟩))
  have f0 : Fr (fun _ => False) w (w.alloc (.cells #[.int .i64 a] 3)) := (Fr.refl _ _).alloc _
  have a0 : Blk (w.alloc (.cells #[.int .i64 a] 3)) w.heap.size #[.int .i64 a] 3 := Blk.at_new rfl
  generalize hW1 : (w.alloc (.cells #[.int .i64 a] 3)) = W1 at *
  have hs1 : W1.heap.size = w.heap.size + 1 := by rw [← hW1]; simp
  clear hW1
  refine (hart_new k (by omega) _).mono ?_
  rintro e w1 ⟨rfl, f1, h1⟩
  have a1 := a0.fr f1 id
  have H0 : HNst w (w.heap.size + 1 + 1) (w.heap.size + 1) k w.heap.size w1.heap.size a hnew (w1.alloc (.cells #[.pointer (some ⟨w.heap.size + 1 + 1, 0, none⟩)] 45)) :=
    ⟨((hs1 ▸ h1).alloc _).congr fun i _ => by unfold hf upd; split <;> rfl, a1.alloc _, Blk.at_new rfl, (f0.trans f1).alloc _, by have := h1.a.lt; omega⟩
  rw [hs1]
  obtain ⟨x, hx⟩ : ∃ x, x = w.heap.size + 1 + 1 := ⟨_, rfl⟩
  obtain ⟨g, hg⟩ : ∃ g, g = w.heap.size + 1 := ⟨_, rfl⟩
  rw [← hx, ← hg] at H0
  rw [← hx]
  have c1 := a1.cell 0
  have l1 := a1.lt
  clear f0 f1 a0 h1 a1 hs1 hx hg
  go_wp2_with fail
  obtain ⟨bX, hbx⟩ : ∃ bX, bX = w1.heap.size := ⟨_, rfl⟩
  obtain ⟨bA, hba⟩ : ∃ bA, bA = w.heap.size := ⟨_, rfl⟩
  rw [← hbx, ← hba] at H0
  rw [← hbx, ← hba]
  generalize (w1.alloc (.cells #[.pointer (some ⟨x, 0, none⟩)] 45)) = w2 at *
  have HH := Lib.hid H0
  clear H0 hbx hba c1 l1
  refine (HH.out.set hak on rfl).mono ?_
  rintro e w3 ⟨rfl, h3⟩
  have HH3 := Lib.hid h3
  clear h3 HH
  go_wp2_with fail
  go_loopw [13] (fun t13 wr => PushRel w x g k bA bX a d on t13 wr) (fun t13 _ => (d + 1 - intOf t13).toNat)
  case atStart => exact ⟨1, _, by omega, by omega, rfl, .inl ⟨rfl, rfl⟩, HH3.out⟩
  case round =>
    obtain ⟨i, o, hi1, hi2, rfl, ho, hh⟩ := hrel
    have H := Lib.hid hh
    have cA := hh.A.cell 0
    have cX := hh.X.cell 0
    by_cases hid : i ≤ d
    · have hid' : (i : Int) ≤ d := by omega
      have P : Hid (Calls Try.prog 24 #[.pointer (some ⟨x, 0, none⟩), .int .i64 a] wr fun e w' => e = .returned (.tuple #[]) ∧ HNst w x g k bA bX a ⟨false, on, i, 0⟩ w') := by
        rcases ho with ⟨rfl, rfl⟩ | ⟨h2, rfl⟩
        · exact hh.push0 hak rfl
        · exact (hh.push1 hak (by simp only; omega) (by simp only; omega)).mono fun _ _ ⟨he, h'⟩ => ⟨he, h'.to (by simp only [HOne.mk.injEq, true_and, and_true]; omega)⟩
      clear hh ho
      go_wp2_with (first
        | (go_at_call 24; (with_reducible refine P.out.mono ?_); rintro e w' ⟨rfl, h'⟩; have H' := Lib.hid h'; have cA' := h'.A.cell 0; have cX' := h'.X.cell 0; clear h')
        | (go_at_call 26; refine (on_at x g k a _ _ H'.out.H hak (v := false) rfl).mono ?_; rintro e w' ⟨rfl, rfl⟩)
        | (go_at_call 31; refine (nest_at x g k a _ _ H'.out.H hak (v := (i : Int)) rfl).mono ?_; rintro e w' ⟨rfl, rfl⟩))
      exact ⟨⟨i + 1, _, by omega, by omega, by go_num, .inr ⟨by omega, rfl⟩, H'.out⟩, by simp [intOf]; omega⟩
    · have hid' : ¬ (i : Int) ≤ d := by omega
      obtain rfl : i = d + 1 := by omega
      have hs : HNst w x g k bA bX a ⟨false, on, d, 0⟩ wr := by
        rcases ho with ⟨h1, rfl⟩ | ⟨h2, rfl⟩
        · omega
        · exact hh.to (by simp)
      have HS := Lib.hid hs
      clear hh ho hs H
      go_wp2_with fail
      refine (guard_idle 32 _ wr (.stop 9 a) (fun w => by simp [go_sem]) (hartNests1 x g k bA bX a ⟨false, on, d, 0⟩ w _ (HS.out.fr (gworld_fr _ (fun _ => False))) hak (by simp only; omega))).mono ?_
      rintro e w5 ⟨rfl, f⟩
      have h5 := (HS.out.fr f).alloc (.cells #[.int .i64 9, .int .i64 a] 40)
      have S5 := Lib.hid (Blk.new w5 #[.int .i64 9, .int .i64 a] 40)
      simp only [Stp.why_s, Stp.at_s, Stp.is_s]
      have c5 := (HS.out.fr f).A.cell 0
      have l5 := (HS.out.fr f).A.lt
      have c6 := (HS.out.fr f).X.cell 0
      have l6 := (HS.out.fr f).X.lt
      have H5 := Lib.hid h5
      clear f h5 HS
      go_wp2_with (first
        | (go_at_call 26; refine (on_at x g k a _ _ H5.out.H hak (v := false) rfl).mono ?_; rintro e w' ⟨rfl, rfl⟩))
      clear c5 l5 c6 l6 cA cX S5
      generalize (w5.alloc (.cells #[.int .i64 9, .int .i64 a] 40)) = w6 at *
      go_loopw [16] (fun t16 wr => PopRel w x g k bA bX a d on t16 wr) (fun t16 _ => (intOf t16 + 1).toNat)
      case atStart => exact ⟨d, _, by omega, rfl, .inr ⟨by omega, rfl⟩, H5.out⟩
      case round =>
        obtain ⟨i, o, hi2, rfl, ho, hh⟩ := hrel
        have H := Lib.hid hh
        have cA := hh.A.cell 0
        have cX := hh.X.cell 0
        clear H5
        rcases ho with ⟨rfl, rfl⟩ | ⟨h2, rfl⟩
        · clear hh
          rw [show (((0 : Nat) : Int) - 1) = -1 from rfl]
          go_wp2_with fail
          have HR := Lib.hid hartRuns_any
          go_loopw [17] (fun t17 w7 => LookRel w x g k bA bX a on t17 w7) (fun t17 _ => (k - intOf t17).toNat)
          case atStart => exact ⟨0, by omega, rfl, H.out⟩
          case round =>
            obtain ⟨i, hi, rfl, hh⟩ := hrel
            have H7 := Lib.hid hh
            have dA := hh.A.cell 0
            have dX := hh.X.cell 0
            clear H
            by_cases hik : i < k
            · have hik' : (i : Int) < k := by omega
              by_cases hia : i = a
              · have hia' := hia.symm
                clear hia
                subst hia'
                clear hh
                go_wp2_with fail
                exact ⟨⟨a + 1, by omega, by go_num, H7.out⟩, by simp [intOf]; omega⟩
              · have hne1 : ((i : Int) != (a : Int)) = true := bne_iff_ne.2 (by omega)
                have hne2 : (i != a) = true := bne_iff_ne.2 hia
                have hon := hart_on_eq x g k _ i _ hh.H hik (v := true) (by rw [hf_ne _ hia]; rfl)
                have hne := hart_nest_eq x g k _ i _ hh.H hik (v := 0) (by rw [hf_ne _ hia]; rfl)
                have HON := Lib.hid hon
                have HNE := Lib.hid hne
                clear hh hon hne
                go_wp2_with (first
                  | (go_at_call 26; (with_reducible refine HON.out.mono ?_); rintro e w' ⟨rfl, rfl⟩)
                  | (go_at_call 31; (with_reducible refine HNE.out.mono ?_); rintro e w' ⟨rfl, rfl⟩))
                exact ⟨⟨i + 1, by omega, by go_num, H7.out⟩, by simp [intOf]; omega⟩
            · have hik' : ¬ (i : Int) < k := by omega
              clear hh
              go_wp2_with (go_at_call 8; refine (HR.out _).mono ?_; rintro e w8 ⟨rfl, f8⟩; have HF8 := Lib.hid f8; clear f8)
              go_ret
              exact ⟨rfl, (H7.out.F.trans HF8.out).below⟩
        · have e1 : (0 : Int) ≤ (i : Int) - 1 := by omega
          have e2 : (1 : Int) ≤ (i : Int) := by omega
          have e3 : (i : Int) ≤ 100 := by omega
          by_cases hi1 : i = 1
          · subst hi1
            have P := Lib.hid (hh.pop1 hak rfl)
            clear hh
            go_wp2_with (first
              | (go_at_call 25; refine P.out.mono ?_; rintro e w' ⟨rfl, h'⟩; have H' := Lib.hid h'; have cA' := h'.A.cell 0; have cX' := h'.X.cell 0; clear h')
              | (go_at_call 26; refine (on_at x g k a _ _ H'.out.H hak (v := on) rfl).mono ?_; rintro e w' ⟨rfl, rfl⟩)
              | (go_at_call 31; refine (nest_at x g k a _ _ H'.out.H hak (v := 0) rfl).mono ?_; rintro e w' ⟨rfl, rfl⟩))
            exact ⟨⟨0, _, by omega, rfl, .inl ⟨rfl, rfl⟩, H'.out⟩, by simp [intOf]⟩
          · have P := Lib.hid ((hh.pop2 hak (by simp only; omega) (by simp only; omega)).mono fun (e : Ending) w' ⟨he, h'⟩ => (⟨he, h'.to (p := ⟨false, on, i - 1, 0⟩) rfl⟩ : e = Ending.returned (.tuple #[]) ∧ HNst w x g k bA bX a ⟨false, on, i - 1, 0⟩ w'))
            have hne : ((i : Int) - 1 == 0) = false := beq_eq_false_iff_ne.2 (by omega)
            have hne2 : ((i : Int) == 1) = false := beq_eq_false_iff_ne.2 (by omega)
            have hne3 : (i == 1) = false := beq_eq_false_iff_ne.2 (by omega)
            clear hh
            go_wp2_with (first
              | (go_at_call 25; refine P.out.mono ?_; rintro e w' ⟨rfl, h'⟩; have H' := Lib.hid h'; have cA' := h'.A.cell 0; have cX' := h'.X.cell 0; clear h')
              | (go_at_call 26; refine (on_at x g k a _ _ H'.out.H hak (v := false) rfl).mono ?_; rintro e w' ⟨rfl, rfl⟩)
              | (go_at_call 31; refine (nest_at x g k a _ _ H'.out.H hak (v := (i : Int) - 1) (by simp only; omega)).mono ?_; rintro e w' ⟨rfl, rfl⟩))
            exact ⟨⟨i - 1, _, by omega, by go_num, .inr ⟨by omega, rfl⟩, H'.out⟩, by simp [intOf]; omega⟩
end Go.Proofs.Ytkclbgoagcpckaa
