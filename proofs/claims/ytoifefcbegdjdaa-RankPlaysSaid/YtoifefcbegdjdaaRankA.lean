import Derived.Test.YtoifefcbegdjdaaRank2
import Derived.Test.YtoifefcbegdjdaaSame
import Derived.Test.YtoifefcbegdjdaaGuard
namespace Go.Proofs.Ytoifefcbegdjdaa
open Go.RowKit

/-- a keeper of who holds what, in a variable that closures see -/
structure RankSt (w0 : World) (x n bx : Nat) (L : Nat → List Int) (O : Int → Option Int) (F : Nat → Prop) (w : World) : Prop where
  H : Held w x n L O F
  B : Blk w bx #[.pointer (some ⟨x, 0, none⟩)] 36
  f : Fr (fun _ => False) w0 w
  d : ¬ F bx ∧ ∀ k, F k → w0.heap.size ≤ k

section
variable {w0 : World} {x n bx : Nat} {L : Nat → List Int} {O : Int → Option Int} {F : Nat → Prop} {w : World} (h : RankSt w0 x n bx L O F w)
include h
theorem RankSt.fr {w' : World} (f : Fr (fun _ => False) w w') : RankSt w0 x n bx L O F w' := ⟨h.H.fr f (fun _ _ => id), h.B.fr f id, h.f.trans f, h.d⟩
theorem RankSt.to {w' : World} {L' : Nat → List Int} {O' : Int → Option Int} {F' : Nat → Prop} (f : Fr F w w') (H : Held w' x n L' O' F') (hF : ∀ k, F' k → F k ∨ w.heap.size ≤ k) : RankSt w0 x n bx L' O' F' w' :=
  ⟨H, h.B.fr f h.d.1, h.f.step f (fun k hk hs => by have := h.d.2 k hs; omega), fun hb => (hF _ hb).elim h.d.1 (fun hb => by have := h.B.lt; omega), fun k hk => (hF k hk).elim (h.d.2 k) (fun hk => by have := h.f.size; omega)⟩
theorem RankSt.congr {L' : Nat → List Int} {O' : Int → Option Int} (e : ∀ i, i < n → L i = L' i) (e2 : ∀ k, O k = O' k) : RankSt w0 x n bx L' O' F w := by
  obtain ⟨g, b, v, H⟩ := h.H
  refine ⟨⟨g, b, v, H.h, H.a, fun i hi => e i hi ▸ H.l i hi, H.ap, H.m.elim fun l m => ⟨l, m.1, m.2.1, fun k => e2 k ▸ m.2.2 k⟩, H.fx, H.fl, fun i hi => e i hi ▸ H.sz i hi, H.fb⟩, h.B, h.f, h.d⟩
theorem RankSt.take {i : Nat} (hi : i < n) (r : Int) (ha : Above (L i) r) (ho : O r = none) (hz : (L i).length < 100000) :
    Calls Try.prog 24 #[.pointer (some ⟨x, 0, none⟩), .int .i64 i, .int .i64 r] w fun e w' => e = .returned (.tuple #[]) ∧ ∃ F', RankSt w0 x n bx (upd L i (L i ++ [r])) (fun k => if k = r then some (i : Int) else O k) F' w' :=
  (rank_take x n L O F i w h.H hi r ha ho hz).mono fun _ _ ⟨he, f, F', H, hF⟩ => ⟨he, F', h.to f H hF⟩
theorem RankSt.letgo {i : Nat} (hi : i < n) (r : Int) (q : Nat) (hq : (L i)[q]? = some r) (hmin : ∀ j, j < q → (L i)[j]? ≠ some r) :
    Calls Try.prog 27 #[.pointer (some ⟨x, 0, none⟩), .int .i64 i, .int .i64 r] w fun e w' => e = .returned (.tuple #[]) ∧ RankSt w0 x n bx (upd L i ((L i).eraseIdx q)) (fun k => if k = r then none else O k) F w' :=
  (rank_let x n L O F i w h.H hi r q hq hmin).mono fun _ _ ⟨he, f, H⟩ => ⟨he, h.to f H (fun _ => .inl)⟩
theorem RankSt.owner (r : Int) {y : Int} (hy : (O r).getD (-1) = y) : Calls Try.prog 30 #[.pointer (some ⟨x, 0, none⟩), .int .i64 r] w fun e w' => e = .returned (.int .i64 y) ∧ w = w' := hy ▸ rank_owner x n L O F w h.H r
theorem RankSt.drewN (q : Nat) : RankSt w0 x n bx L O F (w.drewN q) := h.fr (Fr.drewN0 _ _)
end

theorem rankRuns1 (x n bx : Nat) (L : Nat → List Int) (O : Int → Option Int) (F : Nat → Prop) (w0 w : World) (h : RankSt w0 x n bx L O F w) (hn : 0 < n) (hl : ¬ Above (L 0) 4) :
    Calls Try.prog 25 #[.pointer (some ⟨bx, 0, none⟩)] w fun e w' => Tame (.stop 5 4) e ∧ Fr (fun _ => False) w w' := by
  have b0 := h.B.cell 0
  have HP := Lib.hid (rank_take_low x n L O F 0 w h.H hn 4 hl)
  clear h hn hl
  go_enter Try.func25, Try.ntmps25
  go_wp2_with (go_at_call 24; refine HP.out.mono ?_; rintro e w' ⟨rfl, f⟩; have HF := Lib.hid f; clear f)
  exact ⟨rfl, ⟨[], rfl, rfl⟩, HF.out⟩
theorem rankRuns2 (x n bx : Nat) (L : Nat → List Int) (O : Int → Option Int) (F : Nat → Prop) (w0 w : World) (h : RankSt w0 x n bx L O F w) (hn : 1 < n) (y : Int) (hl : Above (L 1) 5) (ho : O 5 = some y) :
    Calls Try.prog 26 #[.pointer (some ⟨bx, 0, none⟩)] w fun e w' => Tame (.stop 6 5) e ∧ Fr (fun _ => False) w w' := by
  have b0 := h.B.cell 0
  have HP := Lib.hid (rank_take_had x n L O F 1 w h.H hn 5 y hl ho)
  clear h hn hl ho
  go_enter Try.func26, Try.ntmps26
  go_wp2_with (go_at_call 24; refine HP.out.mono ?_; rintro e w' ⟨rfl, f⟩; have HF := Lib.hid f; clear f)
  exact ⟨rfl, ⟨[], rfl, rfl⟩, HF.out⟩

def LL (a b : List Int) (i : Nat) : List Int := if i = 0 then a else b
def OO (l : List (Int × Int)) (k : Int) : Option Int := (l.find? (fun p => p.1 == k)).map (·.2)

theorem OO_cons (r i : Int) (l : List (Int × Int)) (k : Int) : OO ((r, i) :: l) k = if k = r then some i else OO l k := by
  unfold OO
  rw [List.find?_cons]
  by_cases e : k = r
  · subst e; simp
  · have : (r == k) = false := by simp; exact fun h => e h.symm
    simp [e, this]
theorem OO_nil (k : Int) : OO [] k = none := rfl

set_option maxHeartbeats 2000000 in
set_option maxRecDepth 100000 in
theorem rankRuns_any (w : World) : Calls Try.prog 4 #[] w fun e w' => e = .returned (.bool true) ∧ Fr (fun _ => False) w w' := by
  have hmf : ∀ (fn : Fn) (first cap : Array Value) (w : World), (Instr.makeFunc fn first cap).run Try.prog w = .ok (.func fn first cap) w := fun _ _ _ _ => rfl
  go_enter Try.func4, Try.ntmps4
  go_wp2_with fail
  refine (rank_new 2 (by omega) _).mono ?_
  rintro e w1 ⟨rfl, f1, H1⟩
  have hlt : w.heap.size + 2 < w1.heap.size := by obtain ⟨g, b, v, h⟩ := H1; exact h.h.lt
  have s2 : RankSt w (w.heap.size + 2) 2 w1.heap.size (LL [] []) (OO []) (fun k => w.heap.size ≤ k ∧ k < w.heap.size + 3) (w1.alloc (.cells #[.pointer (some ⟨w.heap.size + 2, 0, none⟩)] 36)) :=
    RankSt.congr (L := fun _ => []) (O := fun _ => none) ⟨H1.fr ((Fr.refl (fun _ => False) _).alloc _) (fun _ _ => id), Blk.at_new rfl, f1.alloc _, by omega, fun k hk => hk.1⟩ (fun i _ => by unfold LL; split <;> rfl) (fun k => rfl)
  go_wp2_with fail
  obtain ⟨x, hx⟩ : ∃ x, x = w.heap.size + 2 := ⟨_, rfl⟩
  obtain ⟨bx, hbx⟩ : ∃ bx, bx = w1.heap.size := ⟨_, rfl⟩
  rw [← hx, ← hbx] at s2
  rw [← hx]
  generalize hw2 : (w1.alloc (.cells #[.pointer (some ⟨w.heap.size + 2, 0, none⟩)] 36)) = w2 at *
  rw [← hx] at hw2
  rw [hw2] at s2
  have H2 := Lib.hid s2
  have b2 := s2.B.cell 0
  clear s2 f1 H1 hlt hx
  rw [hw2, ← hbx]
  clear hw2 hbx
  refine (H2.out.take (i := 0) (by omega) 3 ⟨by omega, fun y h => by simp [LL] at h⟩ rfl (by simp [LL])).mono ?_
  rintro e w3 ⟨rfl, F3, h⟩
  have H3 := Lib.hid (show RankSt w x 2 bx (LL [3] []) (OO [(3, 0)]) F3 w3 from h.congr (fun i hi => by match i, hi with
    | 0, _ => rfl
    | 1, _ => rfl) (fun k => by rw [OO_cons]; rfl))
  have b3 := H3.out.B.cell 0
  clear h H2 b2
  go_wp2_with fail
  refine (H3.out.take (i := 0) (by omega) 5 ⟨by omega, fun y h => by simp [LL] at h; omega⟩ (by rw [OO_cons]; rfl) (by simp [LL])).mono ?_
  rintro e w4 ⟨rfl, F4, h⟩
  have H4 := Lib.hid (show RankSt w x 2 bx (LL [3, 5] []) (OO [(5, 0), (3, 0)]) F4 w4 from h.congr (fun i hi => by match i, hi with
    | 0, _ => rfl
    | 1, _ => rfl) (fun k => by rw [OO_cons 5]; rfl))
  clear h H3 b3
  go_wp2_with fail
  refine (guard_idle 25 _ w4 (.stop 5 4) (fun w => by simp [go_sem]) (rankRuns1 x 2 bx _ _ F4 w _ (H4.out.fr (gworld_fr _ (fun _ => False))) (by omega) (fun h => by have := h.2 5 rfl; omega))).mono ?_
  rintro e w5 ⟨rfl, f⟩
  have b5 := (H4.out.fr f).B.cell 0
  have l5 := (H4.out.fr f).B.lt
  have S5 := Blk.new w5 #[.int .i64 5, .int .i64 4] 30
  have h6 := (H4.out.fr f).fr ((Fr.refl (fun _ => False) w5).alloc (.cells #[.int .i64 5, .int .i64 4] 30))
  have n5 : ¬ F4 w5.heap.size := fun hk => Nat.lt_irrefl _ ((H4.out.fr f).H.lt hk)
  simp only [Stp.why_s, Stp.at_s, Stp.is_s]
  clear f H4
  go_wp2_with fail
  obtain ⟨bs, hbs⟩ : ∃ bs, bs = w5.heap.size := ⟨_, rfl⟩
  rw [← hbs] at S5 n5
  rw [← hbs]
  generalize (w5.alloc (.cells #[.int .i64 5, .int .i64 4] 30)) = w6 at *
  clear b5 l5 hbs
  have H6 := Lib.hid h6
  have HS6 := Lib.hid S5
  have N5 := Lib.hid n5
  clear h6 S5 n5
  refine (guard_idle 26 _ w6 (.stop 6 5) (fun w => by simp [go_sem]) (rankRuns2 x 2 bx _ _ F4 w _ (H6.out.fr (gworld_fr _ (fun _ => False))) (by omega) 0 ⟨by omega, fun y h => by simp [LL] at h⟩ (by rw [OO_cons]; rfl))).mono ?_
  rintro e w7 ⟨rfl, f⟩
  have b7 := (H6.out.fr f).B.cell 0
  have l7 := (H6.out.fr f).B.lt
  have T7 := Blk.new w7 #[.int .i64 6, .int .i64 5] 30
  have S7 := HS6.out.fr (f.trans ((Fr.refl (fun _ => False) w7).alloc (.cells #[.int .i64 6, .int .i64 5] 30))) id
  have h8 := (H6.out.fr f).fr ((Fr.refl (fun _ => False) w7).alloc (.cells #[.int .i64 6, .int .i64 5] 30))
  have n7 : ¬ F4 w7.heap.size := fun hk => Nat.lt_irrefl _ ((H6.out.fr f).H.lt hk)
  simp only [Stp.why_s, Stp.at_s, Stp.is_s]
  clear f H6 HS6
  go_wp2_with fail
  obtain ⟨bt, hbt⟩ : ∃ bt, bt = w7.heap.size := ⟨_, rfl⟩
  rw [← hbt] at T7 n7
  rw [← hbt]
  generalize (w7.alloc (.cells #[.int .i64 6, .int .i64 5] 30)) = w8 at *
  clear b7 l7 hbt
  have H8 := Lib.hid h8
  have HS8 := Lib.hid S7
  have HT8 := Lib.hid T7
  have N7 := Lib.hid n7
  have hlet := rank_let x 2 _ _ F4 0 w8 h8.H (by omega) 3 0 rfl (fun j hj => absurd hj (by omega))
  clear h8 S7 T7 n7
  refine hlet.mono ?_
  rintro e w9 ⟨rfl, f9, h9⟩
  have st9 := H8.out.to f9 h9 (fun _ => .inl)
  have H9 := Lib.hid (show RankSt w x 2 bx (LL [5] []) (OO [(5, 0)]) F4 w9 from st9.congr (fun i hi => by match i, hi with
    | 0, _ => rfl
    | 1, _ => rfl) (fun k => by rw [OO_cons 5, OO_cons 5, OO_cons 3]; by_cases e : k = 3 <;> simp [e, OO_nil]))
  have S9 := HS8.out.fr f9 N5.out
  have T9 := HT8.out.fr f9 N7.out
  have b9 := H9.out.B.cell 0
  have s90 := S9.cell 0
  have s91 := S9.cell 1
  have t90 := T9.cell 0
  have t91 := T9.cell 1
  have HL9 := Lib.hid (rank_list x 2 _ _ F4 0 w9 H9.out.H (by omega))
  clear st9 f9 h9 S9 T9 H8 HS8 HT8 N5 N7
  go_wp2_with (first
    | (go_at_call 29; refine HL9.out.mono ?_; rintro e w10 ⟨u, rfl, ou, fu, hu⟩; have b10 := (H9.out.fr fu).B.cell 0; have l10 := (H9.out.fr fu).B.lt; have HU := Lib.hid ou; have HFU := Lib.hid fu; clear ou fu hu))
  have A10 := (Fr.refl (fun _ => False) w10).alloc (.cells #[.int .i64 5] 3)
  have h10 := H9.out.fr (HFU.out.trans A10)
  have H10 := Lib.hid h10
  have c10 := h10.B.cell 0
  have lit : Own (w10.alloc (.cells #[.int .i64 5] 3)) 3 1 1 (.slice (some ⟨w10.heap.size, 0, none⟩) 1 1) (ints [5]) := Own.lit (w := w10) #[.int .i64 5] 3 1 1 (by unfold maxLen; omega) rfl
  have hsame := sl_same u _ [5] [5] _ (HU.out.rd.fr A10 (fun _ _ => id)) lit.rd (by simp)
  have HSM := Lib.hid hsame
  have HO5 := Lib.hid (fun q => (H10.out.drewN q).owner 5 (y := 0) (by rw [OO_cons]; rfl))
  have HO3 := Lib.hid (fun q => (H10.out.drewN q).owner 3 (y := -1) (by rw [OO_cons]; rfl))
  clear h10 A10 lit hsame HU c10
  go_wp2_with (first
    | (go_at_call 28; refine HSM.out.mono ?_; rintro e w' ⟨rfl, q, rfl⟩)
    | (go_at_call 30; (with_reducible refine (HO5.out _).mono ?_); rintro e w' ⟨rfl, rfl⟩)
    | (go_at_call 30; (with_reducible refine (HO3.out _).mono ?_); rintro e w' ⟨rfl, rfl⟩))
  go_ret
  exact ⟨rfl, (H10.out.drewN _).f⟩

theorem rankRuns_walk (w : World) : Calls Try.prog 4 #[] w fun e w' => e = .returned (.bool true) ∧ Below w.heap.size w w' :=
  (rankRuns_any w).mono fun _ _ h => ⟨h.1, h.2.below⟩
end Go.Proofs.Ytoifefcbegdjdaa
