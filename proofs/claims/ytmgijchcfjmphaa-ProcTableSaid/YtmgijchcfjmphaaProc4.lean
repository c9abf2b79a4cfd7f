import Derived.Test.YtmgijchcfjmphaaProc3
namespace Go.Proofs.Ytmgijchcfjmphaa
open Go.RowKit

def procSetFd (σ : St) (p fd f : Int) : Bool × St :=
  if (procGet σ p).1.2 = false ∨ fd < 0 ∨ 6 ≤ fd ∨ 12 ≤ f then (false, (procGet σ p).2) else
  (true, (procGet σ p).2.put (procK p) ((procGet σ p).1.1.set (8 + fd).toNat (if f < 0 then 0 else f + 1)))

set_option maxRecDepth 100000 in
set_option maxHeartbeats 1000000 in
theorem proc_setfd {V : Vw} {σ : St} (p fd f : Int) {w0 w : World} {O : List Own1} (h : Keeps V w0 σ O w) :
    Calls Try.prog 18 #[V.p, .int .i64 p, .int .i64 fd, .int .i64 f] w (Ret V w0 O w (.bool (procSetFd σ p fd f).1) (procSetFd σ p fd f).2) := by
  have HH := Lib.hid h
  have HK := Lib.hid h.vs.keeps
  have HO := Lib.hid (procGet_ok h.vs p)
  clear h
  by_cases hf : (procGet σ p).1.2 = true ∧ 0 ≤ fd ∧ fd < 6 ∧ f < 12
  · obtain ⟨hb, f1, f2, f7⟩ := hf
    have HB := Lib.hid hb
    have f3 : (8 + fd).toNat < 16 := by omega
    have f4 : fd < 8 := by omega
    have f5 : (0 : Int) ≤ 8 + fd := by omega
    have f6 : (8 + fd : Int) < 16 := by omega
    by_cases g : f < 0
    · have e1 : (if f < -1 then (-1 : Int) else f) = -1 := by split <;> omega
      have HX := Lib.hid (HO.out.set (8 + fd).toNat (v := 0) (by unfold In64; omega))
      go_enter Try.func18, Try.ntmps18
      go_wp2_with (first | (go_at_call 36; (with_reducible refine (proc_get _ (by repeat' (first | (with_reducible exact HK.out) | (with_reducible apply Keeps.allocB) | (with_reducible apply Keeps.alloc) | (with_reducible apply Keeps.drew) | (with_reducible apply Keeps.drewN) | (with_reducible apply Keeps.setOwn) | (with_reducible apply Keeps.putOwn) | (with_reducible show (_ : Nat) ≤ _; omega)))).mono ?_); rintro e w1 ⟨rfl, k1⟩; clear HK; have HK := Lib.hid k1.k; have F1 := Lib.hid k1.f; obtain ⟨s0, own⟩ := k1.facts; simp only [go_sem] at own; clear k1))
      go_region_with (first | (go_at_call 35; (with_reducible refine (keyed (proc_key _ _) (by repeat' (first | (with_reducible exact HK.out) | (with_reducible apply Keeps.allocB) | (with_reducible apply Keeps.alloc) | (with_reducible apply Keeps.drew) | (with_reducible apply Keeps.drewN) | (with_reducible apply Keeps.setOwn) | (with_reducible apply Keeps.putOwn) | (with_reducible show (_ : Nat) ≤ _; omega)))).mono ?_); rintro e w1 ⟨rfl, k1⟩; clear HK; have HK := Lib.hid k1.k; have F1 := Lib.hid k1.f; obtain ⟨s0, own⟩ := k1.facts; simp only [go_sem] at own; clear k1) | (go_at_call 27; (with_reducible refine (put_ok _ _ HX.out (by repeat' (first | (with_reducible exact HK.out) | (with_reducible apply Keeps.allocB) | (with_reducible apply Keeps.alloc) | (with_reducible apply Keeps.drew) | (with_reducible apply Keeps.drewN) | (with_reducible apply Keeps.setOwn) | (with_reducible apply Keeps.putOwn) | (with_reducible show (_ : Nat) ≤ _; omega)))).mono ?_); rintro e w1 ⟨rfl, k1⟩; clear HK; have HK := Lib.hid k1.k; have F1 := Lib.hid k1.f; obtain ⟨s0, own⟩ := k1.facts; simp only [go_sem] at own; clear k1))
      all_goals (
        go_wp2_with fail
        go_ret
        unfold procSetFd
        rw [if_neg (by rw [HB.out]; simp only [Bool.true_eq_false, false_or]; omega), if_pos g]
        exact ⟨rfl, HH.out.kept (by repeat' (first | (with_reducible exact HK.out) | (with_reducible apply Keeps.allocB) | (with_reducible apply Keeps.alloc) | (with_reducible apply Keeps.drew) | (with_reducible apply Keeps.drewN) | (with_reducible apply Keeps.setOwn) | (with_reducible apply Keeps.putOwn) | (with_reducible show (_ : Nat) ≤ _; omega)))⟩)
    · have e1 : (if f < -1 then (-1 : Int) else f) = f := by rw [if_neg (by omega)]
      have HX := Lib.hid (HO.out.set (8 + fd).toNat (v := f + 1) (by unfold In64; omega))
      go_enter Try.func18, Try.ntmps18
      go_wp2_with (first | (go_at_call 36; (with_reducible refine (proc_get _ (by repeat' (first | (with_reducible exact HK.out) | (with_reducible apply Keeps.allocB) | (with_reducible apply Keeps.alloc) | (with_reducible apply Keeps.drew) | (with_reducible apply Keeps.drewN) | (with_reducible apply Keeps.setOwn) | (with_reducible apply Keeps.putOwn) | (with_reducible show (_ : Nat) ≤ _; omega)))).mono ?_); rintro e w1 ⟨rfl, k1⟩; clear HK; have HK := Lib.hid k1.k; have F1 := Lib.hid k1.f; obtain ⟨s0, own⟩ := k1.facts; simp only [go_sem] at own; clear k1))
      go_region_with (first | (go_at_call 35; (with_reducible refine (keyed (proc_key _ _) (by repeat' (first | (with_reducible exact HK.out) | (with_reducible apply Keeps.allocB) | (with_reducible apply Keeps.alloc) | (with_reducible apply Keeps.drew) | (with_reducible apply Keeps.drewN) | (with_reducible apply Keeps.setOwn) | (with_reducible apply Keeps.putOwn) | (with_reducible show (_ : Nat) ≤ _; omega)))).mono ?_); rintro e w1 ⟨rfl, k1⟩; clear HK; have HK := Lib.hid k1.k; have F1 := Lib.hid k1.f; obtain ⟨s0, own⟩ := k1.facts; simp only [go_sem] at own; clear k1) | (go_at_call 27; (with_reducible refine (put_ok _ _ HX.out (by repeat' (first | (with_reducible exact HK.out) | (with_reducible apply Keeps.allocB) | (with_reducible apply Keeps.alloc) | (with_reducible apply Keeps.drew) | (with_reducible apply Keeps.drewN) | (with_reducible apply Keeps.setOwn) | (with_reducible apply Keeps.putOwn) | (with_reducible show (_ : Nat) ≤ _; omega)))).mono ?_); rintro e w1 ⟨rfl, k1⟩; clear HK; have HK := Lib.hid k1.k; have F1 := Lib.hid k1.f; obtain ⟨s0, own⟩ := k1.facts; simp only [go_sem] at own; clear k1))
      all_goals (
        go_wp2_with fail
        go_ret
        unfold procSetFd
        rw [if_neg (by rw [HB.out]; simp only [Bool.true_eq_false, false_or]; omega), if_neg (by omega)]
        exact ⟨rfl, HH.out.kept (by repeat' (first | (with_reducible exact HK.out) | (with_reducible apply Keeps.allocB) | (with_reducible apply Keeps.alloc) | (with_reducible apply Keeps.drew) | (with_reducible apply Keeps.drewN) | (with_reducible apply Keeps.setOwn) | (with_reducible apply Keeps.putOwn) | (with_reducible show (_ : Nat) ≤ _; omega)))⟩)
  · have key : (procGet σ p).1.2 = false ∨ fd < 0 ∨ 6 ≤ fd ∨ 12 ≤ f := by
      cases hb : (procGet σ p).1.2 with
      | false => exact .inl rfl
      | true => exact .inr (Classical.byContradiction fun hn => hf ⟨hb, by omega, by omega, by omega⟩)
    have HE := Lib.hid (show procSetFd σ p fd f = (false, (procGet σ p).2) by unfold procSetFd; rw [if_pos key])
    clear hf
    rw [HE.out]
    by_cases c1 : (procGet σ p).1.2 = true
    · have c2 : fd < 0 ∨ (0 ≤ fd ∧ 6 ≤ fd) ∨ (0 ≤ fd ∧ fd < 6 ∧ 12 ≤ f) := by
        rcases key with k | k
        · rw [c1] at k; simp at k
        · omega
      clear key
      rcases c2 with c2 | ⟨c2, c3⟩ | ⟨c2, c3, c4⟩
      all_goals (
        go_enter Try.func18, Try.ntmps18
        go_wp2_with (first | (go_at_call 36; (with_reducible refine (proc_get _ (by repeat' (first | (with_reducible exact HK.out) | (with_reducible apply Keeps.allocB) | (with_reducible apply Keeps.alloc) | (with_reducible apply Keeps.drew) | (with_reducible apply Keeps.drewN) | (with_reducible apply Keeps.setOwn) | (with_reducible apply Keeps.putOwn) | (with_reducible show (_ : Nat) ≤ _; omega)))).mono ?_); rintro e w1 ⟨rfl, k1⟩; clear HK; have HK := Lib.hid k1.k; have F1 := Lib.hid k1.f; obtain ⟨s0, own⟩ := k1.facts; simp only [go_sem] at own; clear k1))
        go_ret
        exact ⟨rfl, HH.out.kept (by repeat' (first | (with_reducible exact HK.out) | (with_reducible apply Keeps.allocB) | (with_reducible apply Keeps.alloc) | (with_reducible apply Keeps.drew) | (with_reducible apply Keeps.drewN) | (with_reducible apply Keeps.setOwn) | (with_reducible apply Keeps.putOwn) | (with_reducible show (_ : Nat) ≤ _; omega)))⟩)
    · have c2 : (procGet σ p).1.2 = false := by simpa using c1
      clear key c1
      go_enter Try.func18, Try.ntmps18
      go_wp2_with (first | (go_at_call 36; (with_reducible refine (proc_get _ (by repeat' (first | (with_reducible exact HK.out) | (with_reducible apply Keeps.allocB) | (with_reducible apply Keeps.alloc) | (with_reducible apply Keeps.drew) | (with_reducible apply Keeps.drewN) | (with_reducible apply Keeps.setOwn) | (with_reducible apply Keeps.putOwn) | (with_reducible show (_ : Nat) ≤ _; omega)))).mono ?_); rintro e w1 ⟨rfl, k1⟩; clear HK; have HK := Lib.hid k1.k; have F1 := Lib.hid k1.f; obtain ⟨s0, own⟩ := k1.facts; simp only [go_sem] at own; clear k1))
      go_ret
      exact ⟨rfl, HH.out.kept (by repeat' (first | (with_reducible exact HK.out) | (with_reducible apply Keeps.allocB) | (with_reducible apply Keeps.alloc) | (with_reducible apply Keeps.drew) | (with_reducible apply Keeps.drewN) | (with_reducible apply Keeps.setOwn) | (with_reducible apply Keeps.putOwn) | (with_reducible show (_ : Nat) ≤ _; omega)))⟩

def kidsFrom (p : Int) : Nat → Nat → List Int → St → List Int × St
  | 0, _, acc, σ => (acc, σ)
  | l + 1, k, acc, σ => kidsFrom p l (k + 1) (if (procGet σ k).1.2 = true ∧ (procGet σ k).1.1.n 1 = wrap64 (p + 1) then acc ++ [(k : Int)] else acc) (procGet σ k).2
def procKids (σ : St) (p : Int) : List Int × St := kidsFrom p 8 0 [] σ
/-- what a call comes to: a new list of numbers, and the view's next state -/
def RetL (V : Vw) (w0 : World) (O : List Own1) (w : World) (l : List Int) (σ : St) (e : Ending) (w' : World) : Prop :=
  ∃ v, e = .returned v ∧ Own w' 3 1 l.length v (ints l) ∧ (∀ k, Of v k → w.heap.size ≤ k) ∧ Kept V w0 O w σ w'
/-- a list of the call's own, behind a call that turns the view alone -/
theorem Own.kept {V : Vw} {a w w' : World} {n : Nat} {v : Value} {xs : List Value} (h : Own w 3 1 n v xs) (k : ∀ k, V.has k → k < a.heap.size) (hv : ∀ k, Of v k → a.heap.size ≤ k) (f : Fr V.foot w w') : Own w' 3 1 n v xs :=
  h.fr f (fun b hb hf => by have := hv b hb; have := k _ (Vw.foot_has hf); omega)

set_option maxRecDepth 100000 in
set_option maxHeartbeats 1000000 in
theorem proc_kids {V : Vw} {σ : St} (p : Int) {w0 w : World} {O : List Own1} (h : Keeps V w0 σ O w) :
    Calls Try.prog 16 #[V.p, .int .i64 p] w (RetL V w0 O w (procKids σ p).1 (procKids σ p).2) := by
  obtain ⟨i0, hif, hz0, hz1, hz2⟩ := info_parts info_int1
  have HH := Lib.hid h
  have HK0 := Lib.hid h.vs.keeps
  clear h
  go_enter Try.func16, Try.ntmps16
  go_wp2_with fail
  go_loopw [5, 9] (fun t5 t9 wr => ∃ (k : Nat) (σ' : St) (acc : List Int), k ≤ 8 ∧ t9 = .int .i64 k ∧ acc.length ≤ k ∧ Own wr 3 1 acc.length t5 (ints acc) ∧ (∀ b, Of t5 b → w.heap.size ≤ b) ∧ Keeps V w σ' [] wr ∧ procKids σ p = kidsFrom p (8 - k) k acc σ') (fun _ t9 _ => (8 - intOf t9).toNat)
  case atStart => exact ⟨0, σ, [], by omega, rfl, by simp, Own.nil _ _ _, fun b hb => by simp [Of, Value.ownBlock] at hb, HK0.out, rfl⟩
  case round =>
    obtain ⟨k, σ', acc, hk, rfl, ha, hO, hN, hK, hE⟩ := hrel
    have HK := Lib.hid hK
    have HE := Lib.hid hE
    have HO := Lib.hid hO
    have HN := Lib.hid hN
    clear hK hE hO hN
    by_cases hlt : k < 8
    · have hlt' : (k : Int) < 8 := by omega
      obtain ⟨l, hl⟩ : ∃ l, 8 - k = l + 1 := ⟨8 - k - 1, by omega⟩
      have HL := Lib.hid hl
      clear hl
      have hacc : acc.length ≤ 1000000000 := by omega
      go_wp2_with (first | (go_at_call 36; (with_reducible refine (proc_get _ (by repeat' (first | (with_reducible exact HK.out) | (with_reducible apply Keeps.allocB) | (with_reducible apply Keeps.alloc) | (with_reducible apply Keeps.drew) | (with_reducible apply Keeps.drewN) | (with_reducible apply Keeps.setOwn) | (with_reducible apply Keeps.putOwn) | (with_reducible show (_ : Nat) ≤ _; omega)))).mono ?_); rintro e w1 ⟨rfl, k1⟩; clear HK; have HK := Lib.hid k1.k; have F1 := Lib.hid k1.f; obtain ⟨s0, own⟩ := k1.facts; simp only [go_sem] at own; clear k1) | (at_builtin; refine wpList_append1 rfl _ _ 42 rfl 3 i0 (.int .i64 0) 8 Try.underlying42 hif hz0 hz1 hz2 rfl (by decide) _ _ (ints acc) rfl (.int .i64 k) 3 ((HO.out.kept HK.out.lt HN.out F1.out).fr (((Fr.refl (fun _ => False) _).alloc _).alloc _) (fun _ _ => id)) (w1.heap.size + 1) (by simp) rfl rfl hacc ?_; intro v' w' O2 F2 N2; have HO2 := Lib.hid O2; have HF2 := Lib.hid F2; have HN2 := Lib.hid N2; clear O2 F2 N2))
      · have hk2 := (HK.out.alloc (.cells (procGet σ' k).1.1.cells 59)).alloc (.cells #[.int .i64 (k : Int)] 3)
        have e : ints acc ++ [.int .i64 (k : Int)] = ints (acc ++ [(k : Int)]) := by simp [ints]
        have ho := HO2.out
        rw [e] at ho
        refine ⟨⟨k + 1, (procGet σ' k).2, acc ++ [(k : Int)], by omega, by go_num, by simp; omega, by simpa using ho, fun b hb => (HN2.out b hb).elim (HN.out b) (fun h => by have := HK.out.fr.size; simp at h; omega), hk2.step HF2.out HN.out, ?_⟩, by simp [intOf]; omega⟩
        rw [HE.out, HL.out, show 8 - (k + 1) = l by have := HL.out; omega]
        rw [kidsFrom, if_pos (by first | omega | (simp_all; done) | (simp_all; omega))]
      all_goals (
        refine ⟨⟨k + 1, (procGet σ' k).2, acc, by omega, by go_num, by omega, (HO.out.kept HK.out.lt HN.out F1.out).fr ((Fr.refl (fun _ => False) _).alloc _) (fun _ _ => id), HN.out, Keeps.none (by repeat' (first | (with_reducible exact HK.out) | (with_reducible apply Keeps.allocB) | (with_reducible apply Keeps.alloc) | (with_reducible apply Keeps.drew) | (with_reducible apply Keeps.drewN) | (with_reducible apply Keeps.setOwn) | (with_reducible apply Keeps.putOwn) | (with_reducible show (_ : Nat) ≤ _; omega))), ?_⟩, by simp [intOf]; omega⟩
        rw [HE.out, HL.out, show 8 - (k + 1) = l by have := HL.out; omega]
        rw [kidsFrom, if_neg (by first | omega | (simp_all; done) | (simp_all; omega))])
    · have hlt' : ¬ (k : Int) < 8 := by omega
      obtain rfl : k = 8 := by omega
      go_wp2_with fail
      go_ret
      rw [HE.out, show kidsFrom p (8 - 8) 8 acc σ' = (acc, σ') from rfl]
      exact ⟨_, rfl, HO.out, HN.out, HH.out.kept (by repeat' (first | (with_reducible exact HK.out) | (with_reducible apply Keeps.allocB) | (with_reducible apply Keeps.alloc) | (with_reducible apply Keeps.drew) | (with_reducible apply Keeps.drewN) | (with_reducible apply Keeps.setOwn) | (with_reducible apply Keeps.putOwn) | (with_reducible show (_ : Nat) ≤ _; omega)))⟩
end Go.Proofs.Ytmgijchcfjmphaa
