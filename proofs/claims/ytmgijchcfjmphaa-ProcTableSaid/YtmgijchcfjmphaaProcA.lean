import Derived.Test.YtmgijchcfjmphaaProc5
import Derived.Test.YtmgijchcfjmphaaKeep
import Derived.Test.YtmgijchcfjmphaaSame
namespace Go.Proofs.Ytmgijchcfjmphaa
open Go.RowKit

theorem pair_eq {α β : Type} {a : α × β} {x : α} (h : a.1 = x) : a = (x, a.2) := by cases a; cases h; rfl
def bare : St := .of (fun _ => Val.zero)
def pr1 : St := (procNew bare (-1)).2
def pr2 : St := (procNew pr1 0).2
def pr3 : St := (procKids pr2 0).2
def pr4 : St := (procByPid pr3 2).2
def pr5 : St := (procSetFd pr4 1 0 3).2
def pr6 : St := (procFreeFd pr5 1).2
def pr7 : St := (procFree pr6 1).2
def pr8 : St := (procNew pr7 0).2
def pr9 : St := (procByPid pr8 3).2
theorem pe1 : procNew bare (-1) = ((0, true), pr1) := pair_eq (by decide +kernel)
theorem pe2 : procNew pr1 0 = ((1, true), pr2) := pair_eq (by decide +kernel)
theorem pe3 : procKids pr2 0 = ([1], pr3) := pair_eq (by decide +kernel)
theorem pe4 : procByPid pr3 2 = ((1, true), pr4) := pair_eq (by decide +kernel)
theorem pe5 : procSetFd pr4 1 0 3 = (true, pr5) := pair_eq (by decide +kernel)
theorem pe6 : procFreeFd pr5 1 = ((1, true), pr6) := pair_eq (by decide +kernel)
theorem pe7 : procFree pr6 1 = (true, pr7) := pair_eq (by decide +kernel)
theorem pe8 : procNew pr7 0 = ((1, true), pr8) := pair_eq (by decide +kernel)
theorem pe9 : procByPid pr8 3 = ((1, true), pr9) := pair_eq (by decide +kernel)

theorem bare_eq : bare = .of (fun _ => Val.zero) := rfl
attribute [local irreducible] bare pr1 pr2 pr3 pr4 pr5 pr6 pr7 pr8 pr9
section
variable {V : Vw} {w0 w : World} {O : List Own1}
theorem pc1 (h : Keeps V w0 bare O w) : Calls Try.prog 15 #[V.p, .int .i64 (-1)] w (Ret V w0 O w (.tuple #[.int .i64 0, .bool true]) pr1) := by
  have k := proc_new (-1) h
  rw [pe1] at k
  exact k
theorem pc2 (h : Keeps V w0 pr1 O w) : Calls Try.prog 15 #[V.p, .int .i64 0] w (Ret V w0 O w (.tuple #[.int .i64 1, .bool true]) pr2) := by
  have k := proc_new 0 h
  rw [pe2] at k
  exact k
theorem pc3 (h : Keeps V w0 pr2 O w) : Calls Try.prog 16 #[V.p, .int .i64 0] w (RetL V w0 O w [1] pr3) := by
  have k := proc_kids 0 h
  rw [pe3] at k
  exact k
theorem pc4 (h : Keeps V w0 pr3 O w) : Calls Try.prog 17 #[V.p, .int .i64 2] w (Ret V w0 O w (.tuple #[.int .i64 1, .bool true]) pr4) := by
  have k := proc_bypid 2 h
  rw [pe4] at k
  exact k
theorem pc5 (h : Keeps V w0 pr4 O w) : Calls Try.prog 18 #[V.p, .int .i64 1, .int .i64 0, .int .i64 3] w (Ret V w0 O w (.bool true) pr5) := by
  have k := proc_setfd 1 0 3 h
  rw [pe5] at k
  exact k
theorem pc6 (h : Keeps V w0 pr5 O w) : Calls Try.prog 19 #[V.p, .int .i64 1] w (Ret V w0 O w (.tuple #[.int .i64 1, .bool true]) pr6) := by
  have k := proc_freefd 1 h
  rw [pe6] at k
  exact k
theorem pc7 (h : Keeps V w0 pr6 O w) : Calls Try.prog 20 #[V.p, .int .i64 1] w (Ret V w0 O w (.bool true) pr7) := by
  have k := proc_free 1 h
  rw [pe7] at k
  exact k
theorem pc8 (h : Keeps V w0 pr7 O w) : Calls Try.prog 15 #[V.p, .int .i64 0] w (Ret V w0 O w (.tuple #[.int .i64 1, .bool true]) pr8) := by
  have k := proc_new 0 h
  rw [pe8] at k
  exact k
theorem pc9 (h : Keeps V w0 pr8 O w) : Calls Try.prog 17 #[V.p, .int .i64 3] w (Ret V w0 O w (.tuple #[.int .i64 1, .bool true]) pr9) := by
  have k := proc_bypid 3 h
  rw [pe9] at k
  exact k
end

set_option maxRecDepth 100000 in
set_option maxHeartbeats 1000000 in
theorem procRuns_any (w : World) : Calls Try.prog 5 #[] w fun e w' => e = .returned (.bool true) ∧ Fr (fun _ => False) w w' := by
  go_enter Try.func5, Try.ntmps5
  go_wp2_with fail
  refine (keep_new0 _).mono ?_
  rintro e w1 ⟨t, V, rfl, tb, f1, hv⟩
  obtain ⟨q0, q1, q2, hB⟩ := tb.c
  have c1 : w1.cell? ⟨t, 1, none⟩ = some V.p := hB.cell 1
  have HK : Hid (Keeps V w1 bare [] w1) := by rw [bare_eq]; exact tb.vs.keeps
  have HF := Lib.hid f1
  have HV := Lib.hid hv
  clear tb f1 hv hB
  go_wp2_with (first | (go_at_call 15; (with_reducible refine (pc1 HK.out).mono ?_); rintro e w1 ⟨rfl, k1⟩; clear HK; have HK := Lib.hid k1.k; have F1 := Lib.hid k1.f; obtain ⟨s0, own⟩ := k1.facts; simp only [go_sem] at own; clear k1) | (go_at_call 15; (with_reducible refine (pc2 HK.out).mono ?_); rintro e w1 ⟨rfl, k1⟩; clear HK; have HK := Lib.hid k1.k; have F1 := Lib.hid k1.f; obtain ⟨s0, own⟩ := k1.facts; simp only [go_sem] at own; clear k1) | (go_at_call 16; (with_reducible refine (pc3 HK.out).mono ?_); rintro e w7 ⟨v7, rfl, O7, N7, k7⟩; obtain ⟨a7, c7, rfl, _, _⟩ := O7.form; have HD7 := Lib.hid (fun k hk (hf : V.foot k) => by have := N7 k hk; have := HK.out.vs.lt (Vw.foot_has hf); omega : ∀ k, Of (.slice a7 [1].length c7) k → ¬ V.foot k); clear HK; have HO7 := Lib.hid O7; have HN7 := Lib.hid N7; have HF7 := Lib.hid k7.k.fr; have HK := Lib.hid k7.k.vs.keeps; clear O7 N7 k7) | (go_at_call 17; (with_reducible refine (pc4 HK.out).mono ?_); rintro e w1 ⟨rfl, k1⟩; clear HK; have HK := Lib.hid k1.k; have F1 := Lib.hid k1.f; obtain ⟨s0, own⟩ := k1.facts; simp only [go_sem] at own; clear k1) | (go_at_call 18; (with_reducible refine (pc5 HK.out).mono ?_); rintro e w1 ⟨rfl, k1⟩; clear HK; have HK := Lib.hid k1.k; have F1 := Lib.hid k1.f; obtain ⟨s0, own⟩ := k1.facts; simp only [go_sem] at own; clear k1) | (go_at_call 19; (with_reducible refine (pc6 HK.out).mono ?_); rintro e w1 ⟨rfl, k1⟩; clear HK; have HK := Lib.hid k1.k; have F1 := Lib.hid k1.f; obtain ⟨s0, own⟩ := k1.facts; simp only [go_sem] at own; clear k1) | (go_at_call 20; (with_reducible refine (pc7 HK.out).mono ?_); rintro e w1 ⟨rfl, k1⟩; clear HK; have HK := Lib.hid k1.k; have F1 := Lib.hid k1.f; obtain ⟨s0, own⟩ := k1.facts; simp only [go_sem] at own; clear k1) | (go_at_call 15; (with_reducible refine (pc8 HK.out).mono ?_); rintro e w1 ⟨rfl, k1⟩; clear HK; have HK := Lib.hid k1.k; have F1 := Lib.hid k1.f; obtain ⟨s0, own⟩ := k1.facts; simp only [go_sem] at own; clear k1) | (go_at_call 17; (with_reducible refine (pc9 HK.out).mono ?_); rintro e w1 ⟨rfl, k1⟩; clear HK; have HK := Lib.hid k1.k; have F1 := Lib.hid k1.f; obtain ⟨s0, own⟩ := k1.facts; simp only [go_sem] at own; clear k1))
  have f8 : Fr V.foot w7 (w1.alloc (.cells #[.int .i64 1] 3)) := HK.out.fr.trans ((Fr.refl _ _).alloc _)
  have P8 : Own (w1.alloc (.cells #[.int .i64 1] 3)) 3 1 1 (.slice (some ⟨w1.heap.size, 0, none⟩) 1 1) (ints [1]) := Own.lit (w := w1) #[.int .i64 1] 3 1 1 (by unfold maxLen; omega) rfl
  have SM := sl_same _ _ [1] [1] _ (HO7.out.fr f8 HD7.out).rd P8.rd (by simp)
  rw [show decide (([1] : List Int) = [1]) = true from rfl] at SM
  refine SM.mono ?_
  rintro e w9 ⟨rfl, q9, rfl⟩
  clear SM
  have HF8 := Lib.hid f8
  clear f8 P8
  go_wp2_with fail
  go_ret
  refine ⟨rfl, ?_⟩
  exact HF.out.step (HF7.out.trans (HF8.out.drewN q9)) (fun k hk hf => by have := HV.out k (Vw.foot_has hf); omega)
theorem procRuns_walk (w : World) : Calls Try.prog 5 #[] w fun e w' => e = .returned (.bool true) ∧ Below w.heap.size w w' :=
  (procRuns_any w).mono fun _ _ ⟨h, f⟩ => ⟨h, f.below⟩
end Go.Proofs.Ytmgijchcfjmphaa
