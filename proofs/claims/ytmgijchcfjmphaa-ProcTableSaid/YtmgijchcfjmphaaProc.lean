import Derived.Test.YtmgijchcfjmphaaViewP
namespace Go.Proofs.Ytmgijchcfjmphaa
open Go.RowKit

theorem proc_key (p : Int) (w : World) : Calls Try.prog 35 #[.int .i64 p] w fun e w' => e = .returned (keyV (procK p)) ∧ Fr (fun _ => False) w w' := by
  go_enter Try.func35, Try.ntmps35
  go_wp2_with fail
  exact bodyPost_ret (v := keyV (procK p)) (by simp [results, Try.results35, go_sem]) rfl ⟨rfl, (Fr.refl _ _).alloc _⟩
theorem proc_table (w : World) : Calls Try.prog 34 #[] w fun e w' => e = .returned (keyV procsK) ∧ Fr (fun _ => False) w w' := by
  go_enter Try.func34, Try.ntmps34
  go_wp2_with fail
  exact bodyPost_ret (v := keyV procsK) (by simp [results, Try.results34, go_sem]) rfl ⟨rfl, (Fr.refl _ _).alloc _⟩

def procGet (σ : St) (p : Int) : (Val × Bool) × St :=
  if p < 0 ∨ 8 ≤ p then ((.ofS ⟨#[]⟩, false), σ) else
  if bit ((σ.get procsK).n 0) p = 0 then ((.ofS ⟨#[]⟩, false), σ.got procsK) else
  (((σ.got procsK).get (procK p), ((σ.got procsK).get (procK p)).n 0 != 0), (σ.got procsK).got (procK p))

theorem procGet_bd {σ : St} {p : Int} (h : (procGet σ p).1.2 = true) : 0 ≤ p ∧ p < 8 := by
  unfold procGet at h
  by_cases e : p < 0 ∨ 8 ≤ p
  · rw [if_pos e] at h; simp at h
  · omega
/-- what a process holds; the view behind asking it -/
theorem procGet_get (σ : St) (p : Int) (k : Key) : (procGet σ p).2.get k = σ.get k := by
  unfold procGet
  split
  · rfl
  · split
    · show (σ.got procsK).get k = _
      exact St.get_got _ _ _
    · show ((σ.got procsK).got (procK p)).get k = _
      rw [St.get_got, St.get_got]
theorem procGet_val (σ : St) (p : Int) : (procGet σ p).1.1 = .ofS ⟨#[]⟩ ∨ (procGet σ p).1.1 = σ.get (procK p) := by
  unfold procGet
  split
  · exact .inl rfl
  · split
    · exact .inl rfl
    · exact .inr (St.get_got _ _ _)
theorem procGet_ok {V : Vw} {σ : St} {w : World} (h : VS w V σ) (p : Int) : (procGet σ p).1.1.Ok := by
  rcases procGet_val σ p with e | e
  · rw [e]; exact Val.zero_ok
  · rw [e]; exact h.ok _

set_option maxRecDepth 100000 in
set_option maxHeartbeats 1000000 in
theorem proc_get {V : Vw} {σ : St} (p : Int) {w0 w : World} {O : List Own1} (h : Keeps V w0 σ O w) :
    Calls Try.prog 36 #[V.p, .int .i64 p] w (Ret V w0 O w (.tuple #[.agg (procGet σ p).1.1.cells, .bool (procGet σ p).1.2]) (procGet σ p).2) := by
  have HH := Lib.hid h
  have HK := Lib.hid h.vs.keeps
  clear h
  go_enter Try.func36, Try.ntmps36
  go_wp2_with (first | (go_at_call 34; (with_reducible refine (keyed (proc_table _) (by repeat' (first | (with_reducible exact HK.out) | (with_reducible apply Keeps.allocB) | (with_reducible apply Keeps.alloc) | (with_reducible apply Keeps.drew) | (with_reducible apply Keeps.drewN) | (with_reducible apply Keeps.setOwn) | (with_reducible apply Keeps.putOwn) | (with_reducible show (_ : Nat) ≤ _; omega)))).mono ?_); rintro e w1 ⟨rfl, k1⟩; clear HK; have HK := Lib.hid k1.k; have F1 := Lib.hid k1.f; obtain ⟨s0, own⟩ := k1.facts; simp only [go_sem] at own; clear k1) | (go_at_call 35; (with_reducible refine (keyed (proc_key _ _) (by repeat' (first | (with_reducible exact HK.out) | (with_reducible apply Keeps.allocB) | (with_reducible apply Keeps.alloc) | (with_reducible apply Keeps.drew) | (with_reducible apply Keeps.drewN) | (with_reducible apply Keeps.setOwn) | (with_reducible apply Keeps.putOwn) | (with_reducible show (_ : Nat) ≤ _; omega)))).mono ?_); rintro e w1 ⟨rfl, k1⟩; clear HK; have HK := Lib.hid k1.k; have F1 := Lib.hid k1.f; obtain ⟨s0, own⟩ := k1.facts; simp only [go_sem] at own; clear k1) | (go_at_call 24; (with_reducible refine (get_ok _ (by repeat' (first | (with_reducible exact HK.out) | (with_reducible apply Keeps.allocB) | (with_reducible apply Keeps.alloc) | (with_reducible apply Keeps.drew) | (with_reducible apply Keeps.drewN) | (with_reducible apply Keeps.setOwn) | (with_reducible apply Keeps.putOwn) | (with_reducible show (_ : Nat) ≤ _; omega)))).mono ?_); rintro e w1 ⟨rfl, k1⟩; clear HK; have HK := Lib.hid k1.k; have F1 := Lib.hid k1.f; obtain ⟨s0, own⟩ := k1.facts; simp only [go_sem] at own; clear k1))
  · have e : procGet σ p = ((.ofS ⟨#[]⟩, false), σ.got procsK) := by unfold procGet; rw [if_neg (by omega), if_pos (or_late (by omega) ‹(p < 0 ∨ 8 ≤ p) ∨ _›)]
    rw [e]
    refine bodyPost_ret (results_val2 Try.results36 rfl ?_) rfl ⟨rfl, HH.out.kept (by repeat' (first | (with_reducible exact HK.out) | (with_reducible apply Keeps.allocB) | (with_reducible apply Keeps.alloc) | (with_reducible apply Keeps.drew) | (with_reducible apply Keeps.drewN) | (with_reducible apply Keeps.setOwn) | (with_reducible apply Keeps.putOwn) | (with_reducible show (_ : Nat) ≤ _; omega)))⟩
    simp [go_sem, *]
  · go_region
    all_goals (
      go_wp2_with fail
      have e : procGet σ p = (((σ.got procsK).get (procK p), ((σ.got procsK).get (procK p)).n 0 != 0), (σ.got procsK).got (procK p)) := by unfold procGet; rw [if_neg (by omega), if_neg (by simp_all)]
      rw [e]
      refine bodyPost_ret (results_val2 Try.results36 rfl ?_) rfl ⟨rfl, HH.out.kept (by repeat' (first | (with_reducible exact HK.out) | (with_reducible apply Keeps.allocB) | (with_reducible apply Keeps.alloc) | (with_reducible apply Keeps.drew) | (with_reducible apply Keeps.drewN) | (with_reducible apply Keeps.setOwn) | (with_reducible apply Keeps.putOwn) | (with_reducible show (_ : Nat) ≤ _; omega)))⟩
      simp [go_sem, *])
  all_goals (
    have e : procGet σ p = ((.ofS ⟨#[]⟩, false), σ) := by unfold procGet; rw [if_pos (by omega)]
    rw [e]
    refine bodyPost_ret (results_val2 Try.results36 rfl ?_) rfl ⟨rfl, HH.out.kept (by repeat' (first | (with_reducible exact HK.out) | (with_reducible apply Keeps.allocB) | (with_reducible apply Keeps.alloc) | (with_reducible apply Keeps.drew) | (with_reducible apply Keeps.drewN) | (with_reducible apply Keeps.setOwn) | (with_reducible apply Keeps.putOwn) | (with_reducible show (_ : Nat) ≤ _; omega)))⟩
    simp [go_sem, *])
end Go.Proofs.Ytmgijchcfjmphaa
