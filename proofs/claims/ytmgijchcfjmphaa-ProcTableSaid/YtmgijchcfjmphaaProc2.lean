import Derived.Test.YtmgijchcfjmphaaProc
namespace Go.Proofs.Ytmgijchcfjmphaa
open Go.RowKit

set_option maxRecDepth 100000 in
set_option maxHeartbeats 1000000 in
theorem proc_state {V : Vw} {σ : St} (p : Int) {w0 w : World} {O : List Own1} (h : Keeps V w0 σ O w) :
    Calls Try.prog 23 #[V.p, .int .i64 p] w (Ret V w0 O w (.int .i64 ((procGet σ p).1.1.n 0)) (procGet σ p).2) := by
  have HH := Lib.hid h
  have HK := Lib.hid h.vs.keeps
  clear h
  go_enter Try.func23, Try.ntmps23
  go_wp2_with (first | (go_at_call 36; (with_reducible refine (proc_get _ (by repeat' (first | (with_reducible exact HK.out) | (with_reducible apply Keeps.allocB) | (with_reducible apply Keeps.alloc) | (with_reducible apply Keeps.drew) | (with_reducible apply Keeps.drewN) | (with_reducible apply Keeps.setOwn) | (with_reducible apply Keeps.putOwn) | (with_reducible show (_ : Nat) ≤ _; omega)))).mono ?_); rintro e w1 ⟨rfl, k1⟩; clear HK; have HK := Lib.hid k1.k; have F1 := Lib.hid k1.f; obtain ⟨s0, own⟩ := k1.facts; simp only [go_sem] at own; clear k1))
  go_ret
  exact ⟨rfl, HH.out.kept (by repeat' (first | (with_reducible exact HK.out) | (with_reducible apply Keeps.allocB) | (with_reducible apply Keeps.alloc) | (with_reducible apply Keeps.drew) | (with_reducible apply Keeps.drewN) | (with_reducible apply Keeps.setOwn) | (with_reducible apply Keeps.putOwn) | (with_reducible show (_ : Nat) ≤ _; omega)))⟩

def procFd (σ : St) (p fd : Int) : (Int × Bool) × St :=
  if (procGet σ p).1.2 = false ∨ fd < 0 ∨ 6 ≤ fd then ((0, false), (procGet σ p).2) else
  if (procGet σ p).1.1.n (8 + fd).toNat < 1 ∨ 12 < (procGet σ p).1.1.n (8 + fd).toNat then ((0, false), (procGet σ p).2) else
  (((procGet σ p).1.1.n (8 + fd).toNat - 1, true), (procGet σ p).2)

set_option maxRecDepth 100000 in
set_option maxHeartbeats 1000000 in
theorem proc_fd {V : Vw} {σ : St} (p fd : Int) {w0 w : World} {O : List Own1} (h : Keeps V w0 σ O w) :
    Calls Try.prog 22 #[V.p, .int .i64 p, .int .i64 fd] w (Ret V w0 O w (.tuple #[.int .i64 (procFd σ p fd).1.1, .bool (procFd σ p fd).1.2]) (procFd σ p fd).2) := by
  have HH := Lib.hid h
  have HK := Lib.hid h.vs.keeps
  have HN := Lib.hid (fun i => (procGet_ok h.vs p).n i)
  clear h
  by_cases hf : 0 ≤ fd ∧ fd < 6
  · obtain ⟨f1, f2⟩ := hf
    have f3 : (8 + fd).toNat < 16 := by omega
    have nb := HN.out (8 + fd).toNat
    unfold In64 at nb
    obtain ⟨n1, n2⟩ := nb
    have f4 : fd < 8 := by omega
    have f5 : (0 : Int) ≤ 8 + fd := by omega
    have f6 : (8 + fd : Int) < 16 := by omega
    go_enter Try.func22, Try.ntmps22
    go_wp2_with (first | (go_at_call 36; (with_reducible refine (proc_get _ (by repeat' (first | (with_reducible exact HK.out) | (with_reducible apply Keeps.allocB) | (with_reducible apply Keeps.alloc) | (with_reducible apply Keeps.drew) | (with_reducible apply Keeps.drewN) | (with_reducible apply Keeps.setOwn) | (with_reducible apply Keeps.putOwn) | (with_reducible show (_ : Nat) ≤ _; omega)))).mono ?_); rintro e w1 ⟨rfl, k1⟩; clear HK; have HK := Lib.hid k1.k; have F1 := Lib.hid k1.f; obtain ⟨s0, own⟩ := k1.facts; simp only [go_sem] at own; clear k1))
    all_goals (
      go_ret2
      unfold procFd
      repeat (first | rw [if_pos (by first | omega | (simp_all; done) | (simp_all; omega))] | rw [if_neg (by first | omega | (simp_all; done) | (simp_all; omega))])
      exact ⟨rfl, HH.out.kept (by repeat' (first | (with_reducible exact HK.out) | (with_reducible apply Keeps.allocB) | (with_reducible apply Keeps.alloc) | (with_reducible apply Keeps.drew) | (with_reducible apply Keeps.drewN) | (with_reducible apply Keeps.setOwn) | (with_reducible apply Keeps.putOwn) | (with_reducible show (_ : Nat) ≤ _; omega)))⟩)
  · go_enter Try.func22, Try.ntmps22
    go_wp2_with (first | (go_at_call 36; (with_reducible refine (proc_get _ (by repeat' (first | (with_reducible exact HK.out) | (with_reducible apply Keeps.allocB) | (with_reducible apply Keeps.alloc) | (with_reducible apply Keeps.drew) | (with_reducible apply Keeps.drewN) | (with_reducible apply Keeps.setOwn) | (with_reducible apply Keeps.putOwn) | (with_reducible show (_ : Nat) ≤ _; omega)))).mono ?_); rintro e w1 ⟨rfl, k1⟩; clear HK; have HK := Lib.hid k1.k; have F1 := Lib.hid k1.f; obtain ⟨s0, own⟩ := k1.facts; simp only [go_sem] at own; clear k1))
    all_goals (
      go_ret2
      unfold procFd
      rw [if_pos (by first | omega | (simp_all; done) | (simp_all; omega))]
      exact ⟨rfl, HH.out.kept (by repeat' (first | (with_reducible exact HK.out) | (with_reducible apply Keeps.allocB) | (with_reducible apply Keeps.alloc) | (with_reducible apply Keeps.drew) | (with_reducible apply Keeps.drewN) | (with_reducible apply Keeps.setOwn) | (with_reducible apply Keeps.putOwn) | (with_reducible show (_ : Nat) ≤ _; omega)))⟩)

def procFree (σ : St) (p : Int) : Bool × St :=
  if (procGet σ p).1.2 = false then (false, (procGet σ p).2) else
  (true, ((((procGet σ p).2.got procsK).put procsK (((procGet σ p).2.get procsK).set 0 (clrBit (((procGet σ p).2.get procsK).n 0) p))).put (procK p) (.ofS ⟨#[]⟩)).put (memK p) (.ofS ⟨#[]⟩))

set_option maxRecDepth 100000 in
set_option maxHeartbeats 1000000 in
theorem proc_free {V : Vw} {σ : St} (p : Int) {w0 w : World} {O : List Own1} (h : Keeps V w0 σ O w) :
    Calls Try.prog 20 #[V.p, .int .i64 p] w (Ret V w0 O w (.bool (procFree σ p).1) (procFree σ p).2) := by
  have HH := Lib.hid h
  have HK := Lib.hid h.vs.keeps
  cases hb : (procGet σ p).1.2 with
  | false =>
    have HB := Lib.hid hb
    clear h
    go_enter Try.func20, Try.ntmps20
    go_wp2_with (first | (go_at_call 36; (with_reducible refine (proc_get _ (by repeat' (first | (with_reducible exact HK.out) | (with_reducible apply Keeps.allocB) | (with_reducible apply Keeps.alloc) | (with_reducible apply Keeps.drew) | (with_reducible apply Keeps.drewN) | (with_reducible apply Keeps.setOwn) | (with_reducible apply Keeps.putOwn) | (with_reducible show (_ : Nat) ≤ _; omega)))).mono ?_); rintro e w1 ⟨rfl, k1⟩; clear HK; have HK := Lib.hid k1.k; have F1 := Lib.hid k1.f; obtain ⟨s0, own⟩ := k1.facts; simp only [go_sem] at own; clear k1))
    go_ret
    have e : procFree σ p = (false, (procGet σ p).2) := by unfold procFree; rw [if_pos HB.out]
    rw [e]
    exact ⟨rfl, HH.out.kept (by repeat' (first | (with_reducible exact HK.out) | (with_reducible apply Keeps.allocB) | (with_reducible apply Keeps.alloc) | (with_reducible apply Keeps.drew) | (with_reducible apply Keeps.drewN) | (with_reducible apply Keeps.setOwn) | (with_reducible apply Keeps.putOwn) | (with_reducible show (_ : Nat) ≤ _; omega)))⟩
  | true =>
    have HB := Lib.hid hb
    obtain ⟨p1, p2⟩ := procGet_bd hb
    have HX := Lib.hid (((procGet_get σ p procsK).symm ▸ h.vs.ok procsK).set 0 (bits_in .andNot (((procGet σ p).2.get procsK).n 0) (wrap64 (2 ^ p.toNat))))
    have HZ := Lib.hid (Val.ofS_ok (s := ⟨#[]⟩) (by simp [ByteArray.size]))
    clear h
    go_enter Try.func20, Try.ntmps20
    go_wp2_with (first | (go_at_call 36; (with_reducible refine (proc_get _ (by repeat' (first | (with_reducible exact HK.out) | (with_reducible apply Keeps.allocB) | (with_reducible apply Keeps.alloc) | (with_reducible apply Keeps.drew) | (with_reducible apply Keeps.drewN) | (with_reducible apply Keeps.setOwn) | (with_reducible apply Keeps.putOwn) | (with_reducible show (_ : Nat) ≤ _; omega)))).mono ?_); rintro e w1 ⟨rfl, k1⟩; clear HK; have HK := Lib.hid k1.k; have F1 := Lib.hid k1.f; obtain ⟨s0, own⟩ := k1.facts; simp only [go_sem] at own; clear k1) | (go_at_call 34; (with_reducible refine (keyed (proc_table _) (by repeat' (first | (with_reducible exact HK.out) | (with_reducible apply Keeps.allocB) | (with_reducible apply Keeps.alloc) | (with_reducible apply Keeps.drew) | (with_reducible apply Keeps.drewN) | (with_reducible apply Keeps.setOwn) | (with_reducible apply Keeps.putOwn) | (with_reducible show (_ : Nat) ≤ _; omega)))).mono ?_); rintro e w1 ⟨rfl, k1⟩; clear HK; have HK := Lib.hid k1.k; have F1 := Lib.hid k1.f; obtain ⟨s0, own⟩ := k1.facts; simp only [go_sem] at own; clear k1) | (go_at_call 24; (with_reducible refine (get_ok _ (by repeat' (first | (with_reducible exact HK.out) | (with_reducible apply Keeps.allocB) | (with_reducible apply Keeps.alloc) | (with_reducible apply Keeps.drew) | (with_reducible apply Keeps.drewN) | (with_reducible apply Keeps.setOwn) | (with_reducible apply Keeps.putOwn) | (with_reducible show (_ : Nat) ≤ _; omega)))).mono ?_); rintro e w1 ⟨rfl, k1⟩; clear HK; have HK := Lib.hid k1.k; have F1 := Lib.hid k1.f; obtain ⟨s0, own⟩ := k1.facts; simp only [go_sem] at own; clear k1))
    go_region_with (first | (go_at_call 34; (with_reducible refine (keyed (proc_table _) (by repeat' (first | (with_reducible exact HK.out) | (with_reducible apply Keeps.allocB) | (with_reducible apply Keeps.alloc) | (with_reducible apply Keeps.drew) | (with_reducible apply Keeps.drewN) | (with_reducible apply Keeps.setOwn) | (with_reducible apply Keeps.putOwn) | (with_reducible show (_ : Nat) ≤ _; omega)))).mono ?_); rintro e w1 ⟨rfl, k1⟩; clear HK; have HK := Lib.hid k1.k; have F1 := Lib.hid k1.f; obtain ⟨s0, own⟩ := k1.facts; simp only [go_sem] at own; clear k1) | (go_at_call 27; (with_reducible refine (put_ok _ _ HX.out (by repeat' (first | (with_reducible exact HK.out) | (with_reducible apply Keeps.allocB) | (with_reducible apply Keeps.alloc) | (with_reducible apply Keeps.drew) | (with_reducible apply Keeps.drewN) | (with_reducible apply Keeps.setOwn) | (with_reducible apply Keeps.putOwn) | (with_reducible show (_ : Nat) ≤ _; omega)))).mono ?_); rintro e w1 ⟨rfl, k1⟩; clear HK; have HK := Lib.hid k1.k; have F1 := Lib.hid k1.f; obtain ⟨s0, own⟩ := k1.facts; simp only [go_sem] at own; clear k1))
    all_goals (
      go_wp2_with (first | (go_at_call 35; (with_reducible refine (keyed (proc_key _ _) (by repeat' (first | (with_reducible exact HK.out) | (with_reducible apply Keeps.allocB) | (with_reducible apply Keeps.alloc) | (with_reducible apply Keeps.drew) | (with_reducible apply Keeps.drewN) | (with_reducible apply Keeps.setOwn) | (with_reducible apply Keeps.putOwn) | (with_reducible show (_ : Nat) ≤ _; omega)))).mono ?_); rintro e w1 ⟨rfl, k1⟩; clear HK; have HK := Lib.hid k1.k; have F1 := Lib.hid k1.f; obtain ⟨s0, own⟩ := k1.facts; simp only [go_sem] at own; clear k1) | (go_at_call 27; (with_reducible refine (put_ok (procK p) _ HZ.out (by repeat' (first | (with_reducible exact HK.out) | (with_reducible apply Keeps.allocB) | (with_reducible apply Keeps.alloc) | (with_reducible apply Keeps.drew) | (with_reducible apply Keeps.drewN) | (with_reducible apply Keeps.setOwn) | (with_reducible apply Keeps.putOwn) | (with_reducible show (_ : Nat) ≤ _; omega)))).mono ?_); rintro e w1 ⟨rfl, k1⟩; clear HK; have HK := Lib.hid k1.k; have F1 := Lib.hid k1.f; obtain ⟨s0, own⟩ := k1.facts; simp only [go_sem] at own; clear k1) | (go_at_call 27; (with_reducible refine (put_ok (memK p) _ HZ.out (by repeat' (first | (with_reducible exact HK.out) | (with_reducible apply Keeps.allocB) | (with_reducible apply Keeps.alloc) | (with_reducible apply Keeps.drew) | (with_reducible apply Keeps.drewN) | (with_reducible apply Keeps.setOwn) | (with_reducible apply Keeps.putOwn) | (with_reducible show (_ : Nat) ≤ _; omega)))).mono ?_); rintro e w1 ⟨rfl, k1⟩; clear HK; have HK := Lib.hid k1.k; have F1 := Lib.hid k1.f; obtain ⟨s0, own⟩ := k1.facts; simp only [go_sem] at own; clear k1))
      go_ret
      unfold procFree
      rw [if_neg (by rw [HB.out]; decide)]
      exact ⟨rfl, HH.out.kept (by repeat' (first | (with_reducible exact HK.out) | (with_reducible apply Keeps.allocB) | (with_reducible apply Keeps.alloc) | (with_reducible apply Keeps.drew) | (with_reducible apply Keeps.drewN) | (with_reducible apply Keeps.setOwn) | (with_reducible apply Keeps.putOwn) | (with_reducible show (_ : Nat) ≤ _; omega)))⟩)
end Go.Proofs.Ytmgijchcfjmphaa
