import Derived.Test.YtmgijchcfjmphaaProc2
import Derived.Test.YtmgijchcfjmphaaRd
namespace Go.Proofs.Ytmgijchcfjmphaa
open Go.RowKit

def byPidFrom (id : Int) : Nat → Nat → St → (Int × Bool) × St
  | 0, _, σ => ((0, false), σ)
  | l + 1, k, σ => if (procGet σ k).1.2 = true ∧ (procGet σ k).1.1.n 2 = id then ((k, true), (procGet σ k).2) else byPidFrom id l (k + 1) (procGet σ k).2
def procByPid (σ : St) (id : Int) : (Int × Bool) × St := byPidFrom id 8 0 σ

set_option maxRecDepth 100000 in
set_option maxHeartbeats 1000000 in
theorem proc_bypid {V : Vw} {σ : St} (id : Int) {w0 w : World} {O : List Own1} (h : Keeps V w0 σ O w) :
    Calls Try.prog 17 #[V.p, .int .i64 id] w (Ret V w0 O w (.tuple #[.int .i64 (procByPid σ id).1.1, .bool (procByPid σ id).1.2]) (procByPid σ id).2) := by
  have HH := Lib.hid h
  have HK0 := Lib.hid h.vs.keeps
  clear h
  go_enter Try.func17, Try.ntmps17
  go_wp2_with fail
  go_loopw [9] (fun t9 wr => ∃ (k : Nat) (σ' : St), k ≤ 8 ∧ t9 = .int .i64 k ∧ Keeps V w σ' [] wr ∧ procByPid σ id = byPidFrom id (8 - k) k σ') (fun t9 _ => (8 - intOf t9).toNat)
  case atStart => exact ⟨0, σ, by omega, rfl, HK0.out, rfl⟩
  case round =>
    obtain ⟨k, σ', hk, rfl, hK, hE⟩ := hrel
    have HK := Lib.hid hK
    have HE := Lib.hid hE
    clear hK hE
    by_cases hlt : k < 8
    · have hlt' : (k : Int) < 8 := by omega
      obtain ⟨l, hl⟩ : ∃ l, 8 - k = l + 1 := ⟨8 - k - 1, by omega⟩
      have HL := Lib.hid hl
      clear hl
      go_wp2_with (first | (go_at_call 36; (with_reducible refine (proc_get _ (by repeat' (first | (with_reducible exact HK.out) | (with_reducible apply Keeps.allocB) | (with_reducible apply Keeps.alloc) | (with_reducible apply Keeps.drew) | (with_reducible apply Keeps.drewN) | (with_reducible apply Keeps.setOwn) | (with_reducible apply Keeps.putOwn) | (with_reducible show (_ : Nat) ≤ _; omega)))).mono ?_); rintro e w1 ⟨rfl, k1⟩; clear HK; have HK := Lib.hid k1.k; have F1 := Lib.hid k1.f; obtain ⟨s0, own⟩ := k1.facts; simp only [go_sem] at own; clear k1))
      all_goals first
        | (go_ret2
           rw [HE.out, HL.out]
           unfold byPidFrom
           rw [if_pos (by first | omega | (simp_all; done) | (simp_all; omega))]
           exact ⟨rfl, HH.out.kept (Keeps.none (by repeat' (first | (with_reducible exact HK.out) | (with_reducible apply Keeps.allocB) | (with_reducible apply Keeps.alloc) | (with_reducible apply Keeps.drew) | (with_reducible apply Keeps.drewN) | (with_reducible apply Keeps.setOwn) | (with_reducible apply Keeps.putOwn) | (with_reducible show (_ : Nat) ≤ _; omega))))⟩)
        | (refine ⟨⟨k + 1, (procGet σ' k).2, by omega, by go_num, Keeps.none (by repeat' (first | (with_reducible exact HK.out) | (with_reducible apply Keeps.allocB) | (with_reducible apply Keeps.alloc) | (with_reducible apply Keeps.drew) | (with_reducible apply Keeps.drewN) | (with_reducible apply Keeps.setOwn) | (with_reducible apply Keeps.putOwn) | (with_reducible show (_ : Nat) ≤ _; omega))), ?_⟩, by simp [intOf]; omega⟩
           rw [HE.out, HL.out, show 8 - (k + 1) = l by have := HL.out; omega]
           rw [byPidFrom, if_neg (by first | omega | (simp_all; done) | (simp_all; omega))])
    · have hlt' : ¬ (k : Int) < 8 := by omega
      obtain rfl : k = 8 := by omega
      go_wp2_with fail
      go_ret2
      rw [HE.out, show byPidFrom id (8 - 8) 8 σ' = ((0, false), σ') from rfl]
      exact ⟨rfl, HH.out.kept (by repeat' (first | (with_reducible exact HK.out) | (with_reducible apply Keeps.allocB) | (with_reducible apply Keeps.alloc) | (with_reducible apply Keeps.drew) | (with_reducible apply Keeps.drewN) | (with_reducible apply Keeps.setOwn) | (with_reducible apply Keeps.putOwn) | (with_reducible show (_ : Nat) ≤ _; omega)))⟩

def freeFdFrom (p : Int) : Nat → Nat → St → (Int × Bool) × St
  | 0, _, σ => ((0, false), σ)
  | l + 1, k, σ => if (procFd σ p k).1.2 = false then ((k, true), (procFd σ p k).2) else freeFdFrom p l (k + 1) (procFd σ p k).2
def procFreeFd (σ : St) (p : Int) : (Int × Bool) × St := if (procGet σ p).1.2 = false then ((0, false), (procGet σ p).2) else freeFdFrom p 6 0 (procGet σ p).2

set_option maxRecDepth 100000 in
set_option maxHeartbeats 1000000 in
theorem proc_freefd {V : Vw} {σ : St} (p : Int) {w0 w : World} {O : List Own1} (h : Keeps V w0 σ O w) :
    Calls Try.prog 19 #[V.p, .int .i64 p] w (Ret V w0 O w (.tuple #[.int .i64 (procFreeFd σ p).1.1, .bool (procFreeFd σ p).1.2]) (procFreeFd σ p).2) := by
  have HH := Lib.hid h
  have HK := Lib.hid h.vs.keeps
  clear h
  cases hb : (procGet σ p).1.2 with
  | false =>
    go_enter Try.func19, Try.ntmps19
    go_wp2_with (first | (go_at_call 36; (with_reducible refine (proc_get _ (by repeat' (first | (with_reducible exact HK.out) | (with_reducible apply Keeps.allocB) | (with_reducible apply Keeps.alloc) | (with_reducible apply Keeps.drew) | (with_reducible apply Keeps.drewN) | (with_reducible apply Keeps.setOwn) | (with_reducible apply Keeps.putOwn) | (with_reducible show (_ : Nat) ≤ _; omega)))).mono ?_); rintro e w1 ⟨rfl, k1⟩; clear HK; have HK := Lib.hid k1.k; have F1 := Lib.hid k1.f; obtain ⟨s0, own⟩ := k1.facts; simp only [go_sem] at own; clear k1))
    go_ret2
    unfold procFreeFd
    rw [if_pos hb]
    exact ⟨rfl, HH.out.kept (by repeat' (first | (with_reducible exact HK.out) | (with_reducible apply Keeps.allocB) | (with_reducible apply Keeps.alloc) | (with_reducible apply Keeps.drew) | (with_reducible apply Keeps.drewN) | (with_reducible apply Keeps.setOwn) | (with_reducible apply Keeps.putOwn) | (with_reducible show (_ : Nat) ≤ _; omega)))⟩
  | true =>
    have HB := Lib.hid hb
    go_enter Try.func19, Try.ntmps19
    go_wp2_with (first | (go_at_call 36; (with_reducible refine (proc_get _ (by repeat' (first | (with_reducible exact HK.out) | (with_reducible apply Keeps.allocB) | (with_reducible apply Keeps.alloc) | (with_reducible apply Keeps.drew) | (with_reducible apply Keeps.drewN) | (with_reducible apply Keeps.setOwn) | (with_reducible apply Keeps.putOwn) | (with_reducible show (_ : Nat) ≤ _; omega)))).mono ?_); rintro e w1 ⟨rfl, k1⟩; clear HK; have HK := Lib.hid k1.k; have F1 := Lib.hid k1.f; obtain ⟨s0, own⟩ := k1.facts; simp only [go_sem] at own; clear k1))
    clear hb
    go_loopw [19] (fun t19 wr => ∃ (k : Nat) (σ' : St), k ≤ 6 ∧ t19 = .int .i64 k ∧ Keeps V w σ' [] wr ∧ procFreeFd σ p = freeFdFrom p (6 - k) k σ') (fun t19 _ => (6 - intOf t19).toNat)
    case atStart => exact ⟨0, (procGet σ p).2, by omega, rfl, Keeps.none (by repeat' (first | (with_reducible exact HK.out) | (with_reducible apply Keeps.allocB) | (with_reducible apply Keeps.alloc) | (with_reducible apply Keeps.drew) | (with_reducible apply Keeps.drewN) | (with_reducible apply Keeps.setOwn) | (with_reducible apply Keeps.putOwn) | (with_reducible show (_ : Nat) ≤ _; omega))), by unfold procFreeFd; rw [if_neg (by rw [HB.out]; decide)]⟩
    case round =>
      obtain ⟨k, σ', hk, rfl, hK, hE⟩ := hrel
      clear HK
      have HK := Lib.hid hK
      have HE := Lib.hid hE
      clear hK hE
      by_cases hlt : k < 6
      · have hlt' : (k : Int) < 6 := by omega
        obtain ⟨l, hl⟩ : ∃ l, 6 - k = l + 1 := ⟨6 - k - 1, by omega⟩
        have HL := Lib.hid hl
        clear hl
        go_wp2_with (first | (go_at_call 22; (with_reducible refine (proc_fd _ _ (by repeat' (first | (with_reducible exact HK.out) | (with_reducible apply Keeps.allocB) | (with_reducible apply Keeps.alloc) | (with_reducible apply Keeps.drew) | (with_reducible apply Keeps.drewN) | (with_reducible apply Keeps.setOwn) | (with_reducible apply Keeps.putOwn) | (with_reducible show (_ : Nat) ≤ _; omega)))).mono ?_); rintro e w1 ⟨rfl, k1⟩; clear HK; have HK := Lib.hid k1.k; have F1 := Lib.hid k1.f; obtain ⟨s0, own⟩ := k1.facts; simp only [go_sem] at own; clear k1))
        all_goals first
          | (go_ret2
             rw [HE.out, HL.out]
             unfold freeFdFrom
             rw [if_pos (by first | omega | (simp_all; done) | (simp_all; omega))]
             exact ⟨rfl, HH.out.kept (Keeps.none (by repeat' (first | (with_reducible exact HK.out) | (with_reducible apply Keeps.allocB) | (with_reducible apply Keeps.alloc) | (with_reducible apply Keeps.drew) | (with_reducible apply Keeps.drewN) | (with_reducible apply Keeps.setOwn) | (with_reducible apply Keeps.putOwn) | (with_reducible show (_ : Nat) ≤ _; omega))))⟩)
          | (refine ⟨⟨k + 1, (procFd σ' p k).2, by omega, by go_num, Keeps.none (by repeat' (first | (with_reducible exact HK.out) | (with_reducible apply Keeps.allocB) | (with_reducible apply Keeps.alloc) | (with_reducible apply Keeps.drew) | (with_reducible apply Keeps.drewN) | (with_reducible apply Keeps.setOwn) | (with_reducible apply Keeps.putOwn) | (with_reducible show (_ : Nat) ≤ _; omega))), ?_⟩, by simp [intOf]; omega⟩
             rw [HE.out, HL.out, show 6 - (k + 1) = l by have := HL.out; omega]
             rw [freeFdFrom, if_neg (by first | omega | (simp_all; done) | (simp_all; omega))])
      · have hlt' : ¬ (k : Int) < 6 := by omega
        obtain rfl : k = 6 := by omega
        go_wp2_with fail
        go_ret2
        rw [HE.out, show freeFdFrom p (6 - 6) 6 σ' = ((0, false), σ') from rfl]
        exact ⟨rfl, HH.out.kept (by repeat' (first | (with_reducible exact HK.out) | (with_reducible apply Keeps.allocB) | (with_reducible apply Keeps.alloc) | (with_reducible apply Keeps.drew) | (with_reducible apply Keeps.drewN) | (with_reducible apply Keeps.setOwn) | (with_reducible apply Keeps.putOwn) | (with_reducible show (_ : Nat) ≤ _; omega)))⟩
end Go.Proofs.Ytmgijchcfjmphaa
