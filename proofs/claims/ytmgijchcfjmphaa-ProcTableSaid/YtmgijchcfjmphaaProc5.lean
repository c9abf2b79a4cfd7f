import Derived.Test.YtmgijchcfjmphaaProc4
namespace Go.Proofs.Ytmgijchcfjmphaa
open Go.RowKit

/-- the table with one more process; the new process -/
def newTable (t : Val) (k : Int) : Val := (t.set 0 (setBit (t.n 0) k)).set 1 (wrap64 (t.n 1 + 1))
def newProc (t : Val) (by_ : Int) : Val := (((Val.ofS ⟨#[]⟩).set 0 1).set 1 (wrap64 (by_ + 1))).set 2 (wrap64 (t.n 1 + 1))
def newFrom (by_ : Int) (t : Val) (σ : St) : Nat → Nat → (Int × Bool) × St
  | 0, _ => ((0, false), σ)
  | l + 1, k => if bit (t.n 0) k = 1 then newFrom by_ t σ l (k + 1) else ((k, true), (σ.put procsK (newTable t k)).put (procK k) (newProc t by_))
def procNew (σ : St) (by_ : Int) : (Int × Bool) × St := newFrom by_ (σ.get procsK) (σ.got procsK) 8 0

theorem newTable_ok {t : Val} (h : t.Ok) (k : Int) : (newTable t k).Ok := (h.set 0 (bits_in ..)).set 1 (wrap_in _)
theorem newProc_ok (t : Val) (b : Int) : (newProc t b).Ok := (((Val.ofS_ok (s := ⟨#[]⟩) (by simp [ByteArray.size])).set 0 (by unfold In64; omega)).set 1 (wrap_in _)).set 2 (wrap_in _)

set_option maxRecDepth 100000 in
set_option maxHeartbeats 1000000 in
theorem proc_new {V : Vw} {σ : St} (by_ : Int) {w0 w : World} {O : List Own1} (h : Keeps V w0 σ O w) :
    Calls Try.prog 15 #[V.p, .int .i64 by_] w (Ret V w0 O w (.tuple #[.int .i64 (procNew σ by_).1.1, .bool (procNew σ by_).1.2]) (procNew σ by_).2) := by
  have HH := Lib.hid h
  have HK := Lib.hid h.vs.keeps
  obtain ⟨t, ht⟩ : ∃ t, t = σ.get procsK := ⟨_, rfl⟩
  have HT := Lib.hid ht
  have HX : Hid (∀ k : Nat, ((t.set 0 (bits BinOp.or .i64 (t.n 0) (wrap64 (2 ^ k)))).set 1 (wrap64 (t.n 1 + 1))).Ok) := fun k => newTable_ok (ht ▸ h.vs.ok procsK) k
  have HY : Hid ((((Val.ofS ⟨#[]⟩).set 0 1).set 1 (wrap64 (by_ + 1))).set 2 (wrap64 (t.n 1 + 1))).Ok := newProc_ok t by_
  clear h ht
  go_enter Try.func15, Try.ntmps15
  go_wp2_with (first | (go_at_call 34; (with_reducible refine (keyed (proc_table _) (by repeat' (first | (with_reducible exact HK.out) | (with_reducible apply Keeps.allocB) | (with_reducible apply Keeps.alloc) | (with_reducible apply Keeps.drew) | (with_reducible apply Keeps.drewN) | (with_reducible apply Keeps.setOwn) | (with_reducible apply Keeps.putOwn) | (with_reducible show (_ : Nat) ≤ _; omega)))).mono ?_); rintro e w1 ⟨rfl, k1⟩; clear HK; have HK := Lib.hid k1.k; have F1 := Lib.hid k1.f; obtain ⟨s0, own⟩ := k1.facts; simp only [go_sem] at own; clear k1) | (go_at_call 24; (with_reducible refine (get_ok _ (by repeat' (first | (with_reducible exact HK.out) | (with_reducible apply Keeps.allocB) | (with_reducible apply Keeps.alloc) | (with_reducible apply Keeps.drew) | (with_reducible apply Keeps.drewN) | (with_reducible apply Keeps.setOwn) | (with_reducible apply Keeps.putOwn) | (with_reducible show (_ : Nat) ≤ _; omega)))).mono ?_); rintro e w1 ⟨rfl, k1⟩; clear HK; have HK := Lib.hid k1.k; have F1 := Lib.hid k1.f; obtain ⟨s0, own⟩ := k1.facts; simp only [go_sem] at own; clear k1))
  rw [← HT.out]
  go_loop [12] (fun t12 => ∃ k : Nat, k ≤ 8 ∧ t12 = .int .i64 k ∧ procNew σ by_ = newFrom by_ t (σ.got procsK) (8 - k) k) (fun t12 => (8 - intOf t12).toNat)
  case atStart => exact ⟨0, by omega, rfl, by unfold procNew; rw [← HT.out]⟩
  case round =>
    obtain ⟨k, hk, rfl, hE⟩ := hrel
    have HE := Lib.hid hE
    clear hE
    by_cases hlt : k < 8
    · have hlt' : (k : Int) < 8 := by omega
      obtain ⟨l, hl⟩ : ∃ l, 8 - k = l + 1 := ⟨8 - k - 1, by omega⟩
      have HL := Lib.hid hl
      clear hl
      go_wp2_with fail
      · refine ⟨⟨k + 1, by omega, by go_num, ?_⟩, by simp [intOf]; omega⟩
        rw [HE.out, HL.out, show 8 - (k + 1) = l by have := HL.out; omega]
        rw [newFrom, if_pos (bit_eq (by assumption))]
      · have HBT := Lib.hid (show ¬ bit (t.n 0) k = 1 from bit_ne (by assumption))
        go_region_with (first | (go_at_call 34; (with_reducible refine (keyed (proc_table _) (by repeat' (first | (with_reducible exact HK.out) | (with_reducible apply Keeps.allocB) | (with_reducible apply Keeps.alloc) | (with_reducible apply Keeps.drew) | (with_reducible apply Keeps.drewN) | (with_reducible apply Keeps.setOwn) | (with_reducible apply Keeps.putOwn) | (with_reducible show (_ : Nat) ≤ _; omega)))).mono ?_); rintro e w1 ⟨rfl, k1⟩; clear HK; have HK := Lib.hid k1.k; have F1 := Lib.hid k1.f; obtain ⟨s0, own⟩ := k1.facts; simp only [go_sem] at own; clear k1) | (go_at_call 27; (with_reducible refine (put_ok _ _ (HX.out k) (by repeat' (first | (with_reducible exact HK.out) | (with_reducible apply Keeps.allocB) | (with_reducible apply Keeps.alloc) | (with_reducible apply Keeps.drew) | (with_reducible apply Keeps.drewN) | (with_reducible apply Keeps.setOwn) | (with_reducible apply Keeps.putOwn) | (with_reducible show (_ : Nat) ≤ _; omega)))).mono ?_); rintro e w1 ⟨rfl, k1⟩; clear HK; have HK := Lib.hid k1.k; have F1 := Lib.hid k1.f; obtain ⟨s0, own⟩ := k1.facts; simp only [go_sem] at own; clear k1))
        all_goals (
          go_wp2_with fail
          go_region
          all_goals (
            go_wp2_with fail
            go_region_with (first | (go_at_call 35; (with_reducible refine (keyed (proc_key _ _) (by repeat' (first | (with_reducible exact HK.out) | (with_reducible apply Keeps.allocB) | (with_reducible apply Keeps.alloc) | (with_reducible apply Keeps.drew) | (with_reducible apply Keeps.drewN) | (with_reducible apply Keeps.setOwn) | (with_reducible apply Keeps.putOwn) | (with_reducible show (_ : Nat) ≤ _; omega)))).mono ?_); rintro e w1 ⟨rfl, k1⟩; clear HK; have HK := Lib.hid k1.k; have F1 := Lib.hid k1.f; obtain ⟨s0, own⟩ := k1.facts; simp only [go_sem] at own; clear k1) | (go_at_call 27; (with_reducible refine (put_ok _ _ HY.out (by repeat' (first | (with_reducible exact HK.out) | (with_reducible apply Keeps.allocB) | (with_reducible apply Keeps.alloc) | (with_reducible apply Keeps.drew) | (with_reducible apply Keeps.drewN) | (with_reducible apply Keeps.setOwn) | (with_reducible apply Keeps.putOwn) | (with_reducible show (_ : Nat) ≤ _; omega)))).mono ?_); rintro e w1 ⟨rfl, k1⟩; clear HK; have HK := Lib.hid k1.k; have F1 := Lib.hid k1.f; obtain ⟨s0, own⟩ := k1.facts; simp only [go_sem] at own; clear k1))
            all_goals (
              go_wp2_with fail
              go_ret2
              rw [HE.out, HL.out, show newFrom by_ t (σ.got procsK) (l + 1) k = (((k : Int), true), ((σ.got procsK).put procsK ((t.set 0 (bits BinOp.or .i64 (t.n 0) (wrap64 (2 ^ k)))).set 1 (wrap64 (t.n 1 + 1)))).put (procK k) ((((Val.ofS ⟨#[]⟩).set 0 1).set 1 (wrap64 (by_ + 1))).set 2 (wrap64 (t.n 1 + 1)))) by rw [newFrom, if_neg HBT.out]; rfl]
              exact ⟨rfl, HH.out.kept (by repeat' (first | (with_reducible exact HK.out) | (with_reducible apply Keeps.allocB) | (with_reducible apply Keeps.alloc) | (with_reducible apply Keeps.drew) | (with_reducible apply Keeps.drewN) | (with_reducible apply Keeps.setOwn) | (with_reducible apply Keeps.putOwn) | (with_reducible show (_ : Nat) ≤ _; omega)))⟩)))
    · have hlt' : ¬ (k : Int) < 8 := by omega
      obtain rfl : k = 8 := by omega
      go_wp2_with fail
      go_ret2
      rw [HE.out, show newFrom by_ t (σ.got procsK) (8 - 8) 8 = ((0, false), σ.got procsK) from rfl]
      exact ⟨rfl, HH.out.kept (by repeat' (first | (with_reducible exact HK.out) | (with_reducible apply Keeps.allocB) | (with_reducible apply Keeps.alloc) | (with_reducible apply Keeps.drew) | (with_reducible apply Keeps.drewN) | (with_reducible apply Keeps.setOwn) | (with_reducible apply Keeps.putOwn) | (with_reducible show (_ : Nat) ≤ _; omega)))⟩
end Go.Proofs.Ytmgijchcfjmphaa
