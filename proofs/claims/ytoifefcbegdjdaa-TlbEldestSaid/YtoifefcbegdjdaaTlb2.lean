import Derived.Test.YtoifefcbegdjdaaTlb
namespace Go.Proofs.Ytoifefcbegdjdaa
open Go.RowKit

section
variable (x n : Nat) (E : Nat → List Ent) (F : Nat → Prop) (i : Nat) (w : World) (h : Tlb w x n E F) (hi : i < n)
include h hi
theorem tlb_find_yes (p at_ : Int) (q : Nat) (y : Ent) (hq : (E i)[q]? = some y) (hy : y.p = p ∧ y.at_ = at_) (hm : ∀ j, j < q → ∀ z, (E i)[j]? = some z → ¬ (z.p = p ∧ z.at_ = at_)) :
    Calls Try.prog 41 #[.pointer (some ⟨x, 0, none⟩), .int .i64 i, .int .i64 p, .int .i64 at_] w fun e w' => e = .returned (.tuple #[.int .i64 y.page, .bool true]) ∧ Fr (fun _ => False) w w' := by
  obtain ⟨g, v, h⟩ := h
  have F0 : Fr (fun _ => False) w ((w.alloc (.cells #[.int .i64 p] 3)).alloc (.cells #[.int .i64 at_] 3)) := ((Fr.refl _ _).alloc _).alloc _
  have H0 := h.fr F0 (fun _ _ => id)
  have HH := Lib.hid (tlb_has x n E F _ ⟨g, v, H0⟩ i hi)
  have HI := maps_index_yes 75 #[.pointer (some ⟨w.heap.size, 0, none⟩), .pointer (some ⟨w.heap.size + 1, 0, none⟩)] (fun y => decide (y.p = p ∧ y.at_ = at_)) (v i) (E i) _ (fun args w => by simp [go_sem])
    (fun W y f => tlb_find1 w.heap.size (w.heap.size + 1) p at_ y W (f.cellAt (by simp; omega) (by simp)) (f.cellAt (by simp) (by simp)) (Nat.lt_of_lt_of_le (by simp; omega) f.size) (Nat.lt_of_lt_of_le (by simp) f.size)) (H0.l i hi) (by have := h.sz i hi; omega) q y hq (decide_eq_true hy) (fun j hj z hz => decide_eq_false (hm j hj z hz))
  have hql : q < (E i).length := (List.getElem?_eq_some_iff.1 hq).1
  obtain ⟨b, o, cap, hv, hb, hc⟩ := (h.l i hi).cells (by intro e; rw [e] at hql; simp at hql)
  have hyq : (E i)[q] = y := by rw [List.getElem?_eq_getElem hql] at hq; exact Option.some.inj hq
  have AF : Hid (∀ w', Fr (fun _ => False) ((w.alloc (.cells #[.int .i64 p] 3)).alloc (.cells #[.int .i64 at_] 3)) w' →
      w'.cell? ⟨x, 0, none⟩ = some (.slice (some ⟨g, 0, none⟩) n n) ∧ w'.cell? ⟨g, i, none⟩ = some (.slice (some ⟨b, o * 3, none⟩) (E i).length cap) ∧ w'.cell? ⟨b, o * 3 + q * 3 + 2, none⟩ = some (.int .i64 y.page)) := fun w' f => by
    have f2 := F0.trans f
    refine ⟨f2.cellAt h.h.lt (h.h.cell 0), f2.cellAt h.a.lt ?_, f2.cellAt hb ?_⟩
    · rw [← hv]; exact h.a.cell hi
    · rw [← hyq]; exact (hc q hql).2.2
  rw [hv] at HI
  have HI := Lib.hid HI
  have h0 := h.h.cell 0
  have hx := h.h.lt
  have hgi := h.a.cell hi
  rw [hv] at hgi
  have hgl := h.a.lt
  have hi' : (i : Int) < n := by omega
  have hq' : (q : Int) < (E i).length := by omega
  have hqn : ¬ (q : Int) < 0 := by omega
  have HF0 := Lib.hid F0
  clear h H0 hq hy hm hv hc hyq F0 hb
  go_enter Try.func41, Try.ntmps41
  go_wp2_with (first | (go_at_call 69; with_reducible refine HH.out.mono ?_; rintro e w' ⟨rfl, rfl⟩) | (go_at_call 74; with_reducible refine HI.out.mono ?_; rintro e w' ⟨rfl, F2⟩; obtain ⟨n0, n1, n2⟩ := AF.out _ F2; have HF2 := Lib.hid F2; clear F2))
  go_ret2
  exact ⟨rfl, HF0.out.trans HF2.out⟩

theorem tlb_find_no (p at_ : Int) (hm : ∀ z ∈ E i, ¬ (z.p = p ∧ z.at_ = at_)) :
    Calls Try.prog 41 #[.pointer (some ⟨x, 0, none⟩), .int .i64 i, .int .i64 p, .int .i64 at_] w fun e w' => e = .returned (.tuple #[.int .i64 0, .bool false]) ∧ Fr (fun _ => False) w w' := by
  obtain ⟨g, v, h⟩ := h
  have F0 : Fr (fun _ => False) w ((w.alloc (.cells #[.int .i64 p] 3)).alloc (.cells #[.int .i64 at_] 3)) := ((Fr.refl _ _).alloc _).alloc _
  have H0 := h.fr F0 (fun _ _ => id)
  have HH := Lib.hid (tlb_has x n E F _ ⟨g, v, H0⟩ i hi)
  have HI := Lib.hid (maps_index_no 75 #[.pointer (some ⟨w.heap.size, 0, none⟩), .pointer (some ⟨w.heap.size + 1, 0, none⟩)] (fun y => decide (y.p = p ∧ y.at_ = at_)) (v i) (E i) _ (fun args w => by simp [go_sem])
    (fun W y f => tlb_find1 w.heap.size (w.heap.size + 1) p at_ y W (f.cellAt (by simp; omega) (by simp)) (f.cellAt (by simp) (by simp)) (Nat.lt_of_lt_of_le (by simp; omega) f.size) (Nat.lt_of_lt_of_le (by simp) f.size)) (H0.l i hi) (by have := h.sz i hi; omega) (fun z hz => decide_eq_false (hm z hz)))
  have h0 := h.h.cell 0
  have hx := h.h.lt
  have hgi := h.a.cell hi
  have hgl := h.a.lt
  have hi' : (i : Int) < n := by omega
  have HF0 := Lib.hid F0
  clear h H0 hm F0
  go_enter Try.func41, Try.ntmps41
  go_wp2_with (first | (go_at_call 69; with_reducible refine HH.out.mono ?_; rintro e w' ⟨rfl, rfl⟩) | (go_at_call 74; with_reducible refine HI.out.mono ?_; rintro e w' ⟨rfl, F2⟩; have HF2 := Lib.hid F2; clear F2))
  go_ret2
  exact ⟨rfl, HF0.out.trans HF2.out⟩

theorem tlb_list : Calls Try.prog 45 #[.pointer (some ⟨x, 0, none⟩), .int .i64 i] w fun e w' => ∃ v', e = .returned v' ∧ Own w' 56 3 (E i).length v' (ents (E i)) ∧ Fr (fun _ => False) w w' ∧ ∀ k, Of v' k → w.heap.size ≤ k := by
  have HH := Lib.hid (tlb_has x n E F w h i hi)
  obtain ⟨g, v, h⟩ := h
  have HI := Lib.hid (maps_clone (v i) (E i) w (h.l i hi) (by have := h.sz i hi; omega))
  have h0 := h.h.cell 0
  have hgi := h.a.cell hi
  have hi' : (i : Int) < n := by omega
  clear h
  go_enter Try.func45, Try.ntmps45
  go_wp2_with (first | (go_at_call 69; with_reducible refine HH.out.mono ?_; rintro e w' ⟨rfl, rfl⟩) | (go_at_call 71; with_reducible refine HI.out.mono ?_; rintro e w' ⟨v', rfl, O2, F2, G2⟩; have HO2 := Lib.hid O2; have HF2 := Lib.hid F2; have HG2 := Lib.hid G2; clear O2 F2 G2))
  go_ret
  exact ⟨_, rfl, HO2.out, HF2.out, HG2.out⟩
end

theorem tlb_list_no (x n : Nat) (E : Nat → List Ent) (F : Nat → Prop) (i : Int) (w : World) (h : Tlb w x n E F) (hi : i < 0 ∨ (n : Int) ≤ i) : Calls Try.prog 45 #[.pointer (some ⟨x, 0, none⟩), .int .i64 i] w fun e w' => e = .returned (.slice none 0 0) ∧ w = w' := by
  have HH := Lib.hid (tlb_has_no x n E F w h i hi)
  clear h
  go_enter Try.func45, Try.ntmps45
  go_wp2_with (go_at_call 69; with_reducible refine HH.out.mono ?_; rintro e w' ⟨rfl, rfl⟩)
  go_ret
  exact ⟨rfl, rfl⟩
end Go.Proofs.Ytoifefcbegdjdaa
