import Derived.Test.YtbjfgcabomgdbaaHaltD
import Derived.Test.YtbjfgcabomgdbaaOpen
import Derived.Test.YtbjfgcabomgdbaaWithin
namespace Go.Proofs.Ytbjfgcabomgdbaa
open Go.RowKit

theorem down_any (n : Nat) : ∀ (k : Int) (w : World) (pw pa pd : Nat) (why at_ : Int), 0 ≤ k → k ≤ n → n ≤ 100 → Blk w pw #[.int .i64 why] 3 → Blk w pa #[.int .i64 at_] 3 →
    Blk w pd #[.func (.func 27) #[] #[.pointer (some ⟨pw, 0, none⟩), .pointer (some ⟨pa, 0, none⟩), .pointer (some ⟨pd, 0, none⟩)]] 41 →
    Calls Try.prog 27 #[.int .i64 k, .pointer (some ⟨pw, 0, none⟩), .pointer (some ⟨pa, 0, none⟩), .pointer (some ⟨pd, 0, none⟩)] w fun e w' => Tame (.stop why at_) e ∧ w' = w := by
  have base : ∀ (w : World) (pw pa pd : Nat) (why at_ : Int), Blk w pw #[.int .i64 why] 3 → Blk w pa #[.int .i64 at_] 3 →
      Calls Try.prog 27 #[.int .i64 0, .pointer (some ⟨pw, 0, none⟩), .pointer (some ⟨pa, 0, none⟩), .pointer (some ⟨pd, 0, none⟩)] w fun e w' => Tame (.stop why at_) e ∧ w' = w := by
    intro w pw pa pd why at_ h1 h2
    have c1 := h1.cell 0
    have c2 := h2.cell 0
    go_enter Try.func27, Try.ntmps27
    go_wp2_with (go_at_call 14; refine (stop_any _ _ _).mono ?_; rintro e w' ⟨rfl, rfl⟩)
    exact ⟨rfl, ⟨[], rfl, rfl⟩, rfl⟩
  induction n with
  | zero =>
    intro k w pw pa pd why at_ h0 hk _ h1 h2 h3
    obtain rfl : k = 0 := by omega
    exact base w pw pa pd why at_ h1 h2
  | succ n ih =>
    intro k w pw pa pd why at_ h0 hk hn h1 h2 h3
    by_cases hz : k = 0
    · subst hz
      exact base w pw pa pd why at_ h1 h2
    · have hz' : (k == 0) = false := beq_eq_false_iff_ne.2 hz
      have c3 := h3.cell 0
      have IH := Lib.hid (ih (k - 1) w pw pa pd why at_ (by omega) (by omega) (by omega) h1 h2 h3)
      clear ih base
      go_enter Try.func27, Try.ntmps27
      go_wp2_with fail
      refine IH.out.mono ?_
      intro e w' h
      have H := Lib.hid h
      clear h
      cases e with
      | returned u => obtain ⟨o, h, _⟩ := H.out.1; simp at h
      | panicked chain => exact ⟨rfl, H.out⟩
      | outgrown => obtain ⟨o, h, _⟩ := H.out.1; simp at h

theorem deep_inner (n : Int) (hn0 : 0 ≤ n) (hn : n ≤ 20) (w : World) (pw pa pd pn : Nat) (why at_ : Int) (h1 : Blk w pw #[.int .i64 why] 3) (h2 : Blk w pa #[.int .i64 at_] 3)
    (h3 : Blk w pd #[.func (.func 27) #[] #[.pointer (some ⟨pw, 0, none⟩), .pointer (some ⟨pa, 0, none⟩), .pointer (some ⟨pd, 0, none⟩)]] 41) (h4 : Blk w pn #[.int .i64 n] 3) :
    Calls Try.prog 29 #[.pointer (some ⟨pd, 0, none⟩), .pointer (some ⟨pn, 0, none⟩)] w fun e w' => Tame (.stop why at_) e ∧ w' = w := by
  have c3 := h3.cell 0
  have c4 := h4.cell 0
  have IH := Lib.hid (down_any 20 n w pw pa pd why at_ hn0 (by omega) (by omega) h1 h2 h3)
  go_enter Try.func29, Try.ntmps29
  go_wp2_with fail
  refine IH.out.mono ?_
  intro e w' h
  have H := Lib.hid h
  clear h
  cases e with
  | returned u => obtain ⟨o, h, _⟩ := H.out.1; simp at h
  | panicked chain => exact ⟨rfl, H.out⟩
  | outgrown => obtain ⟨o, h, _⟩ := H.out.1; simp at h

set_option maxRecDepth 100000 in
theorem deep_outer (n : Int) (hn0 : 0 ≤ n) (hn : n ≤ 20) (w : World) (pw pa pd pn pi px : Nat) (why at_ : Int) (h1 : Blk w pw #[.int .i64 why] 3) (h2 : Blk w pa #[.int .i64 at_] 3)
    (h3 : Blk w pd #[.func (.func 27) #[] #[.pointer (some ⟨pw, 0, none⟩), .pointer (some ⟨pa, 0, none⟩), .pointer (some ⟨pd, 0, none⟩)]] 41) (h4 : Blk w pn #[.int .i64 n] 3)
    (h5 : Blk w pi #[.int .i64 0, .int .i64 0] 23) (h6 : Blk w px #[.bool false] 4) :
    Calls Try.prog 28 #[.pointer (some ⟨pd, 0, none⟩), .pointer (some ⟨pn, 0, none⟩), .pointer (some ⟨pi, 0, none⟩), .pointer (some ⟨px, 0, none⟩)] w fun e w' =>
      Tame .ok e ∧ Fr (fun k => k = pi ∨ k = px) w w' ∧ Blk w' pi #[.int .i64 why, .int .i64 at_] 23 ∧ Blk w' px #[.bool true] 4 := by
  have hmf : ∀ (fn : Fn) (first cap : Array Value) (w : World), (Instr.makeFunc fn first cap).run Try.prog w = .ok (.func fn first cap) w := fun _ _ _ _ => rfl
  have g := gworld_fr w (fun _ => False)
  have IH := Lib.hid (guard_plain 29 #[.pointer (some ⟨pd, 0, none⟩), .pointer (some ⟨pn, 0, none⟩)] w (.stop why at_) (fun w => by simp [go_sem])
    ((deep_inner n hn0 hn (gworld w) pw pa pd pn why at_ (h1.fr g id) (h2.fr g id) (h3.fr g id) (h4.fr g id)).mono fun e w' h => ⟨h.1, h.2 ▸ Fr.refl _ _⟩))
  have ne := h5.ne h6 (.inr (by decide))
  go_enter Try.func28, Try.ntmps28
  go_wp2_with fail
  refine IH.out.mono ?_
  rintro e w1 ⟨rfl, f1⟩
  have b5 := h5.fr f1 id
  have b6 := h6.fr f1 id
  have c50 := b5.cell 0
  have c51 := b5.cell 1
  have c60 := b6.cell 0
  have f5 := b5.frozen
  have f6 := b6.frozen
  have F1 := Lib.hid f1
  simp only [Stp.why_s, Stp.at_s, Stp.is_s]
  clear f1 h1 h2 h3 h4 h5 h6 g
  go_wp2_with fail
  go_end0
  refine ⟨⟨_, rfl⟩, ?_, ?_, ?_⟩
  · exact ((((F1.out.mono (fun _ _ h => h.elim)).setCell (fun _ => .inl rfl) _).setCell (fun _ => .inl rfl) _).setCell (fun _ => .inr rfl) _)
  · exact ((b5.set 0 _).set 1 _).other (by dsimp only; omega) _
  · exact (((b6.other (by dsimp only; omega) _).other (by dsimp only; omega) _).set 0 _)

set_option maxRecDepth 100000 in
theorem haltDeep_walk (why at_ deep : Int) (w : World) (_w0 : (Lit.int .i64 why).wf = true) (_w1 : (Lit.int .i64 at_).wf = true) (w2 : (Lit.int .i64 deep).wf = true) :
    Calls Try.prog 5 #[.int .i64 why, .int .i64 at_, .int .i64 deep] w fun e w' => e = .returned (.bool true) ∧ Below w.heap.size w w' := by
  have hmf : ∀ (fn : Fn) (first cap : Array Value) (w : World), (Instr.makeFunc fn first cap).run Try.prog w = .ok (.func fn first cap) w := fun _ _ _ _ => rfl
  have hw := within_any deep 0 20
  have hd := wf_i64 w2
  have hk := wth_bd (n := deep) (lo := 0) (hi := 20) (by omega)
  go_enter Try.func5, Try.ntmps5
  go_wp2_with (go_at_call 26; refine (hw _ hd (by omega) (by omega) (by omega)).mono ?_; rintro e w' ⟨rfl, rfl⟩)
  have f0 : Fr (fun k => w.heap.size ≤ k) w ((((((w.alloc (.cells #[.int .i64 why] 3)).alloc (.cells #[.int .i64 at_] 3)).alloc (.cells #[.int .i64 (wth deep 0 20)] 3)).alloc (.cells #[.func (.func 27) #[] #[.pointer (some ⟨w.heap.size, 0, none⟩), .pointer (some ⟨w.heap.size + 1, 0, none⟩), .pointer (some ⟨w.heap.size + 1 + 1 + 1, 0, none⟩)]] 41)).alloc (.cells #[.int .i64 0, .int .i64 0] 23)).alloc (.cells #[.bool false] 4)) := ((((((Fr.refl _ w).alloc _).alloc _).alloc _).alloc _).alloc _).alloc _
  have b1 : Blk ((((((w.alloc (.cells #[.int .i64 why] 3)).alloc (.cells #[.int .i64 at_] 3)).alloc (.cells #[.int .i64 (wth deep 0 20)] 3)).alloc (.cells #[.func (.func 27) #[] #[.pointer (some ⟨w.heap.size, 0, none⟩), .pointer (some ⟨w.heap.size + 1, 0, none⟩), .pointer (some ⟨w.heap.size + 1 + 1 + 1, 0, none⟩)]] 41)).alloc (.cells #[.int .i64 0, .int .i64 0] 23)).alloc (.cells #[.bool false] 4)) w.heap.size #[.int .i64 why] 3 := ((((((Blk.at_new rfl).alloc _).alloc _).alloc _).alloc _).alloc _)
  have b2 : Blk ((((((w.alloc (.cells #[.int .i64 why] 3)).alloc (.cells #[.int .i64 at_] 3)).alloc (.cells #[.int .i64 (wth deep 0 20)] 3)).alloc (.cells #[.func (.func 27) #[] #[.pointer (some ⟨w.heap.size, 0, none⟩), .pointer (some ⟨w.heap.size + 1, 0, none⟩), .pointer (some ⟨w.heap.size + 1 + 1 + 1, 0, none⟩)]] 41)).alloc (.cells #[.int .i64 0, .int .i64 0] 23)).alloc (.cells #[.bool false] 4)) (w.heap.size + 1) #[.int .i64 at_] 3 := (((((Blk.at_new (by simp)).alloc _).alloc _).alloc _).alloc _)
  have b3 : Blk ((((((w.alloc (.cells #[.int .i64 why] 3)).alloc (.cells #[.int .i64 at_] 3)).alloc (.cells #[.int .i64 (wth deep 0 20)] 3)).alloc (.cells #[.func (.func 27) #[] #[.pointer (some ⟨w.heap.size, 0, none⟩), .pointer (some ⟨w.heap.size + 1, 0, none⟩), .pointer (some ⟨w.heap.size + 1 + 1 + 1, 0, none⟩)]] 41)).alloc (.cells #[.int .i64 0, .int .i64 0] 23)).alloc (.cells #[.bool false] 4)) (w.heap.size + 1 + 1) #[.int .i64 (wth deep 0 20)] 3 := ((((Blk.at_new (by simp)).alloc _).alloc _).alloc _)
  have b4 : Blk ((((((w.alloc (.cells #[.int .i64 why] 3)).alloc (.cells #[.int .i64 at_] 3)).alloc (.cells #[.int .i64 (wth deep 0 20)] 3)).alloc (.cells #[.func (.func 27) #[] #[.pointer (some ⟨w.heap.size, 0, none⟩), .pointer (some ⟨w.heap.size + 1, 0, none⟩), .pointer (some ⟨w.heap.size + 1 + 1 + 1, 0, none⟩)]] 41)).alloc (.cells #[.int .i64 0, .int .i64 0] 23)).alloc (.cells #[.bool false] 4)) (w.heap.size + 1 + 1 + 1) #[.func (.func 27) #[] #[.pointer (some ⟨w.heap.size, 0, none⟩), .pointer (some ⟨w.heap.size + 1, 0, none⟩), .pointer (some ⟨w.heap.size + 1 + 1 + 1, 0, none⟩)]] 41 := (((Blk.at_new (by simp)).alloc _).alloc _)
  have b5 : Blk ((((((w.alloc (.cells #[.int .i64 why] 3)).alloc (.cells #[.int .i64 at_] 3)).alloc (.cells #[.int .i64 (wth deep 0 20)] 3)).alloc (.cells #[.func (.func 27) #[] #[.pointer (some ⟨w.heap.size, 0, none⟩), .pointer (some ⟨w.heap.size + 1, 0, none⟩), .pointer (some ⟨w.heap.size + 1 + 1 + 1, 0, none⟩)]] 41)).alloc (.cells #[.int .i64 0, .int .i64 0] 23)).alloc (.cells #[.bool false] 4)) (w.heap.size + 1 + 1 + 1 + 1) #[.int .i64 0, .int .i64 0] 23 := ((Blk.at_new (by simp)).alloc _)
  have b6 : Blk ((((((w.alloc (.cells #[.int .i64 why] 3)).alloc (.cells #[.int .i64 at_] 3)).alloc (.cells #[.int .i64 (wth deep 0 20)] 3)).alloc (.cells #[.func (.func 27) #[] #[.pointer (some ⟨w.heap.size, 0, none⟩), .pointer (some ⟨w.heap.size + 1, 0, none⟩), .pointer (some ⟨w.heap.size + 1 + 1 + 1, 0, none⟩)]] 41)).alloc (.cells #[.int .i64 0, .int .i64 0] 23)).alloc (.cells #[.bool false] 4)) (w.heap.size + 1 + 1 + 1 + 1 + 1) #[.bool false] 4 := (Blk.at_new (by simp))
  generalize ((((((w.alloc (.cells #[.int .i64 why] 3)).alloc (.cells #[.int .i64 at_] 3)).alloc (.cells #[.int .i64 (wth deep 0 20)] 3)).alloc (.cells #[.func (.func 27) #[] #[.pointer (some ⟨w.heap.size, 0, none⟩), .pointer (some ⟨w.heap.size + 1, 0, none⟩), .pointer (some ⟨w.heap.size + 1 + 1 + 1, 0, none⟩)]] 41)).alloc (.cells #[.int .i64 0, .int .i64 0] 23)).alloc (.cells #[.bool false] 4)) = W at *
  have g := gworld_fr W (fun _ => False)
  have lt5 := b5.lt
  have lt6 := b6.lt
  refine (guard_of 28 _ W _ (fun k => k = w.heap.size + 1 + 1 + 1 + 1 ∨ k = w.heap.size + 1 + 1 + 1 + 1 + 1) (by rintro k (rfl | rfl) <;> assumption) (fun w => by simp [go_sem])
    (deep_outer (wth deep 0 20) hk.1 hk.2 (gworld W) _ _ _ _ _ _ why at_ (b1.fr g id) (b2.fr g id) (b4.fr g id) (b3.fr g id) (b5.fr g id) (b6.fr g id)) (fun e w' h => ⟨_, h.1, h.2.1⟩)).mono ?_
  rintro e w2 ⟨s, e1, w1, ⟨ht, f1, k5, k6⟩, ht2, rfl, f2⟩
  obtain rfl := ht.uniq ht2
  have j5 := k5.fr f2 (by omega)
  have j6 := k6.fr f2 (by omega)
  have f3 : Fr (fun k => w.heap.size ≤ k) w w2 := (f0.step ((gworld_fr W _).trans f1) (by rintro i hi (h | h) <;> omega)).step f2 (by intro i hi h; omega)
  have j1 := ((b1.fr g id).fr f1 (by omega)).fr f2 (by have := b1.lt; omega)
  have j2 := ((b2.fr g id).fr f1 (by omega)).fr f2 (by have := b2.lt; omega)
  have F3 := Lib.hid f3
  have c1 := j1.cell 0
  have c2 := j2.cell 0
  have c50 := j5.cell 0
  have c51 := j5.cell 1
  have c6 := j6.cell 0
  have l1 := j1.lt
  have l2 := j2.lt
  have l5 := j5.lt
  have l6 := j6.lt
  have HR := Lib.hid haltRuns_any
  clear b1 b2 b3 b4 b5 b6 g f0 f1 f2 f3 ht ht2 k5 k6 j1 j2 j5 j6 lt5 lt6
  simp only [Stp.why_o, Stp.at_o, Stp.is_o]
  go_wp2_with (go_at_call 3; refine (HR.out _).mono ?_; rintro e w4 ⟨rfl, f4⟩; have F4 := Lib.hid f4; clear f4)
  go_ret
  refine ⟨rfl, ?_⟩
  have F5 := (F3.out.alloc _).step F4.out (fun _ _ h => h.elim)
  exact (F5.mono (T := fun _ => False) (fun k hk h => by omega)).below
end Go.Proofs.Ytbjfgcabomgdbaa
