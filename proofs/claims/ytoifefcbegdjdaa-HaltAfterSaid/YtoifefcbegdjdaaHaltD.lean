import Derived.Test.YtoifefcbegdjdaaHaltC
namespace Go.Proofs.Ytoifefcbegdjdaa
open Go.RowKit

theorem bounds_out {α : Type} (P : Program) (w : World) (k : IntKind) (x y : Int) (code : BoundsCode) :
    ∃ s w', (w' = w ∨ w' = w.drew) ∧ (boundsPanic k x y code : Sem α).run P w = .halt (.panic (boundsValue P (IntKind.i64.wrap x) y s code.toNat)) w' := by
  unfold boundsPanic boundsValue
  split
  · simp [runtimePanic, goPanic, go_sem]
  · simp [runtimePanic, goPanic, go_sem]

theorem index_out (P : Program) (w : World) (t : TypeId) (a0 : Option Addr) (len cap : Nat) (k : IntKind) (i : Int) (h : P.underlying t = some (.slice (P.elem t))) (hnil : a0 = none → len = 0) (ho : i < 0 ∨ (len : Int) ≤ i) :
    ∃ s w', (w' = w ∨ w' = w.drew) ∧ (Instr.indexAt t (.slice a0 len cap) (.int k i)).run P w = .halt (.panic (boundsValue P (IntKind.i64.wrap i) len s 0)) w' := by
  cases a0 with
  | some a =>
    rw [run_indexAt_slice (h := h), if_neg (by omega)]
    exact bounds_out P w k i len .index
  | none =>
    obtain rfl := hnil rfl
    have e : (Instr.indexAt t (.slice none 0 cap) (.int k i)).run P w = (boundsPanic k i 0 .index).run P w := by
      simp [Instr.indexAt, run_underlying h, asIntOf]
    rw [e]
    exact bounds_out P w k i 0 .index

theorem index_out_fn (P : Program) (t : TypeId) (a0 : Option Addr) (len cap : Nat) (k : IntKind) (i : Int) (h : P.underlying t = some (.slice (P.elem t))) (hnil : a0 = none → len = 0) (ho : i < 0 ∨ (len : Int) ≤ i) :
    ∃ f : World → Bool × World, ∀ w, ((f w).2 = w ∨ (f w).2 = w.drew) ∧ (Instr.indexAt t (.slice a0 len cap) (.int k i)).run P w = .halt (.panic (boundsValue P (IntKind.i64.wrap i) len (f w).1 0)) (f w).2 :=
  Classical.axiomOfChoice (r := fun (w : World) (x : Bool × World) => (x.2 = w ∨ x.2 = w.drew) ∧ (Instr.indexAt t (.slice a0 len cap) (.int k i)).run P w = .halt (.panic (boundsValue P (IntKind.i64.wrap i) len x.1 0)) x.2)
    fun w => let ⟨s, w', h1, h2⟩ := index_out P w t a0 len cap k i h hnil ho; ⟨(s, w'), h1, h2⟩

theorem runs1 (w : World) : Calls Try.prog 56 #[] w fun e w' => Tame (.stop 7 7) e ∧ w' = w := by
  go_enter Try.func56, Try.ntmps56
  go_wp2_with (go_at_call 53; refine (stop_any _ _ _).mono ?_; rintro e w' ⟨rfl, rfl⟩)
  exact ⟨rfl, ⟨[], rfl, rfl⟩, rfl⟩

theorem runs2 (w : World) : Calls Try.prog 57 #[] w fun e w' => Tame .ok e ∧ w' = w := by
  go_enter Try.func57, Try.ntmps57
  go_wp2
  go_end0
  exact ⟨⟨_, rfl⟩, rfl⟩
theorem runs4 (w : World) : Calls Try.prog 60 #[] w fun e w' => Tame .ok e ∧ w' = w := by
  go_enter Try.func60, Try.ntmps60
  go_wp2
  go_end0
  exact ⟨⟨_, rfl⟩, rfl⟩
theorem runs5 (w : World) : Calls Try.prog 61 #[] w fun e w' => Tame .ok e ∧ w' = w := by
  go_enter Try.func61, Try.ntmps61
  go_wp2
  go_end0
  exact ⟨⟨_, rfl⟩, rfl⟩
theorem runs6 (w : World) : Calls Try.prog 62 #[] w fun e w' => Tame (.stop 2 3) e ∧ w' = w := by
  go_enter Try.func62, Try.ntmps62
  go_wp2_with (go_at_call 54; refine (must_false _ _ _).mono ?_; rintro e w' ⟨rfl, rfl⟩)
  exact ⟨rfl, ⟨[], rfl, rfl⟩, rfl⟩

set_option maxRecDepth 100000 in
theorem runs3 (bn bb : Nat) (w : World) (h : Blk w bn #[.slice none 0 0] 24) :
    Calls Try.prog 58 #[.pointer (some ⟨bn, 0, none⟩), .pointer (some ⟨bb, 0, none⟩)] w fun e w' => Tame .other e ∧ Fr (fun _ => False) w w' := by
  have h0 := h.cell 0
  obtain ⟨s, w', hw', hrun⟩ := index_out Try.prog w 24 none 0 0 .i64 3 Try.underlying24 (fun _ => rfl) (by omega)
  unfold boundsValue at hrun
  have HW := Lib.hid hw'
  clear hw'
  go_enter Try.func58, Try.ntmps58
  go_wp2
  refine ⟨rfl, ⟨_, _, _, rfl, ?_, rfl⟩, ?_⟩
  · simp
  · rcases HW.out with rfl | rfl
    · exact Fr.refl _ _
    · exact (Fr.refl _ _).drew

/-- A guard over a closed deed. -/
theorem guard_plain (g : FuncId) (cap : Array Value) (w : World) (s : Stp) (hg : ∀ w, (callFunc g cap).run Try.prog w = .ok (.enter g cap) w)
    (h : Calls Try.prog g cap (gworld w) fun e w' => Tame s e ∧ Fr (fun _ => False) (gworld w) w') :
    Calls Try.prog 18 #[.func (.func g) #[] cap] w fun e w' => e = .returned (.tuple #[.agg #[.int .i64 s.why, .int .i64 s.at], .bool s.is]) ∧ Fr (fun _ => False) w w' := by
  refine (guard_of g cap w _ (fun _ => False) (fun _ h => h.elim) hg h (fun e w' h => ⟨s, h⟩)).mono ?_
  rintro e w' ⟨t, e1, w1, ⟨h1, h2⟩, h3, rfl, h4⟩
  obtain rfl := h1.uniq h3
  exact ⟨rfl, ((gworld_fr w _).trans h2).step h4 (fun i hi h => by omega)⟩

theorem runs_deeds : Deeds [(60, #[]), (61, #[]), (62, #[]), (63, #[])] (fun i => if i = 2 then .stop 2 3 else .ok) (fun _ F _ => ∀ k, ¬ F k) where
  enter := by
    intro i p h w
    match i, h with
    | 0, h => simp at h; subst h; simp [go_sem]
    | 1, h => simp at h; subst h; simp [go_sem]
    | 2, h => simp at h; subst h; simp [go_sem]
    | 3, h => simp at h; subst h; simp [go_sem]
    | n + 4, h => simp at h
  stable := fun _ _ _ _ h _ => h
  lt := fun _ F _ h k hk => absurd hk (h k)
  run := by
    intro i p h hj F w hI
    match i, h with
    | 0, h => simp at h; subst h; exact (runs4 w).mono fun e w' ⟨a, b⟩ => ⟨a, b ▸ Fr.refl _ _, F, hI, fun k hk => .inl hk⟩
    | 1, h => simp at h; subst h; exact (runs5 w).mono fun e w' ⟨a, b⟩ => ⟨a, b ▸ Fr.refl _ _, F, hI, fun k hk => .inl hk⟩
    | 2, h => simp at h; subst h; exact (runs6 w).mono fun e w' ⟨a, b⟩ => ⟨a, b ▸ Fr.refl _ _, F, hI, fun k hk => .inl hk⟩
    | 3, h => have := hj 2 (by omega); simp at this
    | n + 4, h => simp at h

set_option maxRecDepth 100000 in
theorem haltRuns_any (w : World) : Calls Try.prog 22 #[] w fun e w' => e = .returned (.bool true) ∧ Fr (fun _ => False) w w' := by
  have hmf : ∀ (fn : Fn) (first cap : Array Value) (w : World), (Instr.makeFunc fn first cap).run Try.prog w = .ok (.func fn first cap) w := fun _ _ _ _ => rfl
  go_enter Try.func22, Try.ntmps22
  go_wp2_with fail
  refine (guard_plain 56 #[] w (.stop 7 7) (fun w => by simp [go_sem]) ((runs1 _).mono fun e w' h => ⟨h.1, h.2 ▸ Fr.refl _ _⟩)).mono ?_
  rintro e w1 ⟨rfl, f1⟩
  simp only [Stp.why, Stp.at, Stp.is]
  go_wp2_with fail
  refine (guard_plain 57 #[] _ .ok (fun w => by simp [go_sem]) ((runs2 _).mono fun e w' h => ⟨h.1, h.2 ▸ Fr.refl _ _⟩)).mono ?_
  rintro e w2 ⟨rfl, f2⟩
  simp only [Stp.why, Stp.at, Stp.is]
  have s1 := Lib.hid ((Blk.new w1 #[.int .i64 7, .int .i64 7] 30).fr f2 (fun h => h))
  have f2' := Lib.hid ((f1.alloc _).trans f2)
  clear f1 f2
  go_wp2_with fail
  have s2 := Lib.hid (Blk.new w2 #[.int .i64 0, .int .i64 0] 30)
  have n2 := Lib.hid (Blk.new (w2.alloc (.cells #[.int .i64 0, .int .i64 0] 30)) #[.slice none 0 0] 24)
  have e2 : (w2.alloc (.cells #[.int .i64 0, .int .i64 0] 30)).heap.size = w2.heap.size + 1 := by simp
  have n3 := n2.out
  rw [e2] at n3
  have hlt := Lib.hid s1.out.lt
  have s1' := Lib.hid ((s1.out.alloc (.cells #[.int .i64 0, .int .i64 0] 30)).alloc (.cells #[.slice none 0 0] 24))
  have s2' := Lib.hid (s2.out.alloc (.cells #[.slice none 0 0] 24))
  refine (guard_plain 58 _ _ .other (fun w => by simp [go_sem]) (runs3 _ w2.heap.size _ (n3.fr (gworld_fr _ (fun _ => False)) (fun h => h)))).mono ?_
  rintro e w3 ⟨rfl, f3⟩
  simp only [Stp.why_x, Stp.at_x, Stp.is_x]
  have f3' := Lib.hid (((f2'.out.alloc _).alloc _).trans f3)
  have s1 := Lib.hid (s1'.out.fr f3 (fun h => h))
  have s2 := Lib.hid (s2'.out.fr f3 (fun h => h))
  clear f3 f2' n2 n3 e2 s1' s2' 
  go_wp2_with fail
  have s3 := Lib.hid ((Blk.new w3 #[.int .i64 1, .int .i64 0] 30).alloc (.cells #[.func (.func 60) #[] #[], .func (.func 61) #[] #[], .func (.func 62) #[] #[], .func (.func 63) #[] #[]] 1))
  refine (run_of _ _ _ runs_deeds (fun _ => False) _ (w3.heap.size + 1) 4 4 rfl (by omega) (fun _ h => h) (by simp) (fun h => h) ?_).mono ?_
  · intro j p hp
    match j, hp with
    | 0, h => simp at h; subst h; simp [go_sem]
    | 1, h => simp at h; subst h; simp [go_sem]
    | 2, h => simp at h; subst h; simp [go_sem]
    | 3, h => simp at h; subst h; simp [go_sem]
    | n + 4, h => simp at h
  rintro e w4 ⟨f, F, t, hf, rfl, ht, _, _, fr4⟩
  obtain rfl : f = 2 := hf
  obtain rfl : t = .stop 2 3 := ht
  have f4' := Lib.hid (((f3'.out.alloc _).alloc _).trans fr4)
  have s1 := Lib.hid (((s1.out.alloc _).alloc _).fr fr4 (fun h => h))
  have s2 := Lib.hid (((s2.out.alloc _).alloc _).fr fr4 (fun h => h))
  have s3 := Lib.hid (s3.out.fr fr4 (fun h => h))
  have lt1 := s1.out.lt
  have lt2 := s2.out.lt
  have lt3 := s3.out.lt
  have c10 := s1.out.cell 0
  have c11 := s1.out.cell 1
  have c20 := s2.out.cell 0
  have c21 := s2.out.cell 1
  have c30 := s3.out.cell 0
  have c31 := s3.out.cell 1
  clear fr4
  simp only [Stp.why_s, Stp.at_s]
  go_wp2_with fail
  go_ret
  exact ⟨rfl, f4'.out.alloc _⟩

theorem haltRuns_walk (w : World) : Calls Try.prog 22 #[] w fun e w' => e = .returned (.bool true) ∧ Below w.heap.size w w' :=
  (haltRuns_any w).mono fun _ _ h => ⟨h.1, h.2.below⟩
end Go.Proofs.Ytoifefcbegdjdaa
