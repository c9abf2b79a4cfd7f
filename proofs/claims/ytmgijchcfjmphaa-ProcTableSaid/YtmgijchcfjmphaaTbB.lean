import Derived.Test.YtmgijchcfjmphaaTbA
namespace Go.Proofs.Ytmgijchcfjmphaa
open Go.RowKit

/-- the view stands so that the table is this one -/
def Kt (V : Vw) (w0 : World) (used : Nat → Bool) (par pid : Nat → Int) (last : Int) (w : World) : Prop := ∃ σ, Tb σ used par pid last ∧ Keeps V w0 σ [] w
def RetT (V : Vw) (w0 : World) (used : Nat → Bool) (par pid : Nat → Int) (last : Int) (w : World) (v : Value) (e : Ending) (w' : World) : Prop := e = .returned v ∧ Kt V w0 used par pid last w' ∧ Fr V.foot w w'
section
variable {V : Vw} {w0 w : World} {used : Nat → Bool} {par pid : Nat → Int} {last : Int}
theorem retT {v : Value} {σ : St} (h : Tb σ used par pid last) {e : Ending} {w' : World} (k : Ret V w0 [] w v σ e w') : RetT V w0 used par pid last w v e w' := ⟨k.1, ⟨σ, h, k.2.k⟩, k.2.f⟩
theorem Kt.facts (h : Kt V w0 used par pid last w) : Fr V.foot w0 w ∧ (∀ k, V.has k → k < w0.heap.size) ∧ 0 ≤ last ∧ last ≤ 1000 ∧ ∀ k, k < 8 → used k = true → 0 ≤ par k ∧ par k ≤ 7 ∧ 1 ≤ pid k ∧ pid k ≤ last := by
  obtain ⟨σ, hT, hK⟩ := h
  exact ⟨hK.fr, hK.lt, hT.last.1, hT.last.2, fun k hk hu => (hT.live k hk hu).2.2.2⟩
theorem Kt.setOwn (h : Kt V w0 used par pid last w) {a : Addr} (hb : w0.heap.size ≤ a.block) (v : Value) : Kt V w0 used par pid last (w.setCell a v) := by
  obtain ⟨σ, hF, hK⟩ := h
  exact ⟨σ, hF, hK.setOwn hb v⟩
theorem Kt.drewN (h : Kt V w0 used par pid last w) (n : Nat) : Kt V w0 used par pid last (w.drewN n) := by
  obtain ⟨σ, hF, hK⟩ := h
  exact ⟨σ, hF, hK.drewN n⟩
theorem Kt.alloc (h : Kt V w0 used par pid last w) (o : Obj) : Kt V w0 used par pid last (w.alloc o) := by
  obtain ⟨σ, hF, hK⟩ := h
  exact ⟨σ, hF, hK.alloc o⟩
theorem Kt.owned (h : Kt V w0 used par pid last w) {S : Nat → Prop} {w' : World} (f : Fr S w w') (hs : ∀ k, S k → w0.heap.size ≤ k) : Kt V w0 used par pid last w' := by
  obtain ⟨σ, hF, hK⟩ := h
  refine ⟨σ, hF, hK.vs.fr f (fun k hk e => by have := hK.lt k hk; have := hs k e; omega), hK.fr.step f (fun k hk e => by have := hs k e; omega), hK.lt, trivial, fun e he => by simp at he, hK.ap⟩
theorem kt_state (k : Nat) (hk : k < 8) (h : Kt V w0 used par pid last w) : Calls Try.prog 23 #[V.p, .int .i64 k] w (RetT V w0 used par pid last w (.int .i64 (if used k then 1 else 0))) := by
  obtain ⟨σ, hT, hK⟩ := h
  have c := proc_state k hK
  rw [tb_state hT k hk] at c
  exact c.mono fun e w' r => retT (tb_got hT k) r
theorem kt_free (q : Nat) (hq : q < 8) (h : Kt V w0 used par pid last w) : Calls Try.prog 20 #[V.p, .int .i64 q] w (RetT V w0 (upd used q false) par pid last w (.bool (used q))) := by
  obtain ⟨σ, hT, hK⟩ := h
  obtain ⟨h1, h2⟩ := tb_free hT q hq
  have c := proc_free q hK
  rw [h1] at c
  exact c.mono fun e w' r => retT h2 r
theorem kt_new_yes (p : Int) (hp : 0 ≤ p ∧ p ≤ 7) (hl : last ≤ 999) (q : Nat) (hq : q < 8) (hu : used q = false) (hall : ∀ j, j < q → used j = true) (h : Kt V w0 used par pid last w) :
    Calls Try.prog 15 #[V.p, .int .i64 p] w (RetT V w0 (upd used q true) (upd par q p) (upd pid q (last + 1)) (last + 1) w (.tuple #[.int .i64 q, .bool true])) := by
  obtain ⟨σ, hT, hK⟩ := h
  have c := proc_new p hK
  rcases tb_new hT p hp hl with ⟨q', hq', hu', hall', h1, h2⟩ | ⟨ha, _, _⟩
  · obtain rfl : q = q' := by
      rcases Nat.lt_trichotomy q q' with k | k | k
      · rw [hall' q k] at hu; simp at hu
      · exact k
      · rw [hall q' k] at hu'; simp at hu'
    rw [h1] at c
    exact c.mono fun e w' r => retT h2 r
  · rw [ha q hq] at hu; simp at hu
theorem kt_new_no (p : Int) (hp : 0 ≤ p ∧ p ≤ 7) (hl : last ≤ 999) (ha : ∀ j, j < 8 → used j = true) (h : Kt V w0 used par pid last w) :
    Calls Try.prog 15 #[V.p, .int .i64 p] w (RetT V w0 used par pid last w (.tuple #[.int .i64 0, .bool false])) := by
  obtain ⟨σ, hT, hK⟩ := h
  have c := proc_new p hK
  rcases tb_new hT p hp hl with ⟨q', hq', hu', hall', h1, h2⟩ | ⟨_, h1, h2⟩
  · rw [ha q' hq'] at hu'; simp at hu'
  · rw [h1] at c
    exact c.mono fun e w' r => retT h2 r
theorem kt_bypid (q : Nat) (hq : q < 8) (hu : used q = true) (h : Kt V w0 used par pid last w) : Calls Try.prog 17 #[V.p, .int .i64 (pid q)] w (RetT V w0 used par pid last w (.tuple #[.int .i64 q, .bool true])) := by
  obtain ⟨σ, hT, hK⟩ := h
  have c := proc_bypid (pid q) hK
  rw [show (procByPid σ (pid q)).1 = ((q : Int), true) from tb_pid1 q hq hu 8 0 σ hT rfl (by omega)] at c
  exact c.mono fun e w' r => retT (tb_pidfrom _ _ _ _ hT) r
theorem kt_bypid_any (id : Int) (h : Kt V w0 used par pid last w) : Calls Try.prog 17 #[V.p, .int .i64 id] w fun e w' => ∃ x b, RetT V w0 used par pid last w (.tuple #[.int .i64 x, .bool b]) e w' := by
  obtain ⟨σ, hT, hK⟩ := h
  exact (proc_bypid id hK).mono fun e w' r => ⟨_, _, retT (tb_pidfrom _ _ _ _ hT) r⟩
theorem kt_kids (p : Int) (hp : 0 ≤ p ∧ p ≤ 7) (h : Kt V w0 used par pid last w) : Calls Try.prog 16 #[V.p, .int .i64 p] w fun e w' =>
    ∃ v, e = .returned v ∧ Own w' 3 1 (kidsL used par p 8 0).length v (ints (kidsL used par p 8 0)) ∧ (∀ k, Of v k → w.heap.size ≤ k) ∧ Kt V w0 used par pid last w' ∧ Fr V.foot w w' := by
  obtain ⟨σ, hT, hK⟩ := h
  obtain ⟨h1, h2⟩ := tb_kids p hp 8 0 [] σ hT rfl
  have h1' : (procKids σ p).1 = kidsL used par p 8 0 := by unfold procKids; rw [h1]; simp
  have c := proc_kids p hK
  rw [h1'] at c
  exact c.mono fun e w' ⟨v, r1, r2, r3, r4⟩ => ⟨v, r1, r2, r3, ⟨_, h2, r4.k⟩, r4.f⟩
end
theorem least_or (used : Nat → Bool) : ∀ n : Nat, (∃ q, q < n ∧ used q = false ∧ ∀ j, j < q → used j = true) ∨ ∀ j, j < n → used j = true
  | 0 => .inr (fun j hj => by omega)
  | n + 1 => by
    rcases least_or used n with ⟨q, h1, h2, h3⟩ | h
    · exact .inl ⟨q, by omega, h2, h3⟩
    · cases hu : used n with
      | false => exact .inl ⟨n, by omega, hu, h⟩
      | true => exact .inr (fun j hj => by
          by_cases e : j = n
          · subst e; exact hu
          · exact h j (by omega))
end Go.Proofs.Ytmgijchcfjmphaa
