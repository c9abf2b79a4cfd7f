import Derived.Test.YtkclbgoagcpckaaArr
namespace Go.Proofs.Ytkclbgoagcpckaa

/-- one lock's tries: N tickets were given, T holders left; last: the ticket of who came to hold last -/
structure OneI (k N T : Nat) (at_ tk : Nat → Int) (last : Int) : Prop where
  le : T ≤ N
  st : ∀ j, j < k → (at_ j = 0 ∧ tk j = -1) ∨ (at_ j = 1 ∧ (T : Int) ≤ tk j ∧ tk j < N) ∨ (at_ j = 2 ∧ tk j = T ∧ tk j < N) ∨ (at_ j = 3 ∧ 0 ≤ tk j ∧ tk j < T ∧ tk j < N)
  inj : ∀ i j, i < k → j < k → 0 ≤ tk i → tk i = tk j → i = j
  last : (last = (T : Int) - 1 ∧ ∀ j, j < k → at_ j ≠ 2) ∨ (last = (T : Int) ∧ ∃ j, j < k ∧ at_ j = 2)

theorem OneI.start (k : Nat) : OneI k 0 0 (fun _ => 0) (fun _ => -1) (-1) :=
  ⟨Nat.le_refl _, fun _ _ => .inl ⟨rfl, rfl⟩, fun i j _ _ h => by simp at h, .inl ⟨rfl, fun _ _ => by simp⟩⟩

/-- how many hold -/
def held (at_ : Nat → Int) : Nat → Nat
  | 0 => 0
  | n + 1 => held at_ n + (if at_ n = 2 then 1 else 0)
theorem held_yes {at_ : Nat → Int} {n : Nat} (h : at_ n = 2) : held at_ n + 1 = held at_ (n + 1) := by simp [held, h]
theorem held_no {at_ : Nat → Int} {n : Nat} (h : at_ n ≠ 2) : held at_ n = held at_ (n + 1) := by simp [held, h]
theorem held_bound (at_ : Nat → Int) (n : Nat) : held at_ n ≤ n := by
  induction n with
  | zero => simp [held]
  | succ n ih => simp only [held]; split <;> omega

variable {k N T : Nat} {at_ tk : Nat → Int} {last : Int} (h : OneI k N T at_ tk last)
include h

theorem OneI.fresh {j : Nat} (hj : j < k) (h0 : at_ j = 0) : OneI k (N + 1) T (upd at_ j 1) (upd tk j N) last := by
  have hle := h.le
  refine ⟨by omega, fun i hi => ?_, fun i i' hi hi' hp e => ?_, ?_⟩
  · by_cases e : i = j
    · subst e; rw [upd_self, upd_self]; omega
    · rw [upd_ne _ _ e, upd_ne _ _ e]; have := h.st i hi; omega
  · by_cases e1 : i = j
    · by_cases e2 : i' = j
      · omega
      · subst e1; rw [upd_self, upd_ne _ _ e2] at e; have := h.st i' hi'; omega
    · by_cases e2 : i' = j
      · subst e2; rw [upd_self, upd_ne _ _ e1] at e; have := h.st i hi; omega
      · rw [upd_ne _ _ e1] at hp; rw [upd_ne _ _ e1, upd_ne _ _ e2] at e; exact h.inj i i' hi hi' hp e
  · rcases h.last with ⟨hl, hn⟩ | ⟨hl, i, hi, h2⟩
    · refine .inl ⟨hl, fun i hi => ?_⟩
      by_cases e : i = j
      · subst e; rw [upd_self]; decide
      · rw [upd_ne _ _ e]; exact hn i hi
    · refine .inr ⟨hl, i, hi, ?_⟩
      have e : i ≠ j := fun e => by subst e; omega
      rw [upd_ne _ _ e]; exact h2

theorem OneI.hold {j : Nat} (hj : j < k) (h1 : at_ j = 1) (ht : tk j = T) : tk j = last + 1 ∧ OneI k N T (upd at_ j 2) tk (tk j) := by
  have no : ∀ i, i < k → at_ i ≠ 2 := by
    intro i hi h2
    have a := h.st i hi
    have e : i = j := h.inj i j hi hj (by omega) (by omega)
    subst e
    omega
  have hl : last = (T : Int) - 1 := by
    rcases h.last with h | ⟨_, i, hi, h2⟩
    · exact h.1
    · exact absurd h2 (no i hi)
  refine ⟨by omega, h.le, fun i hi => ?_, h.inj, .inr ⟨ht, j, hj, upd_self _ _ _⟩⟩
  by_cases e : i = j
  · subst e; rw [upd_self]; have := h.st i hi; omega
  · rw [upd_ne _ _ e]; exact h.st i hi

theorem OneI.leave {j : Nat} (hj : j < k) (h2 : at_ j = 2) : OneI k N (T + 1) (upd at_ j 3) tk last := by
  have hjt := h.st j hj
  have no : ∀ i, i < k → i ≠ j → at_ i ≠ 2 := by
    intro i hi hne h3
    have a := h.st i hi
    exact hne (h.inj i j hi hj (by omega) (by omega))
  refine ⟨by omega, fun i hi => ?_, h.inj, .inl ⟨?_, fun i hi => ?_⟩⟩
  · by_cases e : i = j
    · subst e; rw [upd_self]; omega
    · rw [upd_ne _ _ e]
      have a := h.st i hi
      have b := no i hi e
      have c : tk i ≠ T ∨ tk i < 0 := by
        by_cases c : tk i = T
        · exact absurd (h.inj i j hi hj (by omega) (by omega)) e
        · exact .inl c
      omega
  · rcases h.last with ⟨_, hn⟩ | ⟨hl, _⟩
    · exact absurd h2 (hn j hj)
    · omega
  · by_cases e : i = j
    · subst e; rw [upd_self]; decide
    · rw [upd_ne _ _ e]; exact no i hi e
omit h in
theorem held_bd (P : ∀ i j, i < k → j < k → at_ i = 2 → at_ j = 2 → i = j) : ∀ n, n ≤ k → held at_ n ≤ 1 ∧ (held at_ n = 1 → ∃ i, i < n ∧ at_ i = 2) := by
  intro n
  induction n with
  | zero => intro _; exact ⟨by simp [held], fun h => by simp [held] at h⟩
  | succ n ih =>
    intro hn
    obtain ⟨h1, h2⟩ := ih (by omega)
    by_cases e : at_ n = 2
    · have h0 : held at_ n = 0 := by
        rcases Nat.lt_or_ge (held at_ n) 1 with h | h
        · omega
        · obtain ⟨i, hi, hi2⟩ := h2 (by omega)
          have := P i n (by omega) (by omega) hi2 e
          omega
      exact ⟨by simp [held, e, h0], fun _ => ⟨n, by omega, e⟩⟩
    · have h3 : held at_ (n + 1) = held at_ n := by simp [held, e]
      rw [h3]
      exact ⟨h1, fun h => let ⟨i, hi, hi2⟩ := h2 h; ⟨i, by omega, hi2⟩⟩

theorem OneI.held_le : held at_ k ≤ 1 :=
  (held_bd (fun i j hi hj h1 h2 => h.inj i j hi hj (by have := h.st i hi; omega) (by have := h.st i hi; have := h.st j hj; omega)) k (Nat.le_refl _)).1
end Go.Proofs.Ytkclbgoagcpckaa
