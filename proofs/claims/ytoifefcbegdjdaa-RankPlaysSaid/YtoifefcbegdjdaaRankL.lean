import Derived.Test.YtoifefcbegdjdaaRankA
namespace Go.Proofs.Ytoifefcbegdjdaa

/-- how many of the first n lie above x -/
def cntA (M : Nat → Int) (x : Int) : Nat → Nat
  | 0 => 0
  | n + 1 => cntA M x n + (if x < M n then 1 else 0)
theorem cntA_le (M : Nat → Int) (x : Int) (n : Nat) : cntA M x n ≤ n := by
  induction n with
  | zero => exact Nat.le_refl _
  | succ n ih => simp only [cntA]; split <;> omega
theorem cntA_mono (M : Nat → Int) {x y : Int} (h : x ≤ y) (n : Nat) : cntA M y n ≤ cntA M x n := by
  induction n with
  | zero => exact Nat.le_refl _
  | succ n ih =>
    simp only [cntA]
    by_cases h1 : y < M n
    · rw [if_pos h1, if_pos (by omega)]; omega
    · rw [if_neg h1]; split <;> omega
theorem cntA_self (M : Nat → Int) {w n : Nat} (h : w < n) : cntA M (M w) n + 1 ≤ n := by
  induction n with
  | zero => omega
  | succ n ih =>
    simp only [cntA]
    by_cases e : w = n
    · subst e
      have := cntA_le M (M w) w
      rw [if_neg (by omega)]; omega
    · have := ih (by omega); split <;> omega
theorem cntA_step (M : Nat → Int) {x : Int} {v n : Nat} (h : v < n) (hx : x < M v) : cntA M (M v) n + 1 ≤ cntA M x n := by
  induction n with
  | zero => omega
  | succ n ih =>
    simp only [cntA]
    by_cases e : v = n
    · subst e
      have := cntA_mono M (Int.le_of_lt hx) v
      rw [if_neg (by omega), if_pos hx]; omega
    · have := ih (by omega)
      by_cases h1 : M v < M n
      · rw [if_pos h1, if_pos (by omega)]; omega
      · rw [if_neg h1]; split <;> omega

/-- lists and owners fit -/
structure RK (k : Nat) (L : Nat → List Int) (O : Int → Option Int) : Prop where
  inc : ∀ i, i < k → (L i).Pairwise (· < ·)
  nn : ∀ i r, i < k → r ∈ L i → 0 ≤ r
  own : ∀ i r, i < k → r ∈ L i → O r = some (i : Int)
  has : ∀ r y, O r = some y → ∃ i : Nat, i < k ∧ y = i ∧ r ∈ L i

theorem RK.nil (k : Nat) : RK k (fun _ => []) (fun _ => none) := ⟨fun _ _ => List.Pairwise.nil, fun _ _ _ h => by simp at h, fun _ _ _ h => by simp at h, fun _ _ h => by simp at h⟩

theorem last_max {l : List Int} (h : l.Pairwise (· < ·)) {x y : Int} (hx : x ∈ l) (hy : l.getLast? = some y) : x ≤ y := by
  induction l with
  | nil => simp at hx
  | cons a l ih =>
    rw [List.pairwise_cons] at h
    cases l with
    | nil => simp at hx hy; omega
    | cons b l =>
      have hy' : (b :: l).getLast? = some y := by simpa [List.getLast?_cons_cons] using hy
      have hm : y ∈ b :: l := List.mem_of_getLast? hy'
      rcases List.mem_cons.1 hx with rfl | hx
      · have := h.1 y hm; omega
      · exact ih h.2 hx hy'

theorem above_all {l : List Int} {r : Int} (h : l.Pairwise (· < ·)) (ha : Above l r) : ∀ x ∈ l, x < r := by
  intro x hx
  cases hy : l.getLast? with
  | none => rw [List.getLast?_eq_none_iff] at hy; subst hy; simp at hx
  | some y => have := last_max h hx hy; have := ha.2 y hy; omega

theorem RK.take {k : Nat} {L : Nat → List Int} {O : Int → Option Int} (h : RK k L O) {i : Nat} (hi : i < k) {r : Int} (ha : Above (L i) r) (ho : O r = none) : RK k (upd L i (L i ++ [r])) (fun q => if q = r then some (i : Int) else O q) := by
  have hall := above_all (h.inc i hi) ha
  refine ⟨fun j hj => ?_, fun j q hj hq => ?_, fun j q hj hq => ?_, fun q y hq => ?_⟩
  · by_cases e : j = i
    · subst e; rw [upd_self, List.pairwise_append]
      exact ⟨h.inc j hj, by simp, fun a hx b hb => by simp at hb; subst hb; exact hall a hx⟩
    · rw [upd_ne _ _ e]; exact h.inc j hj
  · by_cases e : j = i
    · subst e; rw [upd_self] at hq
      rcases List.mem_append.1 hq with hq | hq
      · exact h.nn j q hj hq
      · simp at hq; subst hq; exact ha.1
    · rw [upd_ne _ _ e] at hq; exact h.nn j q hj hq
  · by_cases e : j = i
    · subst e; rw [upd_self] at hq
      rcases List.mem_append.1 hq with hq | hq
      · have := hall q hq; show (if q = r then some (j : Int) else O q) = _; rw [if_neg (by omega)]; exact h.own j q hj hq
      · simp at hq; subst hq; simp
    · rw [upd_ne _ _ e] at hq
      have := h.own j q hj hq
      show (if q = r then some (i : Int) else O q) = _
      rw [if_neg (fun e2 => by rw [e2, ho] at this; simp at this)]; exact this
  · replace hq : (if q = r then some (i : Int) else O q) = some y := hq
    split at hq
    · rename_i e; subst e; simp at hq; subst hq
      exact ⟨i, hi, rfl, by rw [upd_self]; simp⟩
    · obtain ⟨j, hj, hy, hm⟩ := h.has q y hq
      refine ⟨j, hj, hy, ?_⟩
      by_cases e : j = i
      · subst e; rw [upd_self]; exact List.mem_append_left _ hm
      · rw [upd_ne _ _ e]; exact hm

/-- the greatest that one holds; -1: nothing -/
def topR (l : List Int) : Int := l.getLast?.getD (-1)
theorem topR_edge {k : Nat} {L : Nat → List Int} {O : Int → Option Int} (h : RK k L O) {w : Nat} {r v : Int} (hr : 0 ≤ r) (hw : ∀ y, (L w).getLast? = some y → y < r) (ho : O r = some v) : ∃ u : Nat, v = u ∧ u < k ∧ topR (L w) < topR (L u) := by
  obtain ⟨u, hu, hv, hm⟩ := h.has r v ho
  refine ⟨u, hv, hu, ?_⟩
  have h1 : topR (L w) < r := by
    unfold topR
    cases hl : (L w).getLast? with
    | none => simp; omega
    | some y => simpa using hw y hl
  have h2 : r ≤ topR (L u) := by
    unfold topR
    cases hl : (L u).getLast? with
    | none => rw [List.getLast?_eq_none_iff] at hl; rw [hl] at hm; simp at hm
    | some y => simpa using last_max (h.inc u hu) hm hl
  omega
end Go.Proofs.Ytoifefcbegdjdaa
