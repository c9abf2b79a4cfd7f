import Derived.Test.YtmgijchcfjmphaaViewP
namespace Go.Proofs.Ytmgijchcfjmphaa
open Go.RowKit

/-- are so many bytes there? -/
def fits (s : ByteArray) (a n : Int) : Bool := decide (0 ≤ a ∧ 0 ≤ n ∧ a ≤ s.size ∧ n ≤ s.size - a)

theorem arg_key (p : Int) (w : World) : Calls Try.prog 25 #[.int .i64 p] w fun e w' => e = .returned (keyV (memK p)) ∧ Fr (fun _ => False) w w' := by
  go_enter Try.func25, Try.ntmps25
  go_wp2_with fail
  exact bodyPost_ret (v := keyV (memK p)) (by simp [results, Try.results25, go_sem]) rfl ⟨rfl, (Fr.refl _ _).alloc _⟩

theorem arg_within (s : ByteArray) (a n : Int) (w : World) (hs : s.size ≤ 1000000000) : Calls Try.prog 26 #[.string s, .int .i64 a, .int .i64 n] w fun e w' => e = .returned (.bool (fits s a n)) ∧ w = w' := by
  have hs' : (s.size : Int) ≤ 1000000000 := by omega
  by_cases h1 : 0 ≤ a
  · by_cases h2 : 0 ≤ n
    · by_cases h3 : a ≤ s.size
      · by_cases h4 : n ≤ s.size - a
        · have e : fits s a n = true := decide_eq_true ⟨h1, h2, h3, h4⟩
          rw [e]
          clear e
          go_enter Try.func26, Try.ntmps26
          go_wp2_with fail
          go_ret
          exact ⟨rfl, rfl⟩
        · have e : fits s a n = false := decide_eq_false (fun h => h4 h.2.2.2)
          rw [e]
          clear e
          have h4' : decide (n ≤ s.size - a) = false := decide_eq_false h4
          go_enter Try.func26, Try.ntmps26
          go_wp2_with fail
          go_ret
          exact ⟨rfl, rfl⟩
      · have e : fits s a n = false := decide_eq_false (fun h => h3 h.2.2.1)
        rw [e]
        clear e
        have h4' : decide (a ≤ s.size) = false := decide_eq_false h3
        go_enter Try.func26, Try.ntmps26
        go_wp2_with fail
        go_ret
        exact ⟨rfl, rfl⟩
    · have e : fits s a n = false := decide_eq_false (fun h => h2 h.2.1)
      rw [e]
      clear e
      have h4' : decide (0 ≤ n) = false := decide_eq_false h2
      go_enter Try.func26, Try.ntmps26
      go_wp2_with fail
      go_ret
      exact ⟨rfl, rfl⟩
  · have e : fits s a n = false := decide_eq_false (fun h => h1 h.1)
    rw [e]
    clear e
    have h4' : decide (0 ≤ a) = false := decide_eq_false h1
    go_enter Try.func26, Try.ntmps26
    go_wp2_with fail
    go_ret
    exact ⟨rfl, rfl⟩

end Go.Proofs.Ytmgijchcfjmphaa
