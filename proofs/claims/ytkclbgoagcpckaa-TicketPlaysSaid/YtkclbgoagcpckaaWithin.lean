import Derived.Test.YtkclbgoagcpckaaChecked
import Derived.Test.YtkclbgoagcpckaaLib
namespace Go.Proofs.Ytkclbgoagcpckaa
open Go.RowKit

theorem tmod_up (n m : Int) (hm : 0 < m) : (if n.tmod m < 0 then n.tmod m + m else n.tmod m) = n % m := by
  rw [Int.tmod_eq_emod]
  have b1 := Int.emod_nonneg n (show m ≠ 0 by omega)
  have b2 := Int.emod_lt_of_pos n hm
  split
  · rename_i h; simp; omega
  · rename_i h; rw [if_pos (by omega)]; omega

theorem tmod_bd (n m : Int) (hm : 0 < m) : -m < n.tmod m ∧ n.tmod m < m := by
  rw [Int.tmod_eq_emod]
  have b1 := Int.emod_nonneg n (show m ≠ 0 by omega)
  have b2 := Int.emod_lt_of_pos n hm
  split <;> omega

/-- what Within answers -/
def wth (n lo hi : Int) : Int := lo + n % (hi - lo + 1)
theorem wth_bd {n lo hi : Int} (h : lo ≤ hi) : lo ≤ wth n lo hi ∧ wth n lo hi ≤ hi := by
  unfold wth
  have b1 := Int.emod_nonneg n (show hi - lo + 1 ≠ 0 by omega)
  have b2 := Int.emod_lt_of_pos n (show 0 < hi - lo + 1 by omega)
  omega

/-- `cloisterbook.Within(n, lo, hi)`. -/
theorem within_any (n lo hi : Int) (w : World) (hn : -9223372036854775808 ≤ n ∧ n ≤ 9223372036854775807) (h1 : lo ≤ hi) (h2 : -1000000 ≤ lo) (h3 : hi ≤ 1000000) :
    Calls Try.prog 19 #[.int .i64 n, .int .i64 lo, .int .i64 hi] w fun e w' => e = .returned (.int .i64 (wth n lo hi)) ∧ w = w' := by
  obtain ⟨hn1, hn2⟩ := hn
  have hz : (hi - lo + 1 == 0) = false := beq_eq_false_iff_ne.2 (by omega)
  have hz' : ¬ hi - lo + 1 = 0 := by omega
  have hp1 : 1 ≤ hi - lo + 1 := by omega
  obtain ⟨hl1, hl2⟩ := tmod_bd n (hi - lo + 1) (by omega)
  have K := Lib.hid (tmod_up n (hi - lo + 1) (by omega))
  by_cases hp : 0 ≤ n
  · have e : n.tmod (hi - lo + 1) = n % (hi - lo + 1) := Int.tmod_eq_emod_of_nonneg hp
    rw [e] at hl1 hl2
    clear e
    have b1 := Int.emod_nonneg n hz'
    go_enter Try.func19, Try.ntmps19
    go_wp2
    go_ret
    exact ⟨rfl, rfl⟩
  · by_cases hneg : n.tmod (hi - lo + 1) < 0
    · go_enter Try.func19, Try.ntmps19
      go_wp2
      go_ret
      refine ⟨?_, rfl⟩
      have k := K.out
      rw [if_pos hneg] at k
      unfold wth
      rw [← k]
      exact congrArg (fun x => Ending.returned (.int .i64 x)) (by omega)
    · go_enter Try.func19, Try.ntmps19
      go_wp2
      go_ret
      refine ⟨?_, rfl⟩
      have k := K.out
      rw [if_neg (by omega)] at k
      unfold wth
      rw [← k]
      rfl
end Go.Proofs.Ytkclbgoagcpckaa
