import Derived.Test.YtoifefcbegdjdaaChecked
import Derived.Test.YtoifefcbegdjdaaLib
namespace Go.Proofs.Ytoifefcbegdjdaa
open Go.RowKit

theorem stop_any (why at_ : Int) (w : World) :
    Calls Try.prog 53 #[.int .i64 why, .int .i64 at_] w fun e w' => e = .panicked [{ v := .iface 30 (.agg #[.int .i64 why, .int .i64 at_]), recovered := false }] ∧ w' = w := by
  go_enter Try.func53, Try.ntmps53
  go_wp2
  exact ⟨rfl, rfl, rfl⟩

theorem must_true (why at_ : Int) (w : World) :
    Calls Try.prog 54 #[.bool true, .int .i64 why, .int .i64 at_] w fun e w' => e = .returned (.tuple #[]) ∧ w' = w := by
  go_enter Try.func54, Try.ntmps54
  go_wp2
  go_end0
  exact ⟨rfl, rfl⟩

theorem must_false (why at_ : Int) (w : World) :
    Calls Try.prog 54 #[.bool false, .int .i64 why, .int .i64 at_] w fun e w' => e = .panicked [{ v := .iface 30 (.agg #[.int .i64 why, .int .i64 at_]), recovered := false }] ∧ w' = w := by
  go_enter Try.func54, Try.ntmps54
  go_wp2_with (go_at_call 53; refine (stop_any _ _ _).mono ?_; rintro e w' ⟨rfl, rfl⟩)
  exact ⟨rfl, rfl, rfl⟩
end Go.Proofs.Ytoifefcbegdjdaa
