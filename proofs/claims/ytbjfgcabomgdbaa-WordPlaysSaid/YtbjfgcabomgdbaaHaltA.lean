import Derived.Test.YtbjfgcabomgdbaaChecked
import Derived.Test.YtbjfgcabomgdbaaLib
namespace Go.Proofs.Ytbjfgcabomgdbaa
open Go.RowKit

theorem stop_any (why at_ : Int) (w : World) :
    Calls Try.prog 14 #[.int .i64 why, .int .i64 at_] w fun e w' => e = .panicked [{ v := .iface 23 (.agg #[.int .i64 why, .int .i64 at_]), recovered := false }] ∧ w' = w := by
  go_enter Try.func14, Try.ntmps14
  go_wp2
  exact ⟨rfl, rfl, rfl⟩

theorem must_true (why at_ : Int) (w : World) :
    Calls Try.prog 21 #[.bool true, .int .i64 why, .int .i64 at_] w fun e w' => e = .returned (.tuple #[]) ∧ w' = w := by
  go_enter Try.func21, Try.ntmps21
  go_wp2
  go_end0
  exact ⟨rfl, rfl⟩

theorem must_false (why at_ : Int) (w : World) :
    Calls Try.prog 21 #[.bool false, .int .i64 why, .int .i64 at_] w fun e w' => e = .panicked [{ v := .iface 23 (.agg #[.int .i64 why, .int .i64 at_]), recovered := false }] ∧ w' = w := by
  go_enter Try.func21, Try.ntmps21
  go_wp2_with (go_at_call 14; refine (stop_any _ _ _).mono ?_; rintro e w' ⟨rfl, rfl⟩)
  exact ⟨rfl, rfl, rfl⟩
end Go.Proofs.Ytbjfgcabomgdbaa
