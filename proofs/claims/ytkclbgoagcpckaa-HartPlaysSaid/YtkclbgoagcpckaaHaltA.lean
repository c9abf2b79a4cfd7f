import Derived.Test.YtkclbgoagcpckaaChecked
import Derived.Test.YtkclbgoagcpckaaLib
namespace Go.Proofs.Ytkclbgoagcpckaa
open Go.RowKit

theorem stop_any (why at_ : Int) (w : World) :
    Calls Try.prog 39 #[.int .i64 why, .int .i64 at_] w fun e w' => e = .panicked [{ v := .iface 40 (.agg #[.int .i64 why, .int .i64 at_]), recovered := false }] ∧ w' = w := by
  go_enter Try.func39, Try.ntmps39
  go_wp2
  exact ⟨rfl, rfl, rfl⟩

theorem must_true (why at_ : Int) (w : World) :
    Calls Try.prog 37 #[.bool true, .int .i64 why, .int .i64 at_] w fun e w' => e = .returned (.tuple #[]) ∧ w' = w := by
  go_enter Try.func37, Try.ntmps37
  go_wp2
  go_end0
  exact ⟨rfl, rfl⟩

theorem must_false (why at_ : Int) (w : World) :
    Calls Try.prog 37 #[.bool false, .int .i64 why, .int .i64 at_] w fun e w' => e = .panicked [{ v := .iface 40 (.agg #[.int .i64 why, .int .i64 at_]), recovered := false }] ∧ w' = w := by
  go_enter Try.func37, Try.ntmps37
  go_wp2_with (go_at_call 39; refine (stop_any _ _ _).mono ?_; rintro e w' ⟨rfl, rfl⟩)
  exact ⟨rfl, rfl, rfl⟩
end Go.Proofs.Ytkclbgoagcpckaa
