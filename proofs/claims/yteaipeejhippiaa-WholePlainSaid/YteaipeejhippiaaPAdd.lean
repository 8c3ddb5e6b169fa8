/- ledger.Add of a number and zero. -/
import Derived.Test.YteaipeejhippiaaPKeep
import Derived.WalkKit
import Derived.Below
import Derived.Laws.Externs
import Derived.KernelRfl
namespace Go.Proofs.Yteaipeejhippiaa
open Go.RowKit
set_option linter.unusedVariables false

theorem add64_zero (a : Int) (ha : 0 ≤ a) (h : a < 18446744073709551616) (w : World) :
    (callFunc 64 #[.int .u64 a, .int .u64 0, .int .u64 0]).run Try.prog w = .ok (.value (.tuple #[.int .u64 a, .int .u64 0])) w := by
  rw [run_callFunc_extern Try.func64 (by kernel_rfl) (by kernel_rfl) (by kernel_rfl) (e := add64Entry) (by kernel_rfl), run_add64 a 0 0 ha (by omega) (by omega) (by omega)]
  simp only [Int.add_zero]
  rw [Int.emod_eq_of_lt ha h, Int.ediv_eq_zero_of_lt ha h]
  rfl
theorem Add0_calls (a : Int) (ha : 0 ≤ a) (h : a < 18446744073709551616) (w : World) :
    Calls Try.prog 53 #[.int .u64 a, .int .u64 0] w fun e w' => e = .returned (.tuple #[.int .u64 a, .bool true]) ∧ w = w' := by
  have hr := add64_zero a ha h
  clear h ha
  go_enter Try.func53, Try.ntmps53
  go_wp2
  go_ret2
  exact ⟨rfl, rfl⟩
end Go.Proofs.Yteaipeejhippiaa
