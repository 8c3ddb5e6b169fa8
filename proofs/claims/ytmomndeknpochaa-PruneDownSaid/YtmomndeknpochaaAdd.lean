/- The two Adds answer the sum of two numbers, if it is one of 64 bits. -/
import Derived.Test.YtmomndeknpochaaProg
import Derived.Test.YtmomndeknpochaaPlain
import Derived.Test.YtmomndeknpochaaMem
import Derived.WalkKit
import Derived.Below
import Derived.Laws.Externs
import Derived.KernelRfl
namespace Go.Proofs.Ytmomndeknpochaa
open Go.RowKit Plain

theorem add64_runs (a b : Int) (ha : 0 ≤ a) (hb : 0 ≤ b) (w : World) :
    (callFunc 28 #[.int .u64 a, .int .u64 b, .int .u64 0]).run Try.prog w = .ok (.value (.tuple #[.int .u64 ((a + b) % 18446744073709551616), .int .u64 ((a + b) / 18446744073709551616)])) w := by
  rw [run_callFunc_extern Try.func28 (by kernel_rfl) (by kernel_rfl) (by kernel_rfl) (e := add64Entry) (by kernel_rfl), run_add64 a b 0 ha hb (by omega) (by omega)]
  simp only [Int.add_zero]
  rfl
theorem add64_yes (a b : Int) (ha : 0 ≤ a) (hb : 0 ≤ b) (h : a + b < 18446744073709551616) (w : World) :
    (callFunc 28 #[.int .u64 a, .int .u64 b, .int .u64 0]).run Try.prog w = .ok (.value (.tuple #[.int .u64 (a + b), .int .u64 0])) w := by
  rw [add64_runs a b ha hb, Int.emod_eq_of_lt (by omega) h, Int.ediv_eq_zero_of_lt (by omega) h]
theorem add64_no (a b : Int) (ha : 0 ≤ a) (hb : 0 ≤ b) (ha' : a < 18446744073709551616) (hb' : b < 18446744073709551616) (h : ¬ a + b < 18446744073709551616) (w : World) :
    ∃ s : Int, (callFunc 28 #[.int .u64 a, .int .u64 b, .int .u64 0]).run Try.prog w = .ok (.value (.tuple #[.int .u64 s, .int .u64 1])) w := by
  refine ⟨(a + b) % 18446744073709551616, ?_⟩
  rw [add64_runs a b ha hb, show (a + b) / 18446744073709551616 = 1 from by omega]

theorem Add_calls (a b : Int) (ha : 0 ≤ a) (hb : 0 ≤ b) (ha' : a < 18446744073709551616) (hb' : b < 18446744073709551616) (w : World) :
    Calls Try.prog 19 #[.int .u64 a, .int .u64 b] w fun e w' => e = .returned (.tuple #[.int .u64 (addN a b), .bool (addOk a b)]) ∧ w = w' := by
  by_cases h : a + b < 18446744073709551616
  · have hr := add64_yes a b ha hb h
    rw [addOk_yes h, addN_yes h]
    clear h ha' hb'
    go_enter Try.func19, Try.ntmps19
    go_wp2
    go_ret2
    exact ⟨rfl, rfl⟩
  · rw [addOk_no h, addN_no h]
    obtain ⟨s, hr⟩ := add64_no a b ha hb ha' hb' h w
    clear h ha' hb'
    go_enter Try.func19, Try.ntmps19
    go_wp2
    go_ret2
    exact ⟨rfl, rfl⟩

theorem RAdd_calls (a b : Int) (ha : 0 ≤ a) (hb : 0 ≤ b) (ha' : a < 18446744073709551616) (hb' : b < 18446744073709551616) (w : World) :
    Calls Try.prog 24 #[.int .u64 a, .int .u64 b] w fun e w' => e = .returned (.tuple #[.int .u64 (addN a b), .bool (addOk a b)]) ∧ w = w' := by
  by_cases h : a + b < 18446744073709551616
  · rw [addOk_yes h, addN_yes h]
    go_enter Try.func24, Try.ntmps24
    go_wp2
    go_ret2
    exact ⟨rfl, rfl⟩
  · rw [addOk_no h, addN_no h]
    go_enter Try.func24, Try.ntmps24
    go_wp2
    go_ret2
    exact ⟨rfl, rfl⟩
end Go.Proofs.Ytmomndeknpochaa
