/- '==' of two equal arrays of eight numbers, and of two equal ledgers: true. -/
import Derived.Test.YtbbhbfeafdibmaaProg
import Derived.Laws.StructEq
import Derived.WalkKit
import Derived.KernelRfl
namespace Go.Proofs.Ytbbhbfeafdibmaa
open Go.RowKit

theorem info22 : (Try.prog.info? 22).map (fun i => i.size) = some 1 := by kernel_rfl
theorem eq22 (d : Nat) (a : Int) (w : World) : (Op.equalIn (d + 1) 22 (.int .u64 a) (.int .u64 a)).run Try.prog w = .ok true w := by
  simp [Op.equalIn, run_underlying Try.underlying22]
theorem eq23 (d : Nat) (h : Nat → Int) (w : World) : (Op.equalIn (d + 1 + 1) 23 (.agg #[.int .u64 (h 0), .int .u64 (h 1), .int .u64 (h 2), .int .u64 (h 3), .int .u64 (h 4), .int .u64 (h 5), .int .u64 (h 6), .int .u64 (h 7)]) (.agg #[.int .u64 (h 0), .int .u64 (h 1), .int .u64 (h 2), .int .u64 (h 3), .int .u64 (h 4), .int .u64 (h 5), .int .u64 (h 6), .int .u64 (h 7)])).run Try.prog w = .ok true w := by
  obtain ⟨i22, hi, hs⟩ : ∃ i, Try.prog.info? 22 = some i ∧ i.size = 1 := by
    have := info22
    cases hh : Try.prog.info? 22 with
    | none => rw [hh] at this; cases this
    | some i => rw [hh] at this; exact ⟨i, rfl, by simpa using this⟩
  have e : ∀ a : Int, ∀ w, (Op.equalIn (d + 1) 22 (.int .u64 a) (.int .u64 a)).run Try.prog w = .ok true w := fun a w => eq22 d a w
  rw [Op.equalIn]
  simp [run_underlying Try.underlying23, sizeOf, typeInfo, hi, hs, List.range', part, isAgg, run_underlying Try.underlying22, e]
theorem info23 : (Try.prog.info? 23).map (fun i => i.size) = some 8 := by kernel_rfl
theorem eqLed (t : TypeId) (ht : t = 25 ∨ t = 30) (d : Nat) (c : Int) (h : Nat → Int) (w : World) : (Op.equalIn (d + 1 + 1 + 1) t (.agg #[.int .u64 c, .int .u64 (h 0), .int .u64 (h 1), .int .u64 (h 2), .int .u64 (h 3), .int .u64 (h 4), .int .u64 (h 5), .int .u64 (h 6), .int .u64 (h 7)]) (.agg #[.int .u64 c, .int .u64 (h 0), .int .u64 (h 1), .int .u64 (h 2), .int .u64 (h 3), .int .u64 (h 4), .int .u64 (h 5), .int .u64 (h 6), .int .u64 (h 7)])).run Try.prog w = .ok true w := by
  obtain ⟨i23, hi, hs⟩ : ∃ i, Try.prog.info? 23 = some i ∧ i.size = 8 := by
    have := info23
    cases hh : Try.prog.info? 23 with
    | none => rw [hh] at this; cases this
    | some i => rw [hh] at this; exact ⟨i, rfl, by simpa using this⟩
  have e := fun w => eq22 (d + 1) c w
  have e' := fun w => eq23 d h w
  rw [Op.equalIn]
  rcases ht with rfl | rfl
  · simp [run_underlying Try.underlying25, sizeOf, typeInfo, hi, hs, part, isAgg, run_underlying Try.underlying22, run_underlying Try.underlying23, e, e']
  · simp [run_underlying Try.underlying30, sizeOf, typeInfo, hi, hs, part, isAgg, run_underlying Try.underlying22, run_underlying Try.underlying23, e, e']
theorem eql_arr (h : Nat → Int) (w : World) : (binOp .eql 23 (.agg #[.int .u64 (h 0), .int .u64 (h 1), .int .u64 (h 2), .int .u64 (h 3), .int .u64 (h 4), .int .u64 (h 5), .int .u64 (h 6), .int .u64 (h 7)]) (.agg #[.int .u64 (h 0), .int .u64 (h 1), .int .u64 (h 2), .int .u64 (h 3), .int .u64 (h 4), .int .u64 (h 5), .int .u64 (h 6), .int .u64 (h 7)])).run Try.prog w = .ok (.bool true) w := by
  have e := fun w => eq23 9998 h w
  simp only [Nat.reduceAdd] at e
  simp [binOp, Op.equal, Op.maxDepth, e]
theorem eql_led (t : TypeId) (ht : t = 25 ∨ t = 30) (c : Int) (h : Nat → Int) (w : World) : (binOp .eql t (.agg #[.int .u64 c, .int .u64 (h 0), .int .u64 (h 1), .int .u64 (h 2), .int .u64 (h 3), .int .u64 (h 4), .int .u64 (h 5), .int .u64 (h 6), .int .u64 (h 7)]) (.agg #[.int .u64 c, .int .u64 (h 0), .int .u64 (h 1), .int .u64 (h 2), .int .u64 (h 3), .int .u64 (h 4), .int .u64 (h 5), .int .u64 (h 6), .int .u64 (h 7)])).run Try.prog w = .ok (.bool true) w := by
  have e := fun w => eqLed t ht 9997 c h w
  simp only [Nat.reduceAdd] at e
  simp [binOp, Op.equal, Op.maxDepth, e]
end Go.Proofs.Ytbbhbfeafdibmaa
