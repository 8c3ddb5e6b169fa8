/- '==' of two items. -/
import Derived.Test.YtclcmkpggigdgaaQSmall
import Derived.Laws.StructEq
namespace Go.Proofs.Ytclcmkpggigdgaa
open Go.RowKit

theorem info3 : (Try.prog.info? 3).map (fun i => i.size) = some 1 := by kernel_rfl
theorem eq3 (d : Nat) (a b : Int) (w : World) : (Op.equalIn (d + 1) 3 (.int .i64 a) (.int .i64 b)).run Try.prog w = .ok (a == b) w := by
  simp [Op.equalIn, run_underlying Try.underlying3]
theorem info_size {t : TypeId} {n : Nat} (h : (Try.prog.info? t).map (fun i => i.size) = some n) : ∃ i, Try.prog.info? t = some i ∧ i.size = n := by
  cases hh : Try.prog.info? t with
  | none => rw [hh] at h; cases h
  | some i => rw [hh] at h; exact ⟨i, rfl, by simpa using h⟩
theorem eqN_Item (d : Nat) (a b : Item) (w : World) : (Op.equalIn (d + 1 + 1) 25 (.agg #[.int .i64 a.cost, .int .i64 a.hops, .int .i64 a.node]) (.agg #[.int .i64 b.cost, .int .i64 b.hops, .int .i64 b.node])).run Try.prog w = .ok (decide (a = b)) w := by
  obtain ⟨i3, hi, hs⟩ := info_size info3
  have h1 : ∀ a b : Int, ∀ w, (Op.equalIn (d + 1) 3 (.int .i64 a) (.int .i64 b)).run Try.prog w = .ok (a == b) w := fun a b w => eq3 d a b w
  obtain ⟨a1, a2, a3⟩ := a
  obtain ⟨b1, b2, b3⟩ := b
  rw [Op.equalIn]
  by_cases e1 : a1 = b1
  · by_cases e2 : a2 = b2
    · by_cases e3 : a3 = b3
      · simp [run_underlying Try.underlying25, sizeOf, typeInfo, hi, hs, part, isAgg, run_underlying Try.underlying3, h1, e1, e2, e3]
      · simp [run_underlying Try.underlying25, sizeOf, typeInfo, hi, hs, part, isAgg, run_underlying Try.underlying3, h1, e1, e2, e3]
    · simp [run_underlying Try.underlying25, sizeOf, typeInfo, hi, hs, part, isAgg, run_underlying Try.underlying3, h1, e1, e2]
  · simp [run_underlying Try.underlying25, sizeOf, typeInfo, hi, hs, part, isAgg, run_underlying Try.underlying3, h1, e1]
theorem neq_Item (a b : Item) (w : World) : (binOp .neq 25 (.agg #[.int .i64 a.cost, .int .i64 a.hops, .int .i64 a.node]) (.agg #[.int .i64 b.cost, .int .i64 b.hops, .int .i64 b.node])).run Try.prog w = .ok (.bool (!decide (a = b))) w := by
  have e := fun w => eqN_Item 9998 a b w
  simp only [Nat.reduceAdd] at e
  simp [binOp, Op.equal, Op.maxDepth, e]
theorem eqN_RItem (d : Nat) (a b : Item) (w : World) : (Op.equalIn (d + 1 + 1) 23 (.agg #[.int .i64 a.cost, .int .i64 a.hops, .int .i64 a.node]) (.agg #[.int .i64 b.cost, .int .i64 b.hops, .int .i64 b.node])).run Try.prog w = .ok (decide (a = b)) w := by
  obtain ⟨i3, hi, hs⟩ := info_size info3
  have h1 : ∀ a b : Int, ∀ w, (Op.equalIn (d + 1) 3 (.int .i64 a) (.int .i64 b)).run Try.prog w = .ok (a == b) w := fun a b w => eq3 d a b w
  obtain ⟨a1, a2, a3⟩ := a
  obtain ⟨b1, b2, b3⟩ := b
  rw [Op.equalIn]
  by_cases e1 : a1 = b1
  · by_cases e2 : a2 = b2
    · by_cases e3 : a3 = b3
      · simp [run_underlying Try.underlying23, sizeOf, typeInfo, hi, hs, part, isAgg, run_underlying Try.underlying3, h1, e1, e2, e3]
      · simp [run_underlying Try.underlying23, sizeOf, typeInfo, hi, hs, part, isAgg, run_underlying Try.underlying3, h1, e1, e2, e3]
    · simp [run_underlying Try.underlying23, sizeOf, typeInfo, hi, hs, part, isAgg, run_underlying Try.underlying3, h1, e1, e2]
  · simp [run_underlying Try.underlying23, sizeOf, typeInfo, hi, hs, part, isAgg, run_underlying Try.underlying3, h1, e1]
theorem neq_RItem (a b : Item) (w : World) : (binOp .neq 23 (.agg #[.int .i64 a.cost, .int .i64 a.hops, .int .i64 a.node]) (.agg #[.int .i64 b.cost, .int .i64 b.hops, .int .i64 b.node])).run Try.prog w = .ok (.bool (!decide (a = b))) w := by
  have e := fun w => eqN_RItem 9998 a b w
  simp only [Nat.reduceAdd] at e
  simp [binOp, Op.equal, Op.maxDepth, e]
end Go.Proofs.Ytclcmkpggigdgaa
