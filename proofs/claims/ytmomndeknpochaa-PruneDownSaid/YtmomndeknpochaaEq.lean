/- '==' of two pairs, and of two links. -/
import Derived.Test.YtmomndeknpochaaProg
import Derived.Laws.StructEq
import Derived.WalkKit
import Derived.KernelRfl
import Derived.Test.YtmomndeknpochaaRight
namespace Go.Proofs.Ytmomndeknpochaa
open Go.RowKit

theorem info3 : (Try.prog.info? 3).map (fun i => i.size) = some 1 := by kernel_rfl
theorem eq3 (d : Nat) (a b : Int) (w : World) : (Op.equalIn (d + 1) 3 (.int .i64 a) (.int .i64 b)).run Try.prog w = .ok (a == b) w := by
  simp [Op.equalIn, run_underlying Try.underlying3]
theorem eq53 (d : Nat) (a b c e : Int) (w : World) : (Op.equalIn (d + 1 + 1) 53 (.agg #[.int .i64 a, .int .i64 b]) (.agg #[.int .i64 c, .int .i64 e])).run Try.prog w = .ok (a == c && b == e) w := by
  obtain ⟨i3, hi, hs⟩ : ∃ i, Try.prog.info? 3 = some i ∧ i.size = 1 := by
    have := info3
    cases hh : Try.prog.info? 3 with
    | none => rw [hh] at this; cases this
    | some i => rw [hh] at this; exact ⟨i, rfl, by simpa using this⟩
  have h1 : ∀ a b : Int, ∀ w, (Op.equalIn (d + 1) 3 (.int .i64 a) (.int .i64 b)).run Try.prog w = .ok (a == b) w := fun a b w => eq3 d a b w
  rw [Op.equalIn]
  by_cases e1 : a = c <;> by_cases e2 : b = e
  all_goals simp [run_underlying Try.underlying53, sizeOf, typeInfo, hi, hs, List.range', part, isAgg, run_underlying Try.underlying3, h1, e1, e2]
theorem eql_pair (a b c d : Int) (w : World) : (binOp .eql 53 (.agg #[.int .i64 a, .int .i64 b]) (.agg #[.int .i64 c, .int .i64 d])).run Try.prog w = .ok (.bool (a == c && b == d)) w := by
  have e := fun w => eq53 9998 a b c d w
  simp only [Nat.reduceAdd] at e
  simp [binOp, Op.equal, Op.maxDepth, e]

/-- What is known of a link. -/
structure Adv where
  src : Int
  dst : Int
  cap : Int
  metric : Int
  groups : Int
  seq : Int
  up : Bool
  free : Nat → Int
/-- The same link? -/
def linkB (x y : Adv) : Bool := x.src == y.src && (x.dst == y.dst && (x.cap == y.cap && (x.metric == y.metric && x.groups == y.groups)))
theorem eq23 (d : Nat) (a b : Int) (w : World) : (Op.equalIn (d + 1) 23 (.int .u64 a) (.int .u64 b)).run Try.prog w = .ok (a == b) w := by
  simp [Op.equalIn, run_underlying Try.underlying23]
theorem eq24 (d : Nat) (a b : Int) (w : World) : (Op.equalIn (d + 1) 24 (.int .u32 a) (.int .u32 b)).run Try.prog w = .ok (a == b) w := by
  simp [Op.equalIn, run_underlying Try.underlying24]
theorem info23 : (Try.prog.info? 23).map (fun i => i.size) = some 1 := by kernel_rfl
theorem info24 : (Try.prog.info? 24).map (fun i => i.size) = some 1 := by kernel_rfl
theorem info_size {t : TypeId} {n : Nat} (h : (Try.prog.info? t).map (fun i => i.size) = some n) : ∃ i, Try.prog.info? t = some i ∧ i.size = n := by
  cases hh : Try.prog.info? t with
  | none => rw [hh] at h; cases h
  | some i => rw [hh] at h; exact ⟨i, rfl, by simpa using h⟩
set_option maxHeartbeats 2000000 in
theorem eq35 (d : Nat) (x y : Adv) (w : World) : (Op.equalIn (d + 1 + 1) 35 (.agg #[.int .i64 x.src, .int .i64 x.dst, .int .u64 x.cap, .int .i64 x.metric, .int .u32 x.groups]) (.agg #[.int .i64 y.src, .int .i64 y.dst, .int .u64 y.cap, .int .i64 y.metric, .int .u32 y.groups])).run Try.prog w = .ok (linkB x y) w := by
  obtain ⟨i3, hi, hs⟩ := info_size info3
  obtain ⟨i23, hi3, hs3⟩ := info_size info23
  obtain ⟨i24, hi4, hs4⟩ := info_size info24
  have h1 : ∀ a b : Int, ∀ w, (Op.equalIn (d + 1) 3 (.int .i64 a) (.int .i64 b)).run Try.prog w = .ok (a == b) w := fun a b w => eq3 d a b w
  have h2 : ∀ a b : Int, ∀ w, (Op.equalIn (d + 1) 23 (.int .u64 a) (.int .u64 b)).run Try.prog w = .ok (a == b) w := fun a b w => eq23 d a b w
  have h3 : ∀ a b : Int, ∀ w, (Op.equalIn (d + 1) 24 (.int .u32 a) (.int .u32 b)).run Try.prog w = .ok (a == b) w := fun a b w => eq24 d a b w
  rw [Op.equalIn]
  unfold linkB
  by_cases e1 : x.src = y.src
  · by_cases e2 : x.dst = y.dst
    · by_cases e3 : x.cap = y.cap
      · by_cases e4 : x.metric = y.metric
        · by_cases e5 : x.groups = y.groups
          · simp [run_underlying Try.underlying35, sizeOf, typeInfo, hi, hs, hi3, hs3, hi4, hs4, part, isAgg, run_underlying Try.underlying3, run_underlying Try.underlying23, run_underlying Try.underlying24, h1, h2, h3, e1, e2, e3, e4, e5]
          · simp [run_underlying Try.underlying35, sizeOf, typeInfo, hi, hs, hi3, hs3, hi4, hs4, part, isAgg, run_underlying Try.underlying3, run_underlying Try.underlying23, run_underlying Try.underlying24, h1, h2, h3, e1, e2, e3, e4, e5]
        · simp [run_underlying Try.underlying35, sizeOf, typeInfo, hi, hs, hi3, hs3, hi4, hs4, part, isAgg, run_underlying Try.underlying3, run_underlying Try.underlying23, run_underlying Try.underlying24, h1, h2, h3, e1, e2, e3, e4]
      · simp [run_underlying Try.underlying35, sizeOf, typeInfo, hi, hs, hi3, hs3, hi4, hs4, part, isAgg, run_underlying Try.underlying3, run_underlying Try.underlying23, run_underlying Try.underlying24, h1, h2, h3, e1, e2, e3]
    · simp [run_underlying Try.underlying35, sizeOf, typeInfo, hi, hs, hi3, hs3, hi4, hs4, part, isAgg, run_underlying Try.underlying3, run_underlying Try.underlying23, run_underlying Try.underlying24, h1, h2, h3, e1, e2]
  · simp [run_underlying Try.underlying35, sizeOf, typeInfo, hi, hs, hi3, hs3, hi4, hs4, part, isAgg, run_underlying Try.underlying3, run_underlying Try.underlying23, run_underlying Try.underlying24, h1, h2, h3, e1]
theorem eql_link (x y : Adv) (w : World) : (binOp .eql 35 (.agg #[.int .i64 x.src, .int .i64 x.dst, .int .u64 x.cap, .int .i64 x.metric, .int .u32 x.groups]) (.agg #[.int .i64 y.src, .int .i64 y.dst, .int .u64 y.cap, .int .i64 y.metric, .int .u32 y.groups])).run Try.prog w = .ok (.bool (linkB x y)) w := by
  have e := fun w => eq35 9998 x y w
  simp only [Nat.reduceAdd] at e
  simp [binOp, Op.equal, Op.maxDepth, e]
theorem neq_link (x y : Adv) (w : World) : (binOp .neq 35 (.agg #[.int .i64 x.src, .int .i64 x.dst, .int .u64 x.cap, .int .i64 x.metric, .int .u32 x.groups]) (.agg #[.int .i64 y.src, .int .i64 y.dst, .int .u64 y.cap, .int .i64 y.metric, .int .u32 y.groups])).run Try.prog w = .ok (.bool (!linkB x y)) w := by
  have e := fun w => eq35 9998 x y w
  simp only [Nat.reduceAdd] at e
  simp [binOp, Op.equal, Op.maxDepth, e]
end Go.Proofs.Ytmomndeknpochaa
