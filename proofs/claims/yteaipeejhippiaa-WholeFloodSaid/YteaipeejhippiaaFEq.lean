/- '==' of two adverts, field by field. -/
import Derived.Test.YteaipeejhippiaaFMay
import Derived.Laws.StructEq
namespace Go.Proofs.Yteaipeejhippiaa
open Go.RowKit
set_option linter.unusedVariables false

theorem info3s : (Try.prog.info? 3).map (fun i => i.size) = some 1 := by kernel_rfl
theorem info4s : (Try.prog.info? 4).map (fun i => i.size) = some 1 := by kernel_rfl
theorem info32s : (Try.prog.info? 32).map (fun i => i.size) = some 1 := by kernel_rfl
theorem info34s : (Try.prog.info? 34).map (fun i => i.size) = some 5 := by kernel_rfl
theorem info35s : (Try.prog.info? 35).map (fun i => i.size) = some 8 := by kernel_rfl
theorem eq3 (d : Nat) (a b : Int) (w : World) : (Op.equalIn (d + 1) 3 (.int .i64 a) (.int .i64 b)).run Try.prog w = .ok (a == b) w := by
  simp [Op.equalIn, run_underlying Try.underlying3]
theorem eq4 (d : Nat) (a b : Bool) (w : World) : (Op.equalIn (d + 1) 4 (.bool a) (.bool b)).run Try.prog w = .ok (a == b) w := by
  simp [Op.equalIn, run_underlying Try.underlying4]
theorem eq31 (d : Nat) (a b : Int) (w : World) : (Op.equalIn (d + 1) 31 (.int .u64 a) (.int .u64 b)).run Try.prog w = .ok (a == b) w := by
  simp [Op.equalIn, run_underlying Try.underlying31]
theorem eq32 (d : Nat) (a b : Int) (w : World) : (Op.equalIn (d + 1) 32 (.int .u32 a) (.int .u32 b)).run Try.prog w = .ok (a == b) w := by
  simp [Op.equalIn, run_underlying Try.underlying32]
def linkB (x y : Lnk) : Bool := x.src == y.src && (x.dst == y.dst && (x.cap == y.cap && (x.metric == y.metric && x.groups == y.groups)))
set_option maxHeartbeats 4000000 in
theorem eq34 (d : Nat) (x y : Lnk) (w : World) : (Op.equalIn (d + 1 + 1) 34 (.agg #[.int .i64 x.src, .int .i64 x.dst, .int .u64 x.cap, .int .i64 x.metric, .int .u32 x.groups]) (.agg #[.int .i64 y.src, .int .i64 y.dst, .int .u64 y.cap, .int .i64 y.metric, .int .u32 y.groups])).run Try.prog w = .ok (linkB x y) w := by
  obtain ⟨i3, hi, hs⟩ := info_size info3s
  obtain ⟨i31, hi3, hs3⟩ := info_size info31
  obtain ⟨i32, hi4, hs4⟩ := info_size info32s
  have h1 := fun a b w => eq3 d a b w
  have h2 := fun a b w => eq31 d a b w
  have h3 := fun a b w => eq32 d a b w
  rw [Op.equalIn]
  unfold linkB
  by_cases e1 : x.src = y.src
  · by_cases e2 : x.dst = y.dst
    · by_cases e3 : x.cap = y.cap
      · by_cases e4 : x.metric = y.metric
        · by_cases e5 : x.groups = y.groups
          · simp [run_underlying Try.underlying34, sizeOf, typeInfo, hi, hs, hi3, hs3, hi4, hs4, part, isAgg, run_underlying Try.underlying3, run_underlying Try.underlying31, run_underlying Try.underlying32, h1, h2, h3, e1, e2, e3, e4, e5]
          · simp [run_underlying Try.underlying34, sizeOf, typeInfo, hi, hs, hi3, hs3, hi4, hs4, part, isAgg, run_underlying Try.underlying3, run_underlying Try.underlying31, run_underlying Try.underlying32, h1, h2, h3, e1, e2, e3, e4, e5]
        · simp [run_underlying Try.underlying34, sizeOf, typeInfo, hi, hs, hi3, hs3, hi4, hs4, part, isAgg, run_underlying Try.underlying3, run_underlying Try.underlying31, run_underlying Try.underlying32, h1, h2, h3, e1, e2, e3, e4]
      · simp [run_underlying Try.underlying34, sizeOf, typeInfo, hi, hs, hi3, hs3, hi4, hs4, part, isAgg, run_underlying Try.underlying3, run_underlying Try.underlying31, run_underlying Try.underlying32, h1, h2, h3, e1, e2, e3]
    · simp [run_underlying Try.underlying34, sizeOf, typeInfo, hi, hs, hi3, hs3, hi4, hs4, part, isAgg, run_underlying Try.underlying3, run_underlying Try.underlying31, run_underlying Try.underlying32, h1, h2, h3, e1, e2]
  · simp [run_underlying Try.underlying34, sizeOf, typeInfo, hi, hs, hi3, hs3, hi4, hs4, part, isAgg, run_underlying Try.underlying3, run_underlying Try.underlying31, run_underlying Try.underlying32, h1, h2, h3, e1]
def eightB (f g : Nat → Int) : Bool := f 0 == g 0 && (f 1 == g 1 && (f 2 == g 2 && (f 3 == g 3 && (f 4 == g 4 && (f 5 == g 5 && (f 6 == g 6 && (f 7 == g 7)))))))
set_option maxHeartbeats 8000000 in
theorem eq35 (d : Nat) (f g : Nat → Int) (w : World) : (Op.equalIn (d + 1 + 1) 35 (.agg #[.int .u64 (f 0), .int .u64 (f 1), .int .u64 (f 2), .int .u64 (f 3), .int .u64 (f 4), .int .u64 (f 5), .int .u64 (f 6), .int .u64 (f 7)]) (.agg #[.int .u64 (g 0), .int .u64 (g 1), .int .u64 (g 2), .int .u64 (g 3), .int .u64 (g 4), .int .u64 (g 5), .int .u64 (g 6), .int .u64 (g 7)])).run Try.prog w = .ok (eightB f g) w := by
  obtain ⟨i31, hi3, hs3⟩ := info_size info31
  have h2 := fun a b w => eq31 d a b w
  rw [Op.equalIn]
  unfold eightB
  by_cases e0 : f 0 = g 0
  · by_cases e1 : f 1 = g 1
    · by_cases e2 : f 2 = g 2
      · by_cases e3 : f 3 = g 3
        · by_cases e4 : f 4 = g 4
          · by_cases e5 : f 5 = g 5
            · by_cases e6 : f 6 = g 6
              · by_cases e7 : f 7 = g 7
                · simp [run_underlying Try.underlying35, sizeOf, typeInfo, hi3, hs3, List.range', part, isAgg, run_underlying Try.underlying31, h2, e0, e1, e2, e3, e4, e5, e6, e7]
                · simp [run_underlying Try.underlying35, sizeOf, typeInfo, hi3, hs3, List.range', part, isAgg, run_underlying Try.underlying31, h2, e0, e1, e2, e3, e4, e5, e6, e7]
              · simp [run_underlying Try.underlying35, sizeOf, typeInfo, hi3, hs3, List.range', part, isAgg, run_underlying Try.underlying31, h2, e0, e1, e2, e3, e4, e5, e6]
            · simp [run_underlying Try.underlying35, sizeOf, typeInfo, hi3, hs3, List.range', part, isAgg, run_underlying Try.underlying31, h2, e0, e1, e2, e3, e4, e5]
          · simp [run_underlying Try.underlying35, sizeOf, typeInfo, hi3, hs3, List.range', part, isAgg, run_underlying Try.underlying31, h2, e0, e1, e2, e3, e4]
        · simp [run_underlying Try.underlying35, sizeOf, typeInfo, hi3, hs3, List.range', part, isAgg, run_underlying Try.underlying31, h2, e0, e1, e2, e3]
      · simp [run_underlying Try.underlying35, sizeOf, typeInfo, hi3, hs3, List.range', part, isAgg, run_underlying Try.underlying31, h2, e0, e1, e2]
    · simp [run_underlying Try.underlying35, sizeOf, typeInfo, hi3, hs3, List.range', part, isAgg, run_underlying Try.underlying31, h2, e0, e1]
  · simp [run_underlying Try.underlying35, sizeOf, typeInfo, hi3, hs3, List.range', part, isAgg, run_underlying Try.underlying31, h2, e0]
def advB (x y : Adv) : Bool := linkB x.toLnk y.toLnk && (x.seq == y.seq && (x.up == y.up && eightB x.free y.free))
set_option maxHeartbeats 8000000 in
theorem eq37 (d : Nat) (x y : Adv) (w : World) : (Op.equalIn (d + 1 + 1 + 1) 37 (.agg #[.int .i64 x.src, .int .i64 x.dst, .int .u64 x.cap, .int .i64 x.metric, .int .u32 x.groups, .int .i64 x.seq, .bool x.up, .int .u64 (x.free 0), .int .u64 (x.free 1), .int .u64 (x.free 2), .int .u64 (x.free 3), .int .u64 (x.free 4), .int .u64 (x.free 5), .int .u64 (x.free 6), .int .u64 (x.free 7)]) (.agg #[.int .i64 y.src, .int .i64 y.dst, .int .u64 y.cap, .int .i64 y.metric, .int .u32 y.groups, .int .i64 y.seq, .bool y.up, .int .u64 (y.free 0), .int .u64 (y.free 1), .int .u64 (y.free 2), .int .u64 (y.free 3), .int .u64 (y.free 4), .int .u64 (y.free 5), .int .u64 (y.free 6), .int .u64 (y.free 7)])).run Try.prog w = .ok (advB x y) w := by
  obtain ⟨i3, hi, hs⟩ := info_size info3s
  obtain ⟨i4, hi4, hs4⟩ := info_size info4s
  obtain ⟨i34, hi5, hs5⟩ := info_size info34s
  obtain ⟨i35, hi6, hs6⟩ := info_size info35s
  have h1 := fun a b w => eq3 (d + 1) a b w
  have h2 := fun a b w => eq4 (d + 1) a b w
  have h3 := fun w => eq34 d x.toLnk y.toLnk w
  have h4 := fun w => eq35 d x.free y.free w
  rw [Op.equalIn]
  unfold advB
  cases e1 : linkB x.toLnk y.toLnk
  · simp [run_underlying Try.underlying37, sizeOf, typeInfo, hi, hs, hi4, hs4, hi5, hs5, hi6, hs6, part, isAgg, run_underlying Try.underlying3, run_underlying Try.underlying4, run_underlying Try.underlying34, run_underlying Try.underlying35, h1, h2, h3, h4, e1]
  · by_cases e2 : x.seq = y.seq
    · cases e3 : (x.up == y.up)
      · simp [run_underlying Try.underlying37, sizeOf, typeInfo, hi, hs, hi4, hs4, hi5, hs5, hi6, hs6, part, isAgg, run_underlying Try.underlying3, run_underlying Try.underlying4, run_underlying Try.underlying34, run_underlying Try.underlying35, h1, h2, h3, h4, e1, e2, e3]
      · cases e4 : eightB x.free y.free
        · simp [run_underlying Try.underlying37, sizeOf, typeInfo, hi, hs, hi4, hs4, hi5, hs5, hi6, hs6, part, isAgg, run_underlying Try.underlying3, run_underlying Try.underlying4, run_underlying Try.underlying34, run_underlying Try.underlying35, h1, h2, h3, h4, e1, e2, e3, e4]
        · simp [run_underlying Try.underlying37, sizeOf, typeInfo, hi, hs, hi4, hs4, hi5, hs5, hi6, hs6, part, isAgg, run_underlying Try.underlying3, run_underlying Try.underlying4, run_underlying Try.underlying34, run_underlying Try.underlying35, h1, h2, h3, h4, e1, e2, e3, e4]
    · simp [run_underlying Try.underlying37, sizeOf, typeInfo, hi, hs, hi4, hs4, hi5, hs5, hi6, hs6, part, isAgg, run_underlying Try.underlying3, run_underlying Try.underlying4, run_underlying Try.underlying34, run_underlying Try.underlying35, h1, h2, h3, h4, e1, e2]
theorem neq_adv (x y : Adv) (w : World) : (binOp .neq 37 (.agg #[.int .i64 x.src, .int .i64 x.dst, .int .u64 x.cap, .int .i64 x.metric, .int .u32 x.groups, .int .i64 x.seq, .bool x.up, .int .u64 (x.free 0), .int .u64 (x.free 1), .int .u64 (x.free 2), .int .u64 (x.free 3), .int .u64 (x.free 4), .int .u64 (x.free 5), .int .u64 (x.free 6), .int .u64 (x.free 7)]) (.agg #[.int .i64 y.src, .int .i64 y.dst, .int .u64 y.cap, .int .i64 y.metric, .int .u32 y.groups, .int .i64 y.seq, .bool y.up, .int .u64 (y.free 0), .int .u64 (y.free 1), .int .u64 (y.free 2), .int .u64 (y.free 3), .int .u64 (y.free 4), .int .u64 (y.free 5), .int .u64 (y.free 6), .int .u64 (y.free 7)])).run Try.prog w = .ok (.bool (!advB x y)) w := by
  have e := fun w => eq37 9997 x y w
  simp only [Nat.reduceAdd] at e
  simp [binOp, Op.equal, Op.maxDepth, e]
theorem advB_iff {x y : Adv} : advB x y = true ↔ advert x = advert y := by
  unfold advB linkB eightB advert
  simp only [Bool.and_eq_true, beq_iff_eq]
  constructor
  · rintro ⟨⟨a1, a2, a3, a4, a5⟩, a6, a7, b0, b1, b2, b3, b4, b5, b6, b7⟩
    rw [a1, a2, a3, a4, a5, a6, a7, b0, b1, b2, b3, b4, b5, b6, b7]
  · intro h
    have h := congrArg Array.toList h
    simp only [List.cons.injEq, Value.int.injEq, Value.bool.injEq, true_and, and_true] at h
    obtain ⟨a1, a2, a3, a4, a5, a6, a7, b0, b1, b2, b3, b4, b5, b6, b7⟩ := h
    exact ⟨⟨a1, a2, a3, a4, a5⟩, a6, a7, b0, b1, b2, b3, b4, b5, b6, b7⟩
end Go.Proofs.Yteaipeejhippiaa
