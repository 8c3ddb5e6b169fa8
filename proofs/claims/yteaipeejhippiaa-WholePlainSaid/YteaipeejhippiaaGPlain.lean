/- Links, adverts and networks as plain data. -/
import Derived.Test.YteaipeejhippiaaMaps
import Derived.Test.YteaipeejhippiaaRows
namespace Go.Proofs.Yteaipeejhippiaa
open Go.RowKit
set_option linter.unusedVariables false

/-- A link. -/
structure Lnk where
  src : Int
  dst : Int
  cap : Int
  metric : Int
  groups : Int
def link (x : Lnk) : Array Value := #[.int .i64 x.src, .int .i64 x.dst, .int .u64 x.cap, .int .i64 x.metric, .int .u32 x.groups]
/-- What is said of a link. -/
structure Adv extends Lnk where
  seq : Int
  up : Bool
  free : Nat → Int
def advert (x : Adv) : Array Value := #[.int .i64 x.src, .int .i64 x.dst, .int .u64 x.cap, .int .i64 x.metric, .int .u32 x.groups, .int .i64 x.seq, .bool x.up, .int .u64 (x.free 0), .int .u64 (x.free 1), .int .u64 (x.free 2), .int .u64 (x.free 3), .int .u64 (x.free 4), .int .u64 (x.free 5), .int .u64 (x.free 6), .int .u64 (x.free 7)]
/-- May this be a link among n nodes? -/
structure Lnk.May (n : Int) (x : Lnk) : Prop where
  s0 : 0 ≤ x.src
  s1 : x.src < n
  d0 : 0 ≤ x.dst
  d1 : x.dst < n
  ne : x.src ≠ x.dst
  m0 : 1 ≤ x.metric
  m1 : x.metric ≤ 65535
/-- Are these the same two ends? -/
def Lnk.Like (x y : Lnk) : Prop := x.src = y.src ∧ x.dst = y.dst
/-- The first m links may be those of a network of n nodes. -/
structure Net (n : Int) (m : Nat) (x : Nat → Lnk) : Prop where
  n0 : 1 ≤ n
  n1 : n ≤ 16
  m1 : m ≤ 64
  may : ∀ i, i < m → (x i).May n
  apart : ∀ i j, i < j → j < m → ¬ (x i).Like (x j)
open Classical in
/-- What graph.Check tells. -/
noncomputable def chk (n : Int) (m : Nat) (x : Nat → Lnk) : Int := if Net n m x then 0 else if 1 ≤ n ∧ n ≤ 16 ∧ 64 < m then 3 else 2
theorem chk_ok {n : Int} {m : Nat} {x : Nat → Lnk} (h : Net n m x) : chk n m x = 0 := by unfold chk; rw [if_pos h]
theorem chk_two {n : Int} {m : Nat} {x : Nat → Lnk} (h : ¬ Net n m x) (h2 : ¬ (1 ≤ n ∧ n ≤ 16 ∧ 64 < m)) : chk n m x = 2 := by unfold chk; rw [if_neg h, if_neg h2]
theorem chk_three {n : Int} {m : Nat} {x : Nat → Lnk} (h1 : 1 ≤ n) (h2 : n ≤ 16) (h3 : 64 < m) : chk n m x = 3 := by
  unfold chk
  rw [if_neg (fun h => by have := h.m1; omega), if_pos ⟨h1, h2, h3⟩]
theorem chk_ne {n : Int} {m : Nat} {x : Nat → Lnk} (h : ¬ Net n m x) : chk n m x ≠ 0 := by
  unfold chk
  rw [if_neg h]
  split <;> omega
/-- A key of two numbers. -/
def key2 (a b : Int) : Value := .agg #[.int .i64 a, .int .i64 b]
theorem key2_inj {a b c d : Int} : key2 a b = key2 c d ↔ a = c ∧ b = d := by
  unfold key2
  constructor
  · intro h
    injection h with h
    have h := congrArg Array.toList h
    simp at h
    exact h
  · rintro ⟨rfl, rfl⟩
    rfl
def I64 (a : Int) : Prop := -9223372036854775808 ≤ a ∧ a < 9223372036854775808
theorem wf_of {a : Int} (h : I64 a) : (Lit.int .i64 a).wf = true := by
  unfold I64 at h
  simp [Lit.wf, IntKind.min, IntKind.max, IntKind.bits, IntKind.signed]
  omega
theorem laidOutP : laidOutB Try.prog = true := by kernel_rfl
theorem row99 : (99 : TypeId) < Try.prog.types.size := of_decide_eq_true (by kernel_rfl)
theorem row94 : (94 : TypeId) < Try.prog.types.size := of_decide_eq_true (by kernel_rfl)
theorem keyed99 : Maps.Keyed Try.prog 99 := .of_law (deep_law_laid laidOutP (m := 3) (by omega) row99 (by kernel_rfl) (by simp only [Try.underlying99]))
theorem keyed94 : Maps.Keyed Try.prog 94 := .of_law (deep_law_laid laidOutP (m := 3) (by omega) row94 (by kernel_rfl) (by simp only [Try.underlying94]))
theorem kt99 : Try.prog.keyType 99 = true := by kernel_rfl
theorem kt94 : Try.prog.keyType 94 = true := by kernel_rfl
theorem cof99 : Try.prog.cellsOf 99 = 2 := by kernel_rfl
theorem cof94 : Try.prog.cellsOf 94 = 2 := by kernel_rfl
theorem cof3 : Try.prog.cellsOf 3 = 1 := by kernel_rfl
theorem size_types : ∃ k, Try.prog.types.size = k + 1 := ⟨182, by kernel_rfl⟩
theorem lits3 {d : Nat} {a : Int} (h : I64 a) : Program.keyLits Try.prog (d + 1) 3 [.int .i64 a] = some [.int .i64 a] := by
  have h1 := wf_of h
  unfold Program.keyLits
  simp only [Try.underlying3, h1, and_self, if_true]
theorem keyOf99 {a b : Int} (ha : I64 a) (hb : I64 b) : ∃ l, keyOf Try.prog 99 (key2 a b) = some l := by
  obtain ⟨k, hk⟩ := size_types
  unfold keyOf key2
  simp only [Try.underlying99, kt99, Value.formed, cof99, hk, Bool.true_and, List.size_toArray, List.length_cons, List.length_nil, Value.cells]
  rw [if_pos (by decide)]
  have e : Program.keyLits Try.prog (k + 1 + 1) 99 [.int .i64 a, .int .i64 b] = some [.int .i64 a, .int .i64 b] := by
    unfold Program.keyLits
    simp only [Try.underlying99]
    rw [if_pos ⟨by rw [cof99]; rfl, by simp⟩]
    simp [cof3, lits3 ha, lits3 hb]
  rw [e]
  exact ⟨_, rfl⟩
theorem keyOf94 {a b : Int} (ha : I64 a) (hb : I64 b) : ∃ l, keyOf Try.prog 94 (key2 a b) = some l := by
  obtain ⟨k, hk⟩ := size_types
  unfold keyOf key2
  simp only [Try.underlying94, kt94, Value.formed, cof94, hk, Bool.true_and, List.size_toArray, List.length_cons, List.length_nil, Value.cells]
  rw [if_pos (by decide)]
  have e : Program.keyLits Try.prog (k + 1 + 1) 94 [.int .i64 a, .int .i64 b] = some [.int .i64 a, .int .i64 b] := by
    unfold Program.keyLits
    simp only [Try.underlying94]
    rw [if_pos ⟨by rw [cof94]; rfl, by simp⟩]
    simp [cof3, lits3 ha, lits3 hb]
  rw [e]
  exact ⟨_, rfl⟩
end Go.Proofs.Yteaipeejhippiaa
