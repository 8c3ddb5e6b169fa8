/- How an argument of the type api.Want reads: six numbers, each of its kind. -/
import Derived.Test.YtbcmdhcjcclgnaaProg
import Derived.ChangeArms
import Derived.ChangeShapes
import Derived.WideShapes
import Derived.KernelRfl
import Derived.RowKit
import Derived.Below
namespace Go.Proofs.Ytbcmdhcjcclgnaa.Open
open Go.ChangeShapes Go.WideShapes Go.RowKit

theorem cells22 : Try.prog.cellsOf 22 = 1 := by kernel_rfl
theorem cells3 : Try.prog.cellsOf 3 = 1 := by kernel_rfl
theorem cells23 : Try.prog.cellsOf 23 = 1 := by kernel_rfl
theorem cells25 : Try.prog.cellsOf 25 = 6 := by kernel_rfl

theorem wf_u32 {n : Int} (h : (Lit.int .u32 n).wf = true) : 0 ≤ n ∧ n < 4294967296 := by
  simp [Lit.wf, IntKind.min, IntKind.max, IntKind.bits, IntKind.signed] at h
  omega

theorem open_want {H : Type} {enc : TypeId × Value → H} {w : World} {base : Nat} {spare : Nat → Bool} {held : Bool} {r : Reach} {b0 : Nat} {v : Value} {d : DataW H} {p : List MemPlace}
    (hv : Value.okWide Try.prog w r b0 25 v) (h : DataW.Trod enc Try.prog w base spare held 25 v d p) :
    ∃ a0 a1 a2 a3 a4 a5 : Int, v = .agg #[.int .u64 a0, .int .i64 a1, .int .i64 a2, .int .u32 a3, .int .u32 a4, .int .u32 a5] ∧
      (Lit.int .u64 a0).wf = true ∧ (Lit.int .i64 a1).wf = true ∧ (Lit.int .i64 a2).wf = true ∧ (Lit.int .u32 a3).wf = true ∧ (Lit.int .u32 a4).wf = true ∧ (Lit.int .u32 a5).wf = true := by
  obtain ⟨cs, rfl, hsz⟩ := okWide_struct Try.underlying25 hv
  obtain ⟨l⟩ := cs
  rw [cells25] at hsz
  match l, hsz with
  | [c0, c1, c2, c3, c4, c5], _ =>
    obtain ⟨fuel, hf⟩ := h
    obtain ⟨xs, n, _, _, _, hlen, hg⟩ := DataW.trod_struct Try.underlying25 hf
    match xs, hlen with
    | [y0, y1, y2, y3, y4, y5], _ =>
      obtain ⟨n0, e0, _, w0⟩ := DataW.trod_int Try.underlying22 (x := y0) (by simpa [Value.cells, cells22] using hg 0 _ rfl)
      obtain ⟨n1, e1, _, w1⟩ := DataW.trod_int Try.underlying3 (x := y1) (by simpa [Value.cells, cells3] using hg 1 _ rfl)
      obtain ⟨n2, e2, _, w2⟩ := DataW.trod_int Try.underlying3 (x := y2) (by simpa [Value.cells, cells3] using hg 2 _ rfl)
      obtain ⟨n3, e3, _, w3⟩ := DataW.trod_int Try.underlying23 (x := y3) (by simpa [Value.cells, cells23] using hg 3 _ rfl)
      obtain ⟨n4, e4, _, w4⟩ := DataW.trod_int Try.underlying23 (x := y4) (by simpa [Value.cells, cells23] using hg 4 _ rfl)
      obtain ⟨n5, e5, _, w5⟩ := DataW.trod_int Try.underlying23 (x := y5) (by simpa [Value.cells, cells23] using hg 5 _ rfl)
      simp only [List.cons.injEq, and_true] at e0 e1 e2 e3 e4 e5
      subst e0 e1 e2 e3 e4 e5
      exact ⟨n0, n1, n2, n3, n4, n5, rfl, w0, w1, w2, w3, w4, w5⟩
end Go.Proofs.Ytbcmdhcjcclgnaa.Open
