/- How a number of one byte reads as an argument. -/
import Derived.Test.YtokkdjgejeigiaaRows
import Derived.ChangeShapes
import Derived.WideShapes
import Derived.ChangeMaps5
namespace Go.Proofs.Ytokkdjgejeigiaa
theorem wf_u8 {n : Int} (h : (Lit.int .u8 n).wf = true) : 0 ≤ n ∧ n < 256 := by
  simp [Lit.wf, IntKind.min, IntKind.max, IntKind.bits, IntKind.signed] at h
  omega
end Go.Proofs.Ytokkdjgejeigiaa
