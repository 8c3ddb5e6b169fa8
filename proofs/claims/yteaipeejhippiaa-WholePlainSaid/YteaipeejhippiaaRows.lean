/-
  No cell of these rows narrows 'for every input' (looked for: loops, veiled, ifaces, maps, wideKeys, modest, calm, conditions, laid).
  DERIVED. THE GIVEN ROWS OF THIS SEAT. 2 by the template 'for every input the law returns true; each argument reads behind the call as it read before'; 0 by the template 'total and deterministic' (their statements: YteaipeejhippiaaTotals.lean).
  GIVEN WITH THE SEED: the statements are not yours to turn. If you find one false, say at which input.
  Laid BY PROGRAM, IN A SANDBOX (cutbox-rows.mjs): the forced cells as the released guide's own fill.sh prints them over the translation 770423c6b648827e… (all of the seat's roots in one cut). By AI agents, Wed Nov 11 2026. No macro, syntax, notation, axiom, sorry.
-/
import Derived.Test.YteaipeejhippiaaChecked
import GoSem.Claim
import GoSem.ClaimJoined
import GoSem.ClaimMapViews
import Derived.JoinedTies
import Derived.KernelRfl
namespace Go.Proofs.Yteaipeejhippiaa
/- THE CELL 'sum', in the pinned program and in every row, IS THE sha256 OF THE DUMP (.gsa) THAT YteaipeejhippiaaProg.lean LOADS. Nothing in Lean hashes anything: it is a label: what it is worth is what the hold of that sum in a sandbox is worth. -/
noncomputable def Try.pinned : Pinned := { name := "yteaipeejhippiaa", sum := "770423c6b648827e2e144c591f3110f4c9e92a42d190021c9203ce0c09dec5e0", checked := Try.checked }
namespace Rows
def none {H : Type} : Left H := { results := [], args := [] }

/-- 'viaducttop.WholeFlood': WHATEVER THE INPUT: true; the input reads as it did. -/
def wholeFloodSpec : ChangeSpec := { name := "wholeFlood", fn := fun _ => fun
  | [d1, d2, d3] => { results := [.lit (.bool true)], args := [d1, d2, d3] }
  | _ => none }
def wholeFloodRow : OpenClaim := { program := "yteaipeejhippiaa", sum := "770423c6b648827e2e144c591f3110f4c9e92a42d190021c9203ce0c09dec5e0", func := "viaduct/viaducttop.WholeFlood", spec := "wholeFlood", unfollowed := true, recurses := true, plainKeys := false, apart := false }
def WholeFloodSaid : Prop := wholeFloodRow.holds Try.pinned (OpenSpec.ofChange wholeFloodSpec)

/-- ITS FALSE NEIGHBOUR: 'it returns false'. Refute it at one input. -/
def wholeFloodWrong : ChangeSpec := { name := "wholeFlood", fn := fun _ => fun
  | [d1, d2, d3] => { results := [.lit (.bool false)], args := [d1, d2, d3] }
  | _ => none }
def WholeFloodWrongFalsely : Prop := wholeFloodRow.holds Try.pinned (OpenSpec.ofChange wholeFloodWrong)

/-- 'viaducttop.WholePlain': WHATEVER THE INPUT: true; the input reads as it did. -/
def wholePlainSpec : ChangeSpec := { name := "wholePlain", fn := fun _ => fun
  | [d1, d2, d3] => { results := [.lit (.bool true)], args := [d1, d2, d3] }
  | _ => none }
def wholePlainRow : OpenClaim := { program := "yteaipeejhippiaa", sum := "770423c6b648827e2e144c591f3110f4c9e92a42d190021c9203ce0c09dec5e0", func := "viaduct/viaducttop.WholePlain", spec := "wholePlain", inPlace := ["math/bits.Add64"], unfollowed := true, recurses := true, plainKeys := false, apart := false }
def WholePlainSaid : Prop := wholePlainRow.holds Try.pinned (OpenSpec.ofChange wholePlainSpec)

/-- ITS FALSE NEIGHBOUR: 'it returns false'. Refute it at one input. -/
def wholePlainWrong : ChangeSpec := { name := "wholePlain", fn := fun _ => fun
  | [d1, d2, d3] => { results := [.lit (.bool false)], args := [d1, d2, d3] }
  | _ => none }
def WholePlainWrongFalsely : Prop := wholePlainRow.holds Try.pinned (OpenSpec.ofChange wholePlainWrong)

/- THE SECOND FORM. 'bulk': how many values and letters a reading holds, each counted each time it is reached (what is shared counts as often as it is met; a slice's spare places count too). A statement '..UptoSaid' is the law's where the arguments, and the package variables that the reading takes, are together of bulk at most 1048576: NARROWER than '..Said'. Prove '..Said' where nothing that the law and all that it calls make is longer than what came in: it says more and counts as full. Else prove '..UptoSaid'. A law counts once. -/
mutual
def uptoBulk {H : Type} : DataW H → Nat
  | .lit (.string bytes) => bytes.length + 1
  | .lit _ => 1
  | .nil => 1
  | .ptr d => uptoBulk d + 1
  | .slice elems spare => uptoBulkAll elems + uptoBulkAll spare + 1
  | .agg parts => uptoBulkAll parts + 1
  | .iface _ d => uptoBulk d + 1
  | .map entries => uptoBulkEntries entries + 1
  | .held _ => 1
def uptoBulkAll {H : Type} : List (DataW H) → Nat
  | [] => 0
  | d :: r => uptoBulk d + uptoBulkAll r
def uptoBulkEntries {H : Type} : List (Lit × DataW H) → Nat
  | [] => 0
  | x :: r => uptoBulkEntry x + uptoBulkEntries r
def uptoBulkEntry {H : Type} : Lit × DataW H → Nat
  | (.string bytes, d) => bytes.length + uptoBulk d + 1
  | (_, d) => uptoBulk d + 1
 end
def uptoSmall : (H : Type) → List (DataW H) → Bool := fun _ ds => decide (uptoBulkAll ds ≤ 1048576)
def OpenSpec.upto (s : _root_.Go.ChangeSpec) : _root_.Go.OpenSpec := { _root_.Go.OpenSpec.ofChange s with cond := some uptoSmall }

/-- 'viaducttop.WholeFlood', WHERE WHAT IT READS IS OF BULK AT MOST 1048576: true; the input reads as it did. -/
def wholeFloodUptoRow : OpenClaim := { program := "yteaipeejhippiaa", sum := "770423c6b648827e2e144c591f3110f4c9e92a42d190021c9203ce0c09dec5e0", func := "viaduct/viaducttop.WholeFlood", spec := "wholeFlood", unfollowed := true, recurses := true, plainKeys := false, apart := false, narrowed := true }
def WholeFloodUptoSaid : Prop := wholeFloodUptoRow.holds Try.pinned (OpenSpec.upto wholeFloodSpec)

/-- 'viaducttop.WholePlain', WHERE WHAT IT READS IS OF BULK AT MOST 1048576: true; the input reads as it did. -/
def wholePlainUptoRow : OpenClaim := { program := "yteaipeejhippiaa", sum := "770423c6b648827e2e144c591f3110f4c9e92a42d190021c9203ce0c09dec5e0", func := "viaduct/viaducttop.WholePlain", spec := "wholePlain", inPlace := ["math/bits.Add64"], unfollowed := true, recurses := true, plainKeys := false, apart := false, narrowed := true }
def WholePlainUptoSaid : Prop := wholePlainUptoRow.holds Try.pinned (OpenSpec.upto wholePlainSpec)

end Rows
end Go.Proofs.Yteaipeejhippiaa
