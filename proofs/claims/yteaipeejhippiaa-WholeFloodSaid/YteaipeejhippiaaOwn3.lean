/- append of one row, as a step of a region that is walked in one order. -/
import Derived.Test.YteaipeejhippiaaOwn2
namespace Go.Proofs.Yteaipeejhippiaa
open Go.RowKit
set_option linter.unusedVariables false

/-- append of one row, as a step of a region that is walked in one order. -/
theorem s_app {P : Program} {ops : Array Oper} {Q : Exit → Act → World → Prop} {ks l : List Nat} {i : Nat} {o : Oper} {a : Act} {w : World} (ho : ops[i]? = some o) (hk : ks[i]? = some 2) (hgd : o.guard = none) (s x : Operand) (t : TypeId)
    (hop : o.op = .call { callee := .builtin .append, args := #[s, x], argTypes := #[t, t] })
    (base : Nat) (e : TypeId) (z : Value) (size bytes : Nat) (ht : P.underlying t = some (.slice e)) (hi : Info P e z size bytes) (hzs : z.cells.size = size) (hsz : 0 < size)
    (v : Value) (xs : List (Array Value)) (hs : a.eval s = v) (hown : OutRow w base e size v xs)
    (g c : Nat) (r : Array Value) (hx : a.eval x = .slice (some ⟨g, 0, none⟩) 1 c) (hr : r.size = size) (hcell : ∀ j u, r.toList[j]? = some u → w.cell? ((⟨g, 0, none⟩ : Addr).add j) = some u) (h1 : ∀ u ∈ r.toList, u.oneCell' = true)
    (hn : xs.length ≤ 100000) (hby : bytes ≤ 1000) (hbase : base ≤ w.heap.size)
    (h : ∀ v' w', OutRow w' base e size v' (xs ++ [r]) → w.grownBy w' v.ownBlock → Below base w w' → wpSeq P ops Q ks l (a.put o.dst v') w') : wpSeq P ops Q ks (i :: l) a w := by
  have hw : Region.wanted o (yielded ops a.tmps) = true := by simp [Region.wanted, hgd]
  have h2 := step_add (P := P) (ops := ops) (o := o) (a := a) (w := w) (K := wpSeq P ops Q ks l) (Q := Q) (E := True) hgd s x t hop base e z size bytes ht hi hzs hsz v xs hs hown g c r hx hr hcell h1 hn hby hbase h
  rw [if_pos hw] at h2
  refine s_any ho hk ?_
  unfold wpOp
  simp only [ho]
  rw [if_pos hw]
  exact .inl h2
end Go.Proofs.Yteaipeejhippiaa
