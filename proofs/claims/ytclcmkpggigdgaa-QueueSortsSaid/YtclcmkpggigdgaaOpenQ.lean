/- How an item, a slice of items, and a slice of acts read as arguments. -/
import Derived.Test.YtclcmkpggigdgaaQSmall
import Derived.ChangeArms
import Derived.ChangeShapes
import Derived.WideShapes
import Derived.OpenShut
import Derived.RowKit
import Derived.Deep.Slices
namespace Go.Proofs.Ytclcmkpggigdgaa
open Go.ChangeShapes Go.WideShapes Go.RowKit Go.Deep

theorem wf_i64 {n : Int} (h : (Lit.int .i64 n).wf = true) : -9223372036854775808 ≤ n ∧ n < 9223372036854775808 := by
  simp [Lit.wf, IntKind.min, IntKind.max, IntKind.bits, IntKind.signed] at h
  omega
theorem cells23 : Try.prog.cellsOf 23 = 3 := by kernel_rfl
theorem cells3 : Try.prog.cellsOf 3 = 1 := by kernel_rfl
theorem cells4 : Try.prog.cellsOf 4 = 1 := by kernel_rfl
theorem cells34 : Try.prog.cellsOf 34 = 4 := by kernel_rfl
theorem lt_of_cell {w : World} {a : Addr} {v : Value} (h : w.cell? a = some v) : a.block < w.heap.size := by
  rcases Nat.lt_or_ge a.block w.heap.size with hl | hl
  · exact hl
  · unfold World.cell? at h
    rw [Array.getElem?_eq_none hl] at h
    cases h
theorem add_block (a : Addr) (n : Nat) : (a.add n).block = a.block := by unfold Addr.add; split <;> rfl
/-- The slice reads as the rows of k cells f i, i below n, in memory that lies below w's end. -/
def Strip (w : World) (A : Option Addr) (n k : Nat) (f : Nat → Array Value) : Prop :=
  0 < n → ∃ ad, A = some ad ∧ ad.block < w.heap.size ∧ ∀ i, i < n → ∀ j, j < k → w.cell? ((ad.add (i * k)).add j) = (f i)[j]?
theorem Strip.below {w w' : World} {A : Option Addr} {n k : Nat} {f : Nat → Array Value} (h : Strip w A n k f) (hb : Below w.heap.size w w') : Strip w' A n k f := fun h0 => by
  obtain ⟨ad, e, hl, hc⟩ := h h0
  exact ⟨ad, e, Nat.lt_of_lt_of_le hl hb.size, fun i hi j hj => (hb.cell (by rw [add_block, add_block]; exact hl)).trans (hc i hi j hj)⟩

section
variable {H : Type} {enc : TypeId × Value → H} {w : World} {base : Nat} {spare : Nat → Bool} {held : Bool}
theorem item_cells {n : Nat} {cs : List Value} {x : DataW H × List MemPlace} (hl : cs.length = 3) (h : DataW.trod enc Try.prog w base spare held n 23 cs = some x) :
    ∃ a : Item, cs = (itemRow a).toList := by
  match cs, hl with
  | [c0, c1, c2], _ =>
    obtain ⟨xs, n', _, _, _, hlen, hg⟩ := DataW.trod_struct Try.underlying23 h
    match xs, hlen with
    | [y0, y1, y2], _ =>
      obtain ⟨n0, e0, _, _⟩ := DataW.trod_int Try.underlying3 (x := y0) (by simpa [Value.cells, cells3] using hg 0 _ rfl)
      obtain ⟨n1, e1, _, _⟩ := DataW.trod_int Try.underlying3 (x := y1) (by simpa [Value.cells, cells3] using hg 1 _ rfl)
      obtain ⟨n2, e2, _, _⟩ := DataW.trod_int Try.underlying3 (x := y2) (by simpa [Value.cells, cells3] using hg 2 _ rfl)
      simp only [List.cons.injEq, and_true] at e0 e1 e2
      subst e0 e1 e2
      exact ⟨⟨n0, n1, n2⟩, rfl⟩
theorem open_item {r : Reach} {b0 : Nat} {v : Value} {d : DataW H} {p : List MemPlace}
    (hv : Value.okWide Try.prog w r b0 23 v) (hd : DataW.Trod enc Try.prog w base spare held 23 v d p) : ∃ a : Item, v = .agg #[.int .i64 a.cost, .int .i64 a.hops, .int .i64 a.node] := by
  obtain ⟨cs, rfl, hsz⟩ := okWide_struct Try.underlying23 hv
  obtain ⟨l⟩ := cs
  rw [cells23] at hsz
  obtain ⟨fuel, hf⟩ := hd
  obtain ⟨a, ha⟩ := item_cells (by simpa [Value.cells] using hsz) hf
  refine ⟨a, ?_⟩
  have hl : l = (itemRow a).toList := by simpa [Value.cells] using ha
  subst hl
  rfl
theorem open_items {r : Reach} {b0 : Nat} {v : Value} {d : DataW H} {p : List MemPlace}
    (hv : Value.okWide Try.prog w r b0 32 v) (hd : DataW.Trod enc Try.prog w base spare held 32 v d p) :
    ∃ (A : Option Addr) (len cap : Nat) (x : Nat → Item), v = .slice A len cap ∧ Strip w A len 3 (fun i => itemRow (x i)) ∧ len ≤ maxLen := by
  obtain ⟨A, len, cap, rfl⟩ := okWide_slice Try.underlying32 hv
  obtain ⟨fuel, hf⟩ := hd
  rcases open_slice Try.underlying32 hf with ⟨hcs, _⟩ | ⟨a, l, c, m, n, D, Pl, hcs, _, hl, hm, hmm, _, hi⟩
  · simp [Value.cells] at hcs
    obtain ⟨rfl, rfl, rfl⟩ := hcs
    exact ⟨none, 0, 0, fun _ => ⟨0, 0, 0⟩, rfl, fun h => absurd h (by omega), by unfold maxLen; omega⟩
  · simp [Value.cells] at hcs
    obtain ⟨rfl, rfl, rfl⟩ := hcs
    rw [cells23] at hi
    have hlm : len ≤ m := by rw [hmm]; split <;> omega
    have key : ∀ i, ∃ x : Item, i < len → ∀ j, j < 3 → w.cell? ((a.add (i * 3)).add j) = (itemRow x)[j]? := by
      intro i
      by_cases hlt : i < len
      · obtain ⟨cs', hc, ht⟩ := hi i (by omega)
        obtain ⟨_, hcl, hat⟩ := World.cells?_some hc
        obtain ⟨x, rfl⟩ := item_cells hcl ht
        exact ⟨x, fun _ j hj => (hat j hj).trans (by simp)⟩
      · exact ⟨⟨0, 0, 0⟩, fun h => absurd h hlt⟩
    obtain ⟨f, hf'⟩ := Classical.axiomOfChoice key
    refine ⟨some a, len, cap, f, rfl, fun h0 => ⟨a, rfl, ?_, fun i hi => hf' i hi⟩, by omega⟩
    have := lt_of_cell (hf' 0 h0 0 (by omega))
    rwa [add_block, add_block] at this
def actRow (t : Bool) (x : Item) : Array Value := #[.bool t, .int .i64 x.cost, .int .i64 x.hops, .int .i64 x.node]
theorem open_acts {r : Reach} {b0 : Nat} {v : Value} {d : DataW H} {p : List MemPlace}
    (hv : Value.okWide Try.prog w r b0 29 v) (hd : DataW.Trod enc Try.prog w base spare held 29 v d p) :
    ∃ (A : Option Addr) (len cap : Nat) (t : Nat → Bool) (x : Nat → Item), v = .slice A len cap ∧ Strip w A len 4 (fun i => actRow (t i) (x i)) ∧ len ≤ maxLen := by
  obtain ⟨A, len, cap, rfl⟩ := okWide_slice Try.underlying29 hv
  obtain ⟨fuel, hf⟩ := hd
  rcases open_slice Try.underlying29 hf with ⟨hcs, _⟩ | ⟨a, l, c, m, n, D, Pl, hcs, _, hl, hm, hmm, _, hi⟩
  · simp [Value.cells] at hcs
    obtain ⟨rfl, rfl, rfl⟩ := hcs
    exact ⟨none, 0, 0, fun _ => false, fun _ => ⟨0, 0, 0⟩, rfl, fun h => absurd h (by omega), by unfold maxLen; omega⟩
  · simp [Value.cells] at hcs
    obtain ⟨rfl, rfl, rfl⟩ := hcs
    rw [cells34] at hi
    have hlm : len ≤ m := by rw [hmm]; split <;> omega
    have key : ∀ i, ∃ x : Bool × Item, i < len → ∀ j, j < 4 → w.cell? ((a.add (i * 4)).add j) = (actRow x.1 x.2)[j]? := by
      intro i
      by_cases hlt : i < len
      · obtain ⟨cs', hc, ht⟩ := hi i (by omega)
        obtain ⟨_, hcl, hat⟩ := World.cells?_some hc
        match cs', hcl with
        | [c0, c1, c2, c3], _ =>
          obtain ⟨xs, n', _, _, _, hlen, hg⟩ := DataW.trod_struct Try.underlying34 ht
          match xs, hlen with
          | [y0, y1], _ =>
            obtain ⟨n0, e0, _⟩ := DataW.trod_bool Try.underlying4 (x := y0) (by simpa [Value.cells, cells4] using hg 0 _ rfl)
            obtain ⟨x, e1⟩ := item_cells (cs := [c1, c2, c3]) rfl (by simpa [Value.cells, cells23] using hg 1 _ rfl)
            simp only [List.cons.injEq, and_true] at e0
            subst e0
            simp only [itemRow, List.cons.injEq, and_true] at e1
            obtain ⟨rfl, rfl, rfl⟩ := e1
            exact ⟨(n0, x), fun _ j hj => (hat j hj).trans (by simp [actRow])⟩
      · exact ⟨(false, ⟨0, 0, 0⟩), fun h => absurd h hlt⟩
    obtain ⟨f, hf'⟩ := Classical.axiomOfChoice key
    refine ⟨some a, len, cap, fun i => (f i).1, fun i => (f i).2, rfl, fun h0 => ⟨a, rfl, ?_, fun i hi => hf' i hi⟩, by omega⟩
    have := lt_of_cell (hf' 0 h0 0 (by omega))
    rwa [add_block, add_block] at this
end
end Go.Proofs.Ytclcmkpggigdgaa
