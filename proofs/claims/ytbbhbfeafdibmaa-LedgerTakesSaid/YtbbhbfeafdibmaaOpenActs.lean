/- How a slice of acts reads as an argument. -/
import Derived.Test.YtbbhbfeafdibmaaOpen
import Derived.Deep.Slices
namespace Go.Proofs.Ytbbhbfeafdibmaa
open Go.ChangeShapes Go.WideShapes Go.RowKit Go.Deep Plain

/-- The slice value '.slice A len cap' reads as the acts (t i, q i, b i), i below len, in memory that lies below W's end. -/
def Acts (w : World) (A : Option Addr) (len : Nat) (t : Nat → Bool) (q b : Nat → Int) : Prop :=
  0 < len → ∃ ad, A = some ad ∧ ad.block < w.heap.size ∧ ∀ i, i < len →
    w.cell? ((ad.add (i * 3)).add 0) = some (.bool (t i)) ∧ w.cell? ((ad.add (i * 3)).add 1) = some (.int .i64 (q i)) ∧ w.cell? ((ad.add (i * 3)).add 2) = some (.int .u64 (b i)) ∧ 0 ≤ b i ∧ b i < 18446744073709551616

theorem lt_of_cell {w : World} {a : Addr} {v : Value} (h : w.cell? a = some v) : a.block < w.heap.size := by
  rcases Nat.lt_or_ge a.block w.heap.size with hl | hl
  · exact hl
  · unfold World.cell? at h
    rw [Array.getElem?_eq_none hl] at h
    cases h
theorem add_block (a : Addr) (n : Nat) : (a.add n).block = a.block := by unfold Addr.add; split <;> rfl

theorem open_acts {H : Type} {enc : TypeId × Value → H} {w : World} {base : Nat} {spare : Nat → Bool} {held : Bool} {r : Reach} {b0 : Nat} {v : Value} {d : DataW H} {p : List MemPlace}
    (hv : Value.okWide Try.prog w r b0 48 v) (hd : DataW.Trod enc Try.prog w base spare held 48 v d p) :
    ∃ (A : Option Addr) (len cap : Nat) (t : Nat → Bool) (q b : Nat → Int), v = .slice A len cap ∧ Acts w A len t q b ∧ len ≤ maxLen := by
  obtain ⟨A, len, cap, rfl⟩ := okWide_slice Try.underlying48 hv
  obtain ⟨fuel, hf⟩ := hd
  rcases open_slice Try.underlying48 hf with ⟨hcs, _⟩ | ⟨a, l, c, m, n, D, Pl, hcs, _, hl, hm, hmm, _, hi⟩
  · simp [Value.cells] at hcs
    obtain ⟨rfl, rfl, rfl⟩ := hcs
    exact ⟨none, 0, 0, fun _ => false, fun _ => 0, fun _ => 0, rfl, fun h => absurd h (by omega), by unfold maxLen; omega⟩
  · simp [Value.cells] at hcs
    obtain ⟨rfl, rfl, rfl⟩ := hcs
    rw [cells43] at hi
    have hlm : len ≤ m := by rw [hmm]; split <;> omega
    have key : ∀ i, ∃ x : Bool × Int × Int, i < len → w.cell? ((a.add (i * 3)).add 0) = some (.bool x.1) ∧ w.cell? ((a.add (i * 3)).add 1) = some (.int .i64 x.2.1) ∧ w.cell? ((a.add (i * 3)).add 2) = some (.int .u64 x.2.2) ∧ 0 ≤ x.2.2 ∧ x.2.2 < 18446744073709551616 := by
      intro i
      by_cases hlt : i < len
      · obtain ⟨cs', hc, ht⟩ := hi i (by omega)
        obtain ⟨_, hcl, hat⟩ := World.cells?_some hc
        match cs', hcl with
        | [c0, c1, c2], _ =>
          obtain ⟨xs, n', _, _, _, hlen, hg⟩ := DataW.trod_struct Try.underlying43 ht
          match xs, hlen with
          | [y0, y1, y2], _ =>
            obtain ⟨n0, e0, _⟩ := DataW.trod_bool Try.underlying4 (x := y0) (by simpa [Value.cells, cells4] using hg 0 _ rfl)
            obtain ⟨n1, e1, _, w1⟩ := DataW.trod_int Try.underlying3 (x := y1) (by simpa [Value.cells, cells3] using hg 1 _ rfl)
            obtain ⟨n2, e2, _, w2⟩ := DataW.trod_int Try.underlying22 (x := y2) (by simpa [Value.cells, cells22] using hg 2 _ rfl)
            simp only [List.cons.injEq, and_true] at e0 e1 e2
            subst e0 e1 e2
            exact ⟨(n0, n1, n2), fun _ => ⟨hat 0 (by omega), hat 1 (by omega), hat 2 (by omega), wf_u64 w2⟩⟩
      · exact ⟨(false, 0, 0), fun h => absurd h hlt⟩
    obtain ⟨f, hf'⟩ := Classical.axiomOfChoice key
    refine ⟨some a, len, cap, fun i => (f i).1, fun i => (f i).2.1, fun i => (f i).2.2, rfl, fun h0 => ⟨a, rfl, ?_, fun i hi => hf' i hi⟩, by omega⟩
    have := lt_of_cell (hf' 0 h0).1
    rwa [add_block, add_block] at this
end Go.Proofs.Ytbbhbfeafdibmaa
