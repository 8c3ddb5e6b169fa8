/- How a network's links and two ends read as arguments. -/
import Derived.Test.YteaipeejhippiaaPOuts
import Derived.ChangeArms
import Derived.ChangeShapes
import Derived.WideShapes
import Derived.OpenShut
import Derived.Deep.Slices
namespace Go.Proofs.Yteaipeejhippiaa
open Go.ChangeShapes Go.WideShapes Go.RowKit Go.Deep
set_option linter.unusedVariables false
set_option maxRecDepth 100000

theorem wf_u64 {n : Int} (h : (Lit.int .u64 n).wf = true) : 0 ≤ n ∧ n < 18446744073709551616 := by
  simp [Lit.wf, IntKind.min, IntKind.max, IntKind.bits, IntKind.signed] at h
  omega
theorem wf_u32 {n : Int} (h : (Lit.int .u32 n).wf = true) : 0 ≤ n ∧ n < 4294967296 := by
  simp [Lit.wf, IntKind.min, IntKind.max, IntKind.bits, IntKind.signed] at h
  omega
theorem cells3 : Try.prog.cellsOf 3 = 1 := by kernel_rfl
theorem cells22 : Try.prog.cellsOf 22 = 1 := by kernel_rfl
theorem cells31 : Try.prog.cellsOf 31 = 1 := by kernel_rfl
theorem cells32 : Try.prog.cellsOf 32 = 1 := by kernel_rfl
theorem cells34 : Try.prog.cellsOf 34 = 5 := by kernel_rfl
instance : Inhabited Lnk := ⟨⟨0, 0, 0, 0, 0⟩⟩
theorem wf_i64 {n : Int} (h : (Lit.int .i64 n).wf = true) : I64 n := by
  simp [Lit.wf, IntKind.min, IntKind.max, IntKind.bits, IntKind.signed] at h
  unfold I64
  omega
theorem lt_of_cell {w : World} {a : Addr} {v : Value} (h : w.cell? a = some v) : a.block < w.heap.size := by
  rcases Nat.lt_or_ge a.block w.heap.size with hl | hl
  · exact hl
  · unfold World.cell? at h
    rw [Array.getElem?_eq_none hl] at h
    cases h
section
variable {H : Type} {enc : TypeId × Value → H} {w : World} {base : Nat} {spare : Nat → Bool} {held : Bool}
/-- A slice whose elements read as rows of k cells. -/
theorem open_rows {t e : TypeId} {k : Nat} {R : Type} [Inhabited R] (row : R → Array Value) (hk : 0 < k) (hrow : ∀ r, (row r).size = k) (P : R → Prop) (ht : Try.prog.underlying t = some (.slice e)) (hc : Try.prog.cellsOf e = k)
    (hel : ∀ n cs x, cs.length = k → DataW.trod enc Try.prog w base spare held n e cs = some x → ∃ r, cs = (row r).toList ∧ P r)
    {fuel : Nat} {cs : List Value} {x : DataW H × List MemPlace} (h : DataW.trod enc Try.prog w base spare held fuel t cs = some x) :
    ∃ (A : Option Addr) (len cap : Nat) (f : Nat → R), cs = [.slice A len cap] ∧ Strip w A len k (fun i => row (f i)) ∧ (∀ i, i < len → P (f i)) ∧ len ≤ maxLen := by
  rcases open_slice ht h with ⟨hcs, _⟩ | ⟨a, l, c, m, n, D, Pl, hcs, _, hl, hm, hmm, _, hi⟩
  · exact ⟨none, 0, 0, fun _ => default, hcs, fun h => absurd h (by omega), fun i h => absurd h (by omega), by unfold maxLen; omega⟩
  · rw [hc] at hi
    have hlm : l ≤ m := by rw [hmm]; split <;> omega
    have key : ∀ i, ∃ r : R, i < l → (∀ j, j < k → w.cell? ((a.add (i * k)).add j) = (row r)[j]?) ∧ P r := by
      intro i
      by_cases hlt : i < l
      · obtain ⟨cs', hc', ht'⟩ := hi i (by omega)
        obtain ⟨_, hcl, hat⟩ := World.cells?_some hc'
        obtain ⟨r, rfl, hp⟩ := hel _ _ _ hcl ht'
        exact ⟨r, fun _ => ⟨fun j hj => (hat j hj).trans (by simp), hp⟩⟩
      · exact ⟨default, fun h => absurd h hlt⟩
    obtain ⟨f, hf⟩ := Classical.axiomOfChoice key
    refine ⟨some a, l, c, f, hcs, fun h0 => ⟨a, rfl, ?_, fun i hi => (hf i hi).1⟩, fun i hi => (hf i hi).2, by omega⟩
    have hs := hrow (f 0)
    have h1 := (hf 0 h0).1 0 hk
    rw [Array.getElem?_eq_getElem (by omega)] at h1
    have := lt_of_cell h1
    rwa [add_block, add_block] at this
def LOk (r : Lnk) : Prop := I64 r.src ∧ I64 r.dst ∧ (0 ≤ r.cap ∧ r.cap < 18446744073709551616) ∧ (0 ≤ r.groups ∧ r.groups < 4294967296)
theorem link_cells {n : Nat} {cs : List Value} {x : DataW H × List MemPlace} (hl : cs.length = 5) (h : DataW.trod enc Try.prog w base spare held n 34 cs = some x) :
    ∃ r : Lnk, cs = [.int .i64 r.src, .int .i64 r.dst, .int .u64 r.cap, .int .i64 r.metric, .int .u32 r.groups] ∧ LOk r := by
  match cs, hl with
  | [c0, c1, c2, c3, c4], _ =>
    obtain ⟨xs, m, _, _, _, hlen, hg⟩ := DataW.trod_struct Try.underlying34 h
    match xs, hlen with
    | [y0, y1, y2, y3, y4], _ =>
      obtain ⟨n0, e0, _, w0⟩ := DataW.trod_int Try.underlying3 (x := y0) (by simpa [Value.cells, cells3] using hg 0 _ rfl)
      obtain ⟨n1, e1, _, w1⟩ := DataW.trod_int Try.underlying3 (x := y1) (by simpa [Value.cells, cells3] using hg 1 _ rfl)
      obtain ⟨n2, e2, _, w2⟩ := DataW.trod_int Try.underlying31 (x := y2) (by simpa [Value.cells, cells31] using hg 2 _ rfl)
      obtain ⟨n3, e3, _, _⟩ := DataW.trod_int Try.underlying3 (x := y3) (by simpa [Value.cells, cells3] using hg 3 _ rfl)
      obtain ⟨n4, e4, _, w4⟩ := DataW.trod_int Try.underlying32 (x := y4) (by simpa [Value.cells, cells32] using hg 4 _ rfl)
      simp only [List.cons.injEq, and_true] at e0 e1 e2 e3 e4
      subst e0 e1 e2 e3 e4
      exact ⟨⟨n0, n1, n2, n3, n4⟩, rfl, wf_i64 w0, wf_i64 w1, wf_u64 w2, wf_u32 w4⟩
theorem link_row (n : Nat) (cs : List Value) (x : DataW H × List MemPlace) (hl : cs.length = 5) (h : DataW.trod enc Try.prog w base spare held n 34 cs = some x) : ∃ r : Lnk, cs = (Proofs.Yteaipeejhippiaa.link r).toList ∧ LOk r := by
  obtain ⟨r, e, h⟩ := link_cells hl h
  exact ⟨r, e, h⟩
theorem open_links {r : Reach} {b0 : Nat} {v : Value} {d : DataW H} {p : List MemPlace}
    (hv : Value.okWide Try.prog w r b0 22 v) (hd : DataW.Trod enc Try.prog w base spare held 22 v d p) :
    ∃ (A : Option Addr) (len cap : Nat) (x : Nat → Lnk), v = .slice A len cap ∧ Strip w A len 5 (fun i => Proofs.Yteaipeejhippiaa.link (x i)) ∧ (∀ i, i < len → LOk (x i)) ∧ len ≤ maxLen := by
  obtain ⟨A, len, cap, rfl⟩ := okWide_slice Try.underlying22 hv
  obtain ⟨fuel, hf⟩ := hd
  obtain ⟨A', len', cap', f, hcs, h1, h2, h3⟩ := open_rows (k := 5) (R := Lnk) Proofs.Yteaipeejhippiaa.link (by omega) (fun _ => rfl) LOk Try.underlying22 cells34 link_row hf
  simp [Value.cells] at hcs
  obtain ⟨rfl, rfl, rfl⟩ := hcs
  exact ⟨_, _, _, f, rfl, h1, h2, h3⟩
theorem cells47 : Try.prog.cellsOf 47 = 2 := by kernel_rfl
theorem open_pair {r : Reach} {b0 : Nat} {v : Value} {d : DataW H} {p : List MemPlace}
    (hv : Value.okWide Try.prog w r b0 47 v) (hd : DataW.Trod enc Try.prog w base spare held 47 v d p) :
    ∃ e0 e1 : Int, v = .agg #[.int .i64 e0, .int .i64 e1] := by
  simp only [Value.okWide, Try.underlying47] at hv
  obtain ⟨cs, rfl, hsz, _⟩ := hv
  obtain ⟨l⟩ := cs
  rw [cells47] at hsz
  match l, hsz with
  | [c0, c1], _ =>
    obtain ⟨fuel, hf⟩ := hd
    obtain ⟨zs, m, _, _, _, hzl, hz⟩ := DataW.trod_array Try.underlying47 hf
    match zs, hzl with
    | [z0, z1], _ =>
      obtain ⟨n0, h0, _, _⟩ := DataW.trod_int Try.underlying3 (x := z0) (by simpa [cells3, Value.cells] using hz 0 (by omega))
      obtain ⟨n1, h1, _, _⟩ := DataW.trod_int Try.underlying3 (x := z1) (by simpa [cells3, Value.cells] using hz 1 (by omega))
      simp only [List.cons.injEq, and_true] at h0 h1
      subst h0 h1
      exact ⟨n0, n1, rfl⟩
theorem open_num {r : Reach} {b0 : Nat} {v : Value} {d : DataW H} {p : List MemPlace}
    (hv : Value.okWide Try.prog w r b0 3 v) (hd : DataW.Trod enc Try.prog w base spare held 3 v d p) : ∃ n : Int, v = .int .i64 n :=
  okWide_int Try.underlying3 hv
end
end Go.Proofs.Yteaipeejhippiaa
