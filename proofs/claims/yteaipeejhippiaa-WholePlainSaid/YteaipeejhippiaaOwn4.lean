/- append of a whole slice onto an empty row of the call's own. -/
import Derived.Test.YteaipeejhippiaaOwn2
namespace Go.Proofs.Yteaipeejhippiaa
open Go.RowKit
set_option linter.unusedVariables false

theorem strip_flat {w : World} {ad : Addr} {n size : Nat} {row : Nat → Array Value} (hst : Strip w (some ad) n size row) (hrow : ∀ i, (row i).size = size) (hsz : 0 < size) : (flatL ((List.range n).map row)).length = n * size ∧ ∀ j u, (flatL ((List.range n).map row))[j]? = some u → w.cell? (ad.add j) = some u := by
  have hsz2 : ∀ y ∈ (List.range n).map row, y.size = size := fun y hy => by
    obtain ⟨j, _, rfl⟩ := List.mem_map.1 hy
    exact hrow j
  have hlen : (flatL ((List.range n).map row)).length = n * size := by
    have : ∀ m, (flatL ((List.range m).map row)).length = m * size := by
      intro m
      induction m with
      | zero => simp [flatL]
      | succ m ih => rw [List.range_succ, List.map_append, List.map_cons, List.map_nil, flatL_snoc, List.length_append, ih, Array.length_toList, hrow, Nat.succ_mul]
    exact this n
  refine ⟨hlen, fun j u hu => ?_⟩
  have hj : j < n * size := by rw [← hlen]; exact (List.getElem?_eq_some_iff.1 hu).1
  have hn0 : 0 < n := by
    rcases Nat.eq_zero_or_pos n with h0 | h0
    · subst h0; simp at hj
    · exact h0
  obtain ⟨ad', e', _, hc⟩ := hst hn0
  injection e' with e'
  subst e'
  have hd : j / size < n := (Nat.div_lt_iff_lt_mul hsz).2 hj
  have hm : j % size < size := Nat.mod_lt _ hsz
  have hjj : j / size * size + j % size = j := by rw [Nat.mul_comm]; exact Nat.div_add_mod j size
  have h2 := flatL_get hsz2 (j / size) (by simpa using hd) (j % size) hm
  rw [hjj, getD_map_range hd] at h2
  have h3 := hc (j / size) hd (j % size) hm
  rw [addr_add_add, hjj] at h3
  rw [h3, ← h2]
  exact hu
theorem flat_ones {n : Nat} {row : Nat → Array Value} (h1 : ∀ i, ∀ u ∈ (row i).toList, u.oneCell' = true) : ∀ u ∈ flatL ((List.range n).map row), u.oneCell' = true := fun u hu => by
  obtain ⟨y, hy, hu⟩ := List.mem_flatMap.1 hu
  obtain ⟨j, _, rfl⟩ := List.mem_map.1 hy
  exact h1 j u hu
theorem wpList_copyS {P : Program} (w : World) {ops : Array Oper} {rest : List Oper} {o : Oper} {a : Act} {Q : Exit → Act → World → Prop} (hgd : o.guard = none) (s x : Operand) (t : TypeId)
    (ho : o.op = .call { callee := .builtin .append, args := #[s, x], argTypes := #[t, t] })
    (base : Nat) (e : TypeId) (z : Value) (size bytes : Nat) (ht : P.underlying t = some (.slice e)) (hi : Info P e z size bytes) (hzs : z.cells.size = size) (hsz : 0 < size)
    (v : Value) (hs : a.eval s = v) (hown : OutRow w base e size v [])
    (ad : Addr) (n c : Nat) (row : Nat → Array Value) (hx : a.eval x = .slice (some ad) n c) (hst : Strip w (some ad) n size row) (hrow : ∀ i, (row i).size = size) (h1 : ∀ i, ∀ u ∈ (row i).toList, u.oneCell' = true)
    (hn : n ≤ 100000) (hby : bytes ≤ 1000) (hbase : base ≤ w.heap.size)
    (h : ∀ v' w', OutRow w' base e size v' ((List.range n).map row) → Below base w w' → wpList P ops Q rest (a.put o.dst v') w') : wpList P ops Q (o :: rest) a w := by
  obtain ⟨i, hi1, hi2, hi3, hi4⟩ := info_parts hi
  have hb2 : (0 + n) * bytes ≤ 140737488355328 := Nat.le_trans (Nat.mul_le_mul (show 0 + n ≤ 100000 by omega) hby) (by omega)
  obtain ⟨hl, hc⟩ := strip_flat hst hrow hsz
  refine wpList_append_own_at w hgd s x t ho base e i z size bytes ht hi1 hi2 hi3 hi4 hzs hsz v 0 [] hs hown.1 ad n c (flatL ((List.range n).map row)) hx hl hc (flat_ones h1) (by unfold maxLen; omega) hb2 hbase ?_
  intro v' w' h2 h3 _ _
  refine h v' w' ⟨by simpa using h2, fun y hy => ?_⟩ ((Below.refl base w).grown h3 hbase fun k hk => (hown.1.lt k hk).1)
  obtain ⟨j, _, rfl⟩ := List.mem_map.1 hy
  exact hrow j
/-- A new array of no elements is an empty row. -/
theorem empty_row (w : World) (e : TypeId) (size : Nat) {g : Nat} (hg : g = w.heap.size) : OutRow (w.alloc (.cells #[] e)) w.heap.size e size (.slice (some ⟨g, 0, none⟩) 0 0) [] := by
  subst hg
  exact ⟨⟨by simp [flatL], .inr ⟨w.heap.size, 0, #[], rfl, Nat.le_refl _, heap_alloc_new w _, Nat.le_refl _, by simp [maxLen], by simp, by simp [flatL]⟩⟩, fun _ h => by cases h⟩
end Go.Proofs.Yteaipeejhippiaa
