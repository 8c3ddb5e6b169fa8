/- append onto nil of a slice that is there; append of one row: as steps of a region that draws its order. -/
import Derived.Test.YtmomndeknpochaaFitsLaw
import Derived.Deep.RegionLaw
import Derived.Deep.DeepCutAuto
import Derived.Deep.CutRange
namespace Go.Proofs.Ytmomndeknpochaa
open Go.RowKit

theorem rows_snoc (n : Nat) (row : Nat → Array Value) (r : Array Value) : (List.range n).map row ++ [r] = (List.range (n + 1)).map fun i => if i < n then row i else r := by
  rw [List.range_succ, List.map_append]
  congr 1
  · refine List.map_congr_left fun i hi => ?_
    rw [if_pos (List.mem_range.1 hi)]
  · simp
theorem row_cells {w : World} {B : Nat} {r : Array Value} (h : Row w B r) : ∀ j u, r.toList[j]? = some u → w.cell? ((⟨B, 0, none⟩ : Addr).add j) = some u := by
  intro j u hj
  rw [addr_add, Nat.zero_add, h.1]
  simpa using hj
theorem OutRow.drew {w : World} {base : Nat} {e : TypeId} {size : Nat} {v : Value} {xs : List (Array Value)} (h : OutRow w base e size v xs) : OutRow w.drew base e size v xs := h
theorem step_add {P : Program} {ops : Array Oper} {o : Oper} {a : Act} {w : World} {K : Act → World → Prop} {Q : Exit → Act → World → Prop} {E : Prop} (hgd : o.guard = none) (s x : Operand) (t : TypeId)
    (ho : o.op = .call { callee := .builtin .append, args := #[s, x], argTypes := #[t, t] })
    (base : Nat) (e : TypeId) (z : Value) (size bytes : Nat) (ht : P.underlying t = some (.slice e)) (hi : Info P e z size bytes) (hzs : z.cells.size = size) (hsz : 0 < size)
    (v : Value) (xs : List (Array Value)) (hs : a.eval s = v) (hown : OutRow w base e size v xs)
    (g c : Nat) (r : Array Value) (hx : a.eval x = .slice (some ⟨g, 0, none⟩) 1 c) (hr : r.size = size) (hcell : ∀ j u, r.toList[j]? = some u → w.cell? ((⟨g, 0, none⟩ : Addr).add j) = some u) (h1 : ∀ u ∈ r.toList, u.oneCell' = true)
    (hn : xs.length ≤ 100000) (hby : bytes ≤ 1000) (hbase : base ≤ w.heap.size)
    (h : ∀ v' w', OutRow w' base e size v' (xs ++ [r]) → Below base w w' → K (a.put o.dst v') w') :
    if Region.wanted o (yielded ops a.tmps) = true then Oper.wp P o a w K Q else E := by
  have hw : Region.wanted o (yielded ops a.tmps) = true := by simp [Region.wanted, hgd]
  rw [if_pos hw]
  obtain ⟨i, hi1, hi2, hi3, hi4⟩ := info_parts hi
  have hb2 : (xs.length + 1) * bytes ≤ 140737488355328 := Nat.le_trans (Nat.mul_le_mul (show xs.length + 1 ≤ 100001 by omega) hby) (by omega)
  obtain ⟨v', w', hrun, h2, h3, _, _⟩ := run_append_own_at (P := P) w base t o.type e i z size bytes ht hi1 hi2 hi3 hi4 hzs hsz v xs.length (flatL xs) hown.1 ⟨g, 0, none⟩ 1 c r.toList (by simp [hr]) hcell h1 (by unfold maxLen; omega) hb2 hbase
  unfold Oper.wp execOp
  simp only [ho, resolve, invoke, builtin, Sem.run_bind, Sem.run_pure, Result.andThen_ok, List.map_toArray, List.map_cons, List.map_nil, hs, hx, hrun]
  refine h v' w' ⟨?_, fun y hy => ?_⟩ ((Below.refl base w).grown h3 hbase fun k hk => (hown.1.lt k hk).1)
  · rw [flatL_snoc, List.length_append]
    exact h2
  · rcases List.mem_append.1 hy with hy | hy
    · exact hown.2 y hy
    · rw [List.mem_singleton.1 hy]
      exact hr
theorem step_copy {P : Program} {ops : Array Oper} {o : Oper} {a : Act} {w : World} {K : Act → World → Prop} {Q : Exit → Act → World → Prop} {E : Prop} (hgd : o.guard = none) (s x : Operand) (t : TypeId)
    (ho : o.op = .call { callee := .builtin .append, args := #[s, x], argTypes := #[t, t] })
    (base : Nat) (e : TypeId) (z : Value) (size bytes : Nat) (ht : P.underlying t = some (.slice e)) (hi : Info P e z size bytes) (hzs : z.cells.size = size) (hsz : 0 < size)
    (hs : a.eval s = .slice none 0 0) (A : Option Addr) (n c : Nat) (row : Nat → Array Value) (hx : a.eval x = .slice A n c) (hst : Strip w A n size row) (hrow : ∀ i, (row i).size = size) (h1 : ∀ i, ∀ u ∈ (row i).toList, u.oneCell' = true)
    (hn : n ≤ 100000) (hby : bytes ≤ 1000) (hbase : base ≤ w.heap.size)
    (h : ∀ v' w', OutRow w' base e size v' ((List.range n).map row) → Below w.heap.size w w' → K (a.put o.dst v') w') :
    if Region.wanted o (yielded ops a.tmps) = true then Oper.wp P o a w K Q else E := by
  have hw : Region.wanted o (yielded ops a.tmps) = true := by simp [Region.wanted, hgd]
  rw [if_pos hw]
  obtain ⟨i, hi1, hi2, hi3, hi4⟩ := info_parts hi
  have hsz2 : ∀ y ∈ (List.range n).map row, y.size = size := fun y hy => by
    obtain ⟨j, _, rfl⟩ := List.mem_map.1 hy
    exact hrow j
  have hlen : (flatL ((List.range n).map row)).length = n * size := by
    have : ∀ m, (flatL ((List.range m).map row)).length = m * size := by
      intro m
      induction m with
      | zero => simp [flatL]
      | succ m ih => rw [List.range_succ, List.map_append, List.map_cons, List.map_nil, flatL_snoc, List.length_append, ih, Array.length_toList, hrow, Nat.succ_mul]
    exact this n
  have run : ∃ v' w', (Builtin.append_ #[t, t] o.type #[.slice none 0 0, .slice A n c]).run P w = .ok v' w' ∧ w'.ownsRow base e size v' n (flatL ((List.range n).map row)) ∧ w.grownBy w' none := by
    rcases A with _ | ad
    · have hn0 : n = 0 := by
        rcases Nat.eq_zero_or_pos n with h0 | h0
        · exact h0
        · obtain ⟨ad, h, _⟩ := hst h0
          cases h
      subst hn0
      refine ⟨.slice none 0 0, w, ?_, World.ownsRow_nil w base e size, World.grownBy.refl w _⟩
      simp [Builtin.append_, run_underlying ht, sizeOf, typeInfo, hi1, Builtin.lenOf, Builtin.firstCells]
    · have hcells : ∀ j u, (flatL ((List.range n).map row))[j]? = some u → w.cell? (ad.add j) = some u := by
        intro j u hu
        have hj : j < n * size := by rw [← hlen]; exact (List.getElem?_eq_some_iff.1 hu).1
        have hn0 : 0 < n := by
          rcases Nat.eq_zero_or_pos n with h0 | h0
          · subst h0; simp at hj
          · exact h0
        obtain ⟨ad', e', _, hc⟩ := hst hn0
        injection e' with e'
        subst e'
        have hd : j / size < n := (Nat.div_lt_iff_lt_mul hsz).2 hj
        have hm : j % size < size := Nat.mod_lt _ hsz
        have hjj : j / size * size + j % size = j := by rw [Nat.mul_comm]; exact Nat.div_add_mod j size
        have h2 := flatL_get hsz2 (j / size) (by simpa using hd) (j % size) hm
        rw [hjj, getD_map_range hd] at h2
        have h3 := hc (j / size) hd (j % size) hm
        rw [addr_add_add, hjj] at h3
        rw [h3, ← h2]
        exact hu
      have hones : ∀ u ∈ flatL ((List.range n).map row), u.oneCell' = true := fun u hu => by
        obtain ⟨y, hy, hu⟩ := List.mem_flatMap.1 hu
        obtain ⟨j, _, rfl⟩ := List.mem_map.1 hy
        exact h1 j u hu
      have hb2 : (0 + n) * bytes ≤ 140737488355328 := Nat.le_trans (Nat.mul_le_mul (show 0 + n ≤ 100001 by omega) hby) (by omega)
      obtain ⟨v', w', hrun, h2, h3, _, _⟩ := run_append_own_at (P := P) w base t o.type e i z size bytes ht hi1 hi2 hi3 hi4 hzs hsz (.slice none 0 0) 0 [] (World.ownsRow_nil w base e size) ad n c (flatL ((List.range n).map row)) hlen hcells hones (by unfold maxLen; omega) hb2 hbase
      exact ⟨v', w', hrun, by simpa using h2, by simpa [Value.ownBlock] using h3⟩
  obtain ⟨v', w', hrun, h2, h3⟩ := run
  unfold Oper.wp execOp
  simp only [ho, resolve, invoke, builtin, Sem.run_bind, Sem.run_pure, Result.andThen_ok, List.map_toArray, List.map_cons, List.map_nil, hs, hx, hrun]
  exact h v' w' ⟨by simpa using h2, hsz2⟩ ((Below.refl _ w).grown h3 (Nat.le_refl _) fun k hk => by cases hk)
end Go.Proofs.Ytmomndeknpochaa
