/- Memory of a call's own, for the walks of a seat: blocks known whole; slices that read as rows; append as a step; steps of a region walked in one order. -/
import Derived.Test.YteaipeejhippiaaSeq
import Derived.WalkKit
import Derived.WalkSpells
import Derived.Below
import Derived.KernelRfl
import Derived.Lib.Hide
import Derived.LoopTactic
import Derived.Outline
import Derived.Laws.OwnMore
import Derived.Deep.QuietTactic
import Derived.BigQuiet
import Derived.BigRegion
import Derived.Maps.AppendAt
import Derived.OwnWalk
import Derived.Deep.RegionLaw
namespace Go.Proofs.Yteaipeejhippiaa
open Go.RowKit

theorem add_block (a : Addr) (n : Nat) : (a.add n).block = a.block := by unfold Addr.add; split <;> rfl
/-- The slice reads as the rows of k cells f i, i below n, in memory that lies below w's end. -/
def Strip (w : World) (A : Option Addr) (n k : Nat) (f : Nat → Array Value) : Prop :=
  0 < n → ∃ ad, A = some ad ∧ ad.block < w.heap.size ∧ ∀ i, i < n → ∀ j, j < k → w.cell? ((ad.add (i * k)).add j) = (f i)[j]?
theorem Strip.below {w w' : World} {A : Option Addr} {n k : Nat} {f : Nat → Array Value} (h : Strip w A n k f) (hb : Below w.heap.size w w') : Strip w' A n k f := fun h0 => by
  obtain ⟨ad, e, hl, hc⟩ := h h0
  exact ⟨ad, e, Nat.lt_of_lt_of_le hl hb.size, fun i hi j hj => (hb.cell (by rw [add_block, add_block]; exact hl)).trans (hc i hi j hj)⟩
theorem measure_step {n k : Nat} (h : k < n) : n - (intOf (.int .i64 ((k : Int) + 1))).toNat < n - (intOf (.int .i64 (k : Int))).toNat := by
  simp only [intOf]
  omega
/-- The block g is just these cells, of which none is frozen. -/
def Blk (w : World) (g : Nat) (t : TypeId) (cs : Array Value) : Prop := w.heap[g]? = some (.cells cs t (0, 0))
section
variable {w w' : World} {g : Nat} {t : TypeId} {cs : Array Value}
theorem Blk.lt (h : Blk w g t cs) : g < w.heap.size := by
  rcases Nat.lt_or_ge g w.heap.size with hlt | hge
  · exact hlt
  · unfold Blk at h; rw [Array.getElem?_eq_none hge] at h; cases h
theorem Blk.cell (h : Blk w g t cs) (i : Nat) : w.cell? ⟨g, i, none⟩ = cs[i]? := cell_of_row w g i cs t (0, 0) h
theorem Blk.frozen (h : Blk w g t cs) (i : Nat) : w.frozen? ⟨g, i, none⟩ = false := by
  unfold Blk at h
  simp [World.frozen?, h]
theorem Blk.row (h : Blk w g t cs) : Row w g cs := ⟨h.cell, h.frozen, h.lt⟩
theorem Blk.new (w : World) (t : TypeId) (cs : Array Value) : Blk (w.alloc (.cells cs t)) w.heap.size t cs := heap_alloc_new w _
theorem Blk.drew (h : Blk w g t cs) : Blk w.drew g t cs := h
theorem Blk.drewN (h : Blk w g t cs) (n : Nat) : Blk (w.drewN n) g t cs := h
theorem Blk.alloc (h : Blk w g t cs) (o : Obj) : Blk (w.alloc o) g t cs := (Below.heap_alloc w o g h.lt).trans h
theorem Blk.set_ (h : Blk w g t cs) (i : Nat) (u : Value) : Blk (w.setCell ⟨g, i, none⟩ u) g t (cs.setIfInBounds i u) := by
  unfold Blk at h ⊢
  simp [World.setCell, Array.getElem?_modify, h]
theorem Blk.far (h : Blk w g t cs) {p : Addr} (hp : g ≠ p.block) (u : Value) : Blk (w.setCell p u) g t cs := (Below.heap_setCell w p u g hp).trans h
theorem Blk.below {B : Nat} (h : Blk w g t cs) (hb : Below B w w') (hg : g < B) : Blk w' g t cs := (hb.block g hg).trans h
theorem Blk.later (h : Blk w g t cs) (hb : Below w.heap.size w w') : Blk w' g t cs := h.below hb h.lt
theorem Blk.grown {row : Option Nat} (h : Blk w g t cs) (hb : w.grownBy w' row) (hg : some g ≠ row) : Blk w' g t cs := (hb.block g h.lt hg).trans h
end
theorem grown_drewN {a w : World} {row : Option Nat} (h : a.grownBy w row) (n : Nat) : a.grownBy (w.drewN n) row := ⟨h.os, h.tape, h.output, h.size, h.block⟩
theorem grown_below {a w w' : World} {row : Option Nat} (h : a.grownBy w row) (hb : Below w.heap.size w w') : a.grownBy w' row :=
  ⟨hb.os.trans h.os, hb.tape.trans h.tape, hb.output.trans h.output, Nat.le_trans h.size hb.size, fun i hi hne => (hb.block i (Nat.lt_of_lt_of_le hi h.size)).trans (h.block i hi hne)⟩
theorem grown_setCell {a w : World} {g : Nat} (h : a.grownBy w (some g)) {p : Addr} (hp : p.block = g) (u : Value) : a.grownBy (w.setCell p u) (some g) :=
  ⟨h.os, h.tape, h.output, by simpa [World.setCell] using h.size, fun i hi hne => (Below.heap_setCell w p u i (by
    rintro rfl
    exact hne (by rw [hp]))).trans (h.block i hi hne)⟩
theorem grown_of_below {w w' : World} (h : Below w.heap.size w w') (row : Option Nat) : w.grownBy w' row := ⟨h.os, h.tape, h.output, h.size, fun i hi _ => h.block i hi⟩

theorem addr_add (b o j : Nat) : (⟨b, o, none⟩ : Addr).add j = ⟨b, o + j, none⟩ := by unfold Addr.add; split <;> simp_all
theorem addr_add_add (a : Addr) (i j : Nat) : (a.add i).add j = a.add (i + j) := by
  unfold Addr.add
  by_cases h1 : i = 0 <;> by_cases h2 : j = 0
  · simp [h1, h2]
  · simp [h1, h2]
  · simp [h1, h2]
  · simp only [h1, h2, ↓reduceIte]
    rw [if_neg (by omega)]
    simp
/-- The rows, one behind the other. -/
def flatL (xs : List (Array Value)) : List Value := xs.flatMap Array.toList
theorem flatL_snoc (xs : List (Array Value)) (r : Array Value) : flatL (xs ++ [r]) = flatL xs ++ r.toList := by simp [flatL]
theorem flatL_get {size : Nat} : ∀ {xs : List (Array Value)}, (∀ x ∈ xs, x.size = size) → ∀ i, i < xs.length → ∀ j, j < size → (flatL xs)[i * size + j]? = (xs.getD i #[])[j]?
  | x :: xs, h, 0, _, j, hj => by
    have hx := h x (List.mem_cons_self ..)
    simp only [flatL, List.flatMap_cons, Nat.zero_mul, Nat.zero_add, List.getD_cons_zero]
    rw [List.getElem?_append_left (by simpa [hx] using hj)]
    simp
  | x :: xs, h, i + 1, hi, j, hj => by
    have hx := h x (List.mem_cons_self ..)
    have := flatL_get (fun y hy => h y (List.mem_cons_of_mem _ hy)) i (by simpa using hi) j hj
    simp only [List.getD_cons_succ]
    rw [← this]
    simp only [flatL, List.flatMap_cons]
    rw [List.getElem?_append_right (by rw [Array.length_toList, hx, Nat.add_mul]; omega)]
    congr 1
    rw [Array.length_toList, hx, Nat.add_mul]
    omega
/-- The slice v is the call's own, in blocks from base on, and reads as the rows xs. -/
def OutRow (w : World) (base : Nat) (e : TypeId) (size : Nat) (v : Value) (xs : List (Array Value)) : Prop :=
  w.ownsRow base e size v xs.length (flatL xs) ∧ ∀ x ∈ xs, x.size = size
section
variable {w w' : World} {base : Nat} {e : TypeId} {size : Nat} {v : Value} {xs : List (Array Value)}
theorem OutRow.nil (w : World) (base : Nat) (e : TypeId) (size : Nat) : OutRow w base e size (.slice none 0 0) [] := ⟨World.ownsRow_nil w base e size, fun _ h => by cases h⟩
theorem OutRow.form (h : OutRow w base e size v xs) : ∃ A c, v = .slice A xs.length c := by
  rcases h.1.2 with ⟨rfl, h0⟩ | ⟨g, cap, cur, rfl, _⟩
  · exact ⟨none, 0, by rw [h0]⟩
  · exact ⟨_, _, rfl⟩
theorem OutRow.strip {A : Option Addr} {n c : Nat} (h : OutRow w base e size (.slice A n c) xs) : n = xs.length ∧ Strip w A n size (fun i => xs.getD i #[]) := by
  have hlt := h.1.lt
  rcases h.1.2 with ⟨h1, h0⟩ | ⟨g, cap, cur, h1, hb, hg, _⟩
  · injection h1 with h1 h2 h3
    subst h1 h2
    exact ⟨h0.symm, fun h => absurd h (by omega)⟩
  · injection h1 with h1 h2 h3
    subst h1 h2 h3
    refine ⟨rfl, fun _ => ⟨_, rfl, (hlt g rfl).2, fun i hi j hj => ?_⟩⟩
    have e1 := h.1.cells (g := g) rfl (i * size + j)
    have e2 := flatL_get h.2 i hi j hj
    have hx : (xs.getD i #[]).size = size := h.2 _ (by rw [List.getD_eq_getElem?_getD, List.getElem?_eq_getElem hi]; exact List.getElem_mem hi)
    rw [← e2, addr_add_add]
    have e3 : (xs.getD i #[])[j]? = some ((xs.getD i #[])[j]'(by omega)) := Array.getElem?_eq_getElem (by omega)
    rw [e3] at e2
    rw [e2]
    exact e1 _ e2
theorem OutRow.kept (h : OutRow w base e size v xs) {B : Nat} (hb : Below B w w') (hB : w.heap.size ≤ B) : OutRow w' base e size v xs := by
  refine ⟨⟨h.1.1, ?_⟩, h.2⟩
  rcases h.1.2 with hn | ⟨g, cap, cur, rfl, hbg, hgg, rest⟩
  · exact .inl hn
  · exact .inr ⟨g, cap, cur, rfl, hbg, (hb.block g (Nat.lt_of_lt_of_le (Array.getElem?_eq_some_iff.1 hgg).1 hB)).trans hgg, rest⟩
theorem OutRow.lower {b' : Nat} (h : OutRow w base e size v xs) (hb : b' ≤ base) : OutRow w b' e size v xs := by
  refine ⟨⟨h.1.1, ?_⟩, h.2⟩
  rcases h.1.2 with hn | ⟨g, cap, cur, rfl, hbg, hgg, rest⟩
  · exact .inl hn
  · exact .inr ⟨g, cap, cur, rfl, Nat.le_trans hb hbg, hgg, rest⟩
theorem OutRow.later (h : OutRow w base e size v xs) (hb : Below w.heap.size w w') : OutRow w' base e size v xs := h.kept hb (Nat.le_refl _)
theorem OutRow.alloc (h : OutRow w base e size v xs) (o : Obj) : OutRow (w.alloc o) base e size v xs := ⟨h.1.alloc o, h.2⟩
theorem OutRow.drewN (h : OutRow w base e size v xs) (n : Nat) : OutRow (w.drewN n) base e size v xs := h
/-- A store below base changes nothing of it. -/
theorem OutRow.far (h : OutRow w base e size v xs) {a : Addr} (ha : a.block < base) (u : Value) : OutRow (w.setCell a u) base e size v xs := by
  refine ⟨⟨h.1.1, ?_⟩, h.2⟩
  rcases h.1.2 with hn | ⟨g, cap, cur, rfl, hbg, hgg, rest⟩
  · exact .inl hn
  · exact .inr ⟨g, cap, cur, rfl, hbg, (Below.heap_setCell w a u g (by omega)).trans hgg, rest⟩
end

theorem getD_map_range {f : Nat → Array Value} {n i : Nat} (h : i < n) : ((List.range n).map f).getD i #[] = f i := by
  rw [List.getD_eq_getElem?_getD, List.getElem?_map, List.getElem?_range h]
  rfl
theorem OutRow.strip_map {w : World} {base : Nat} {e : TypeId} {size : Nat} {A : Option Addr} {n c m : Nat} {f : Nat → Array Value} (h : OutRow w base e size (.slice A n c) ((List.range m).map f)) : n = m ∧ Strip w A n size f := by
  obtain ⟨h1, h2⟩ := h.strip
  have h3 : n = m := by simpa using h1
  subst h3
  refine ⟨rfl, fun h0 => ?_⟩
  obtain ⟨ad, e, hl, hcc⟩ := h2 h0
  exact ⟨ad, e, hl, fun i hi j hj => (hcc i hi j hj).trans (congrArg (·[j]?) (getD_map_range hi))⟩
/-- What is known of an element's type. -/
def Info (P : Program) (e : TypeId) (z : Value) (size bytes : Nat) : Prop := (P.info? e).map (fun i => (i.zero, i.size, i.bytes)) = some (some z, size, bytes)

theorem wpList_app {P : Program} (w : World) {ops : Array Oper} {rest : List Oper} {o : Oper} {a : Act} {Q : Exit → Act → World → Prop} (hgd : o.guard = none) (s x : Operand) (t : TypeId)
    (ho : o.op = .call { callee := .builtin .append, args := #[s, x], argTypes := #[t, t] })
    (base : Nat) (e : TypeId) (z : Value) (size bytes : Nat) (ht : P.underlying t = some (.slice e)) (hi : Info P e z size bytes) (hzs : z.cells.size = size) (hsz : 0 < size)
    (v : Value) (xs : List (Array Value)) (hs : a.eval s = v) (hown : OutRow w base e size v xs)
    (g c : Nat) (r : Array Value) (hx : a.eval x = .slice (some ⟨g, 0, none⟩) 1 c) (hr : r.size = size) (hcell : ∀ j u, r.toList[j]? = some u → w.cell? ((⟨g, 0, none⟩ : Addr).add j) = some u) (h1 : ∀ u ∈ r.toList, u.oneCell' = true)
    (hn : xs.length ≤ 100000) (hby : bytes ≤ 1000) (hbase : base ≤ w.heap.size)
    (h : ∀ v' w', OutRow w' base e size v' (xs ++ [r]) → w.grownBy w' v.ownBlock → (∀ B, B ≤ base → Below B w w') → wpList P ops Q rest (a.put o.dst v') w') :
    wpList P ops Q (o :: rest) a w := by
  obtain ⟨i, hi1, hi2, hi3, hi4⟩ := info_parts hi
  have hb2 : (xs.length + 1) * bytes ≤ 140737488355328 := Nat.le_trans (Nat.mul_le_mul (show xs.length + 1 ≤ 100001 by omega) hby) (by omega)
  refine wpList_append_own_at w hgd s x t ho base e i z size bytes ht hi1 hi2 hi3 hi4 hzs hsz v xs.length (flatL xs) hs hown.1 ⟨g, 0, none⟩ 1 c r.toList hx (by simp [hr]) hcell h1 (by unfold maxLen; omega) hb2 hbase ?_
  intro v' w' h2 h3 _ _
  refine h v' w' ⟨?_, fun y hy => ?_⟩ h3 fun B hB => (Below.refl B w).grown h3 (Nat.le_trans hB hbase) fun k hk => Nat.le_trans hB (hown.1.lt k hk).1
  · rw [flatL_snoc, List.length_append]
    exact h2
  · rcases List.mem_append.1 hy with hy | hy
    · exact hown.2 y hy
    · rw [List.mem_singleton.1 hy]
      exact hr
/-- A block that was laid holds its row. -/
theorem new_row (w : World) (r : Array Value) (t : TypeId) : ∀ j u, r.toList[j]? = some u → (w.alloc (.cells r t)).cell? ((⟨w.heap.size, 0, none⟩ : Addr).add j) = some u := by
  intro j u hj
  rw [addr_add, Nat.zero_add, World.cell?_alloc_new]
  simpa using hj
theorem new_row' (w : World) {g : Nat} (r : Array Value) (t : TypeId) (hg : g = w.heap.size) : ∀ j u, r.toList[j]? = some u → (w.alloc (.cells r t)).cell? ((⟨g, 0, none⟩ : Addr).add j) = some u := by
  subst hg
  exact new_row w r t
theorem bcellC {W w1 : World} {C : Nat} (hb : Below C W w1) : (∀ b o, b < C → w1.cell? ⟨b, o, none⟩ = W.cell? ⟨b, o, none⟩) ∧ (∀ b o, b < C → w1.frozen? ⟨b, o, none⟩ = W.frozen? ⟨b, o, none⟩) :=
  ⟨fun b o h => hb.cell (p := ⟨b, o, none⟩) h, fun b o h => hb.frozen (p := ⟨b, o, none⟩) h⟩
theorem rows_snoc (n : Nat) (row : Nat → Array Value) (r : Array Value) : (List.range n).map row ++ [r] = (List.range (n + 1)).map fun i => if i < n then row i else r := by
  rw [List.range_succ, List.map_append]
  congr 1
  · refine List.map_congr_left fun i hi => ?_
    rw [if_pos (List.mem_range.1 hi)]
  · simp
theorem row_cells {w : World} {B : Nat} {r : Array Value} (h : Row w B r) : ∀ j u, r.toList[j]? = some u → w.cell? ((⟨B, 0, none⟩ : Addr).add j) = some u := by
  intro j u hj
  rw [addr_add, Nat.zero_add, h.1]
  simpa using hj
theorem OutRow.drew {w : World} {base : Nat} {e : TypeId} {size : Nat} {v : Value} {xs : List (Array Value)} (h : OutRow w base e size v xs) : OutRow w.drew base e size v xs := h
theorem step_add {P : Program} {ops : Array Oper} {o : Oper} {a : Act} {w : World} {K : Act → World → Prop} {Q : Exit → Act → World → Prop} {E : Prop} (hgd : o.guard = none) (s x : Operand) (t : TypeId)
    (ho : o.op = .call { callee := .builtin .append, args := #[s, x], argTypes := #[t, t] })
    (base : Nat) (e : TypeId) (z : Value) (size bytes : Nat) (ht : P.underlying t = some (.slice e)) (hi : Info P e z size bytes) (hzs : z.cells.size = size) (hsz : 0 < size)
    (v : Value) (xs : List (Array Value)) (hs : a.eval s = v) (hown : OutRow w base e size v xs)
    (g c : Nat) (r : Array Value) (hx : a.eval x = .slice (some ⟨g, 0, none⟩) 1 c) (hr : r.size = size) (hcell : ∀ j u, r.toList[j]? = some u → w.cell? ((⟨g, 0, none⟩ : Addr).add j) = some u) (h1 : ∀ u ∈ r.toList, u.oneCell' = true)
    (hn : xs.length ≤ 100000) (hby : bytes ≤ 1000) (hbase : base ≤ w.heap.size)
    (h : ∀ v' w', OutRow w' base e size v' (xs ++ [r]) → w.grownBy w' v.ownBlock → Below base w w' → K (a.put o.dst v') w') :
    if Region.wanted o (yielded ops a.tmps) = true then Oper.wp P o a w K Q else E := by
  have hw : Region.wanted o (yielded ops a.tmps) = true := by simp [Region.wanted, hgd]
  rw [if_pos hw]
  obtain ⟨i, hi1, hi2, hi3, hi4⟩ := info_parts hi
  have hb2 : (xs.length + 1) * bytes ≤ 140737488355328 := Nat.le_trans (Nat.mul_le_mul (show xs.length + 1 ≤ 100001 by omega) hby) (by omega)
  obtain ⟨v', w', hrun, h2, h3, _, _⟩ := run_append_own_at (P := P) w base t o.type e i z size bytes ht hi1 hi2 hi3 hi4 hzs hsz v xs.length (flatL xs) hown.1 ⟨g, 0, none⟩ 1 c r.toList (by simp [hr]) hcell h1 (by unfold maxLen; omega) hb2 hbase
  unfold Oper.wp execOp
  simp only [ho, resolve, invoke, builtin, Sem.run_bind, Sem.run_pure, Result.andThen_ok, List.map_toArray, List.map_cons, List.map_nil, hs, hx, hrun]
  refine h v' w' ⟨?_, fun y hy => ?_⟩ h3 ((Below.refl base w).grown h3 hbase fun k hk => (hown.1.lt k hk).1)
  · rw [flatL_snoc, List.length_append]
    exact h2
  · rcases List.mem_append.1 hy with hy | hy
    · exact hown.2 y hy
    · rw [List.mem_singleton.1 hy]
      exact hr
theorem step_copy {P : Program} {ops : Array Oper} {o : Oper} {a : Act} {w : World} {K : Act → World → Prop} {Q : Exit → Act → World → Prop} {E : Prop} (hgd : o.guard = none) (s x : Operand) (t : TypeId)
    (ho : o.op = .call { callee := .builtin .append, args := #[s, x], argTypes := #[t, t] })
    (base : Nat) (e : TypeId) (z : Value) (size bytes : Nat) (ht : P.underlying t = some (.slice e)) (hi : Info P e z size bytes) (hzs : z.cells.size = size) (hsz : 0 < size)
    (hs : a.eval s = .slice none 0 0) (A : Option Addr) (n c : Nat) (row : Nat → Array Value) (hx : a.eval x = .slice A n c) (hst : Strip w A n size row) (hrow : ∀ i, (row i).size = size) (h1 : ∀ i, ∀ u ∈ (row i).toList, u.oneCell' = true)
    (hn : n ≤ 100000) (hby : bytes ≤ 1000) (hbase : base ≤ w.heap.size)
    (h : ∀ v' w', OutRow w' base e size v' ((List.range n).map row) → Below w.heap.size w w' → K (a.put o.dst v') w') :
    if Region.wanted o (yielded ops a.tmps) = true then Oper.wp P o a w K Q else E := by
  have hw : Region.wanted o (yielded ops a.tmps) = true := by simp [Region.wanted, hgd]
  rw [if_pos hw]
  obtain ⟨i, hi1, hi2, hi3, hi4⟩ := info_parts hi
  have hsz2 : ∀ y ∈ (List.range n).map row, y.size = size := fun y hy => by
    obtain ⟨j, _, rfl⟩ := List.mem_map.1 hy
    exact hrow j
  have hlen : (flatL ((List.range n).map row)).length = n * size := by
    have : ∀ m, (flatL ((List.range m).map row)).length = m * size := by
      intro m
      induction m with
      | zero => simp [flatL]
      | succ m ih => rw [List.range_succ, List.map_append, List.map_cons, List.map_nil, flatL_snoc, List.length_append, ih, Array.length_toList, hrow, Nat.succ_mul]
    exact this n
  have run : ∃ v' w', (Builtin.append_ #[t, t] o.type #[.slice none 0 0, .slice A n c]).run P w = .ok v' w' ∧ w'.ownsRow base e size v' n (flatL ((List.range n).map row)) ∧ w.grownBy w' none := by
    rcases A with _ | ad
    · have hn0 : n = 0 := by
        rcases Nat.eq_zero_or_pos n with h0 | h0
        · exact h0
        · obtain ⟨ad, h, _⟩ := hst h0
          cases h
      subst hn0
      refine ⟨.slice none 0 0, w, ?_, World.ownsRow_nil w base e size, World.grownBy.refl w _⟩
      simp [Builtin.append_, run_underlying ht, sizeOf, typeInfo, hi1, Builtin.lenOf, Builtin.firstCells]
    · have hcells : ∀ j u, (flatL ((List.range n).map row))[j]? = some u → w.cell? (ad.add j) = some u := by
        intro j u hu
        have hj : j < n * size := by rw [← hlen]; exact (List.getElem?_eq_some_iff.1 hu).1
        have hn0 : 0 < n := by
          rcases Nat.eq_zero_or_pos n with h0 | h0
          · subst h0; simp at hj
          · exact h0
        obtain ⟨ad', e', _, hc⟩ := hst hn0
        injection e' with e'
        subst e'
        have hd : j / size < n := (Nat.div_lt_iff_lt_mul hsz).2 hj
        have hm : j % size < size := Nat.mod_lt _ hsz
        have hjj : j / size * size + j % size = j := by rw [Nat.mul_comm]; exact Nat.div_add_mod j size
        have h2 := flatL_get hsz2 (j / size) (by simpa using hd) (j % size) hm
        rw [hjj, getD_map_range hd] at h2
        have h3 := hc (j / size) hd (j % size) hm
        rw [addr_add_add, hjj] at h3
        rw [h3, ← h2]
        exact hu
      have hones : ∀ u ∈ flatL ((List.range n).map row), u.oneCell' = true := fun u hu => by
        obtain ⟨y, hy, hu⟩ := List.mem_flatMap.1 hu
        obtain ⟨j, _, rfl⟩ := List.mem_map.1 hy
        exact h1 j u hu
      have hb2 : (0 + n) * bytes ≤ 140737488355328 := Nat.le_trans (Nat.mul_le_mul (show 0 + n ≤ 100001 by omega) hby) (by omega)
      obtain ⟨v', w', hrun, h2, h3, _, _⟩ := run_append_own_at (P := P) w base t o.type e i z size bytes ht hi1 hi2 hi3 hi4 hzs hsz (.slice none 0 0) 0 [] (World.ownsRow_nil w base e size) ad n c (flatL ((List.range n).map row)) hlen hcells hones (by unfold maxLen; omega) hb2 hbase
      exact ⟨v', w', hrun, by simpa using h2, by simpa [Value.ownBlock] using h3⟩
  obtain ⟨v', w', hrun, h2, h3⟩ := run
  unfold Oper.wp execOp
  simp only [ho, resolve, invoke, builtin, Sem.run_bind, Sem.run_pure, Result.andThen_ok, List.map_toArray, List.map_cons, List.map_nil, hs, hx, hrun]
  exact h v' w' ⟨by simpa using h2, hsz2⟩ ((Below.refl _ w).grown h3 (Nat.le_refl _) fun k hk => by cases hk)

/-! ### Steps of a region that is walked in one order -/
section
variable {P : Program} {ops : Array Oper} {Q : Exit → Act → World → Prop} {ks l : List Nat} {i : Nat} {o : Oper} {a : Act} {w : World}
/-- An operation that yields a value, and makes memory. -/
theorem s_fresh {v : Value} {w' : World} (ho : ops[i]? = some o) (hk : ks[i]? = some 1) (hw : Region.wanted o (yielded ops a.tmps) = true) (hrun : (execOp a.eval o).run P w = .ok (.value v) w') (hb : Below w.heap.size w w') (hn : wpSeq P ops Q ks l (a.put o.dst v) w') : wpSeq P ops Q ks (i :: l) a w := by
  simp only [wpSeq, ho, hk]
  rw [if_pos hw, hrun]
  exact ⟨hb, hn⟩
/-- An operation that does anything. -/
theorem s_do {v : Value} {w' : World} (ho : ops[i]? = some o) (hk : ks[i]? = some 2) (hw : Region.wanted o (yielded ops a.tmps) = true) (hrun : (execOp a.eval o).run P w = .ok (.value v) w') (hn : wpSeq P ops Q ks l (a.put o.dst v) w') : wpSeq P ops Q ks (i :: l) a w := by
  refine s_any ho hk ?_
  unfold wpOp
  simp only [ho]
  rw [if_pos hw]
  refine .inl ?_
  unfold Oper.wp
  rw [hrun]
  exact hn
/-- A store. -/
theorem s_store {w' : World} (ho : ops[i]? = some o) (hk : ks[i]? = some 2) (hw : Region.wanted o (yielded ops a.tmps) = true) (hd : o.dst = none) (hrun : (execOp a.eval o).run P w = .ok .skip w') (hn : wpSeq P ops Q ks l a w') : wpSeq P ops Q ks (i :: l) a w := by
  refine s_any ho hk ?_
  unfold wpOp
  simp only [ho]
  rw [if_pos hw]
  refine .inl ?_
  unfold Oper.wp
  rw [hrun]
  show wpSeq P ops Q ks l (a.put o.dst undef) w'
  rw [hd]
  exact hn
/-- A call that does anything. -/
theorem s_do_call {f : FuncId} {fn : Func} {as : Array Operand} {ts : Array TypeId} {args : Array Value} {R : Value → World → Prop} (hc : Calls P f args w fun e w' => ∃ v, e = .returned v ∧ R v w') (hf : P.funcs[f]? = some fn) (hname : (fn.name == "runtime.NumGoroutine") = false) (hb : fn.body.isSome = true)
    (ho : ops[i]? = some o) (hk : ks[i]? = some 2) (hop : o.op = .call { callee := .value (.func f), args := as, argTypes := ts }) (hw : Region.wanted o (yielded ops a.tmps) = true) (hargs : as.map a.eval = args) (hn : ∀ v w', R v w' → wpSeq P ops Q ks l (a.put o.dst v) w') : wpSeq P ops Q ks (i :: l) a w := by
  refine s_any ho hk ?_
  unfold wpOp
  simp only [ho]
  rw [if_pos hw]
  refine .inl ?_
  have h1 : fn.name ≠ "runtime.NumGoroutine" := by simpa using hname
  obtain ⟨c, hc'⟩ := Option.isSome_iff_exists.1 hb
  have he : (callFunc f args).run P w = .ok (.enter f args) w := by simp [callFunc, hf, h1, hc']
  have hrun : (execOp a.eval o).run P w = .ok (.enter f args) w := by
    unfold execOp
    simp [hop, resolve, Deferred.ofValue, invoke, Act.eval, hargs, he]
  unfold Oper.wp
  rw [hrun]
  exact hc.mono fun e w' ⟨v, h1, h2⟩ => by subst h1; exact hn v w' h2
end
theorem seq_reg {P : Program} {Q : Exit → Act → World → Prop} {id : Nat} {l : List Oper} {a : Act} {w : World} (ord ks : List Nat) (hm : P.follows .mixedOrders = true) (s0 : Nat) (h0 : s0 = a.tmps.size)
    (hchk : (Region.noSelect l.toArray && (List.range l.length).all ord.contains && seqOk l.toArray ks s0 [] ord) = true)
    (h : ∀ wd, Below w.heap.size w wd → wd.heap = w.heap → wpSeq P l.toArray Q ks ord a wd) : (Code.region id l.toArray true).wp P Q a w :=
  seq_region ord ks hm s0 h0 hchk (h _ ⟨rfl, rfl, rfl, Nat.le_refl _, fun _ _ => rfl⟩ rfl)
end Go.Proofs.Yteaipeejhippiaa
