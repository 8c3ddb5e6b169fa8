/- Slices that the call itself makes, row by row: append of one row; how such a slice reads. -/
import Derived.Test.YtmomndeknpochaaSmall
import Derived.Maps.AppendAt
import Derived.Laws.OwnMore
import Derived.OwnWalk
namespace Go.Proofs.Ytmomndeknpochaa
open Go.RowKit

theorem addr_add (b o j : Nat) : (⟨b, o, none⟩ : Addr).add j = ⟨b, o + j, none⟩ := by unfold Addr.add; split <;> simp_all
theorem addr_add_add (a : Addr) (i j : Nat) : (a.add i).add j = a.add (i + j) := by
  unfold Addr.add
  by_cases h1 : i = 0 <;> by_cases h2 : j = 0
  · simp [h1, h2]
  · simp [h1, h2]
  · simp [h1, h2]
  · simp only [h1, h2, ↓reduceIte]
    rw [if_neg (by omega)]
    simp
/-- The rows, one behind the other. -/
def flatL (xs : List (Array Value)) : List Value := xs.flatMap Array.toList
theorem flatL_snoc (xs : List (Array Value)) (r : Array Value) : flatL (xs ++ [r]) = flatL xs ++ r.toList := by simp [flatL]
theorem flatL_get {size : Nat} : ∀ {xs : List (Array Value)}, (∀ x ∈ xs, x.size = size) → ∀ i, i < xs.length → ∀ j, j < size → (flatL xs)[i * size + j]? = (xs.getD i #[])[j]?
  | x :: xs, h, 0, _, j, hj => by
    have hx := h x (List.mem_cons_self ..)
    simp only [flatL, List.flatMap_cons, Nat.zero_mul, Nat.zero_add, List.getD_cons_zero]
    rw [List.getElem?_append_left (by simpa [hx] using hj)]
    simp
  | x :: xs, h, i + 1, hi, j, hj => by
    have hx := h x (List.mem_cons_self ..)
    have := flatL_get (fun y hy => h y (List.mem_cons_of_mem _ hy)) i (by simpa using hi) j hj
    simp only [List.getD_cons_succ]
    rw [← this]
    simp only [flatL, List.flatMap_cons]
    rw [List.getElem?_append_right (by rw [Array.length_toList, hx, Nat.add_mul]; omega)]
    congr 1
    rw [Array.length_toList, hx, Nat.add_mul]
    omega
/-- The slice v is the call's own, in blocks from base on, and reads as the rows xs. -/
def OutRow (w : World) (base : Nat) (e : TypeId) (size : Nat) (v : Value) (xs : List (Array Value)) : Prop :=
  w.ownsRow base e size v xs.length (flatL xs) ∧ ∀ x ∈ xs, x.size = size
section
variable {w w' : World} {base : Nat} {e : TypeId} {size : Nat} {v : Value} {xs : List (Array Value)}
theorem OutRow.nil (w : World) (base : Nat) (e : TypeId) (size : Nat) : OutRow w base e size (.slice none 0 0) [] := ⟨World.ownsRow_nil w base e size, fun _ h => by cases h⟩
theorem OutRow.form (h : OutRow w base e size v xs) : ∃ A c, v = .slice A xs.length c := by
  rcases h.1.2 with ⟨rfl, h0⟩ | ⟨g, cap, cur, rfl, _⟩
  · exact ⟨none, 0, by rw [h0]⟩
  · exact ⟨_, _, rfl⟩
theorem OutRow.strip {A : Option Addr} {n c : Nat} (h : OutRow w base e size (.slice A n c) xs) : n = xs.length ∧ Strip w A n size (fun i => xs.getD i #[]) := by
  have hlt := h.1.lt
  rcases h.1.2 with ⟨h1, h0⟩ | ⟨g, cap, cur, h1, hb, hg, _⟩
  · injection h1 with h1 h2 h3
    subst h1 h2
    exact ⟨h0.symm, fun h => absurd h (by omega)⟩
  · injection h1 with h1 h2 h3
    subst h1 h2 h3
    refine ⟨rfl, fun _ => ⟨_, rfl, (hlt g rfl).2, fun i hi j hj => ?_⟩⟩
    have e1 := h.1.cells (g := g) rfl (i * size + j)
    have e2 := flatL_get h.2 i hi j hj
    have hx : (xs.getD i #[]).size = size := h.2 _ (by rw [List.getD_eq_getElem?_getD, List.getElem?_eq_getElem hi]; exact List.getElem_mem hi)
    rw [← e2, addr_add_add]
    have e3 : (xs.getD i #[])[j]? = some ((xs.getD i #[])[j]'(by omega)) := Array.getElem?_eq_getElem (by omega)
    rw [e3] at e2
    rw [e2]
    exact e1 _ e2
theorem OutRow.kept (h : OutRow w base e size v xs) {B : Nat} (hb : Below B w w') (hB : w.heap.size ≤ B) : OutRow w' base e size v xs := by
  refine ⟨⟨h.1.1, ?_⟩, h.2⟩
  rcases h.1.2 with hn | ⟨g, cap, cur, rfl, hbg, hgg, rest⟩
  · exact .inl hn
  · exact .inr ⟨g, cap, cur, rfl, hbg, (hb.block g (Nat.lt_of_lt_of_le (Array.getElem?_eq_some_iff.1 hgg).1 hB)).trans hgg, rest⟩
theorem OutRow.lower {b' : Nat} (h : OutRow w base e size v xs) (hb : b' ≤ base) : OutRow w b' e size v xs := by
  refine ⟨⟨h.1.1, ?_⟩, h.2⟩
  rcases h.1.2 with hn | ⟨g, cap, cur, rfl, hbg, hgg, rest⟩
  · exact .inl hn
  · exact .inr ⟨g, cap, cur, rfl, Nat.le_trans hb hbg, hgg, rest⟩
theorem OutRow.later (h : OutRow w base e size v xs) (hb : Below w.heap.size w w') : OutRow w' base e size v xs := h.kept hb (Nat.le_refl _)
theorem OutRow.alloc (h : OutRow w base e size v xs) (o : Obj) : OutRow (w.alloc o) base e size v xs := ⟨h.1.alloc o, h.2⟩
theorem OutRow.drewN (h : OutRow w base e size v xs) (n : Nat) : OutRow (w.drewN n) base e size v xs := h
/-- A store below base changes nothing of it. -/
theorem OutRow.far (h : OutRow w base e size v xs) {a : Addr} (ha : a.block < base) (u : Value) : OutRow (w.setCell a u) base e size v xs := by
  refine ⟨⟨h.1.1, ?_⟩, h.2⟩
  rcases h.1.2 with hn | ⟨g, cap, cur, rfl, hbg, hgg, rest⟩
  · exact .inl hn
  · exact .inr ⟨g, cap, cur, rfl, hbg, (Below.heap_setCell w a u g (by omega)).trans hgg, rest⟩
end

theorem getD_map_range {f : Nat → Array Value} {n i : Nat} (h : i < n) : ((List.range n).map f).getD i #[] = f i := by
  rw [List.getD_eq_getElem?_getD, List.getElem?_map, List.getElem?_range h]
  rfl
theorem OutRow.strip_map {w : World} {base : Nat} {e : TypeId} {size : Nat} {A : Option Addr} {n c m : Nat} {f : Nat → Array Value} (h : OutRow w base e size (.slice A n c) ((List.range m).map f)) : n = m ∧ Strip w A n size f := by
  obtain ⟨h1, h2⟩ := h.strip
  have h3 : n = m := by simpa using h1
  subst h3
  refine ⟨rfl, fun h0 => ?_⟩
  obtain ⟨ad, e, hl, hcc⟩ := h2 h0
  exact ⟨ad, e, hl, fun i hi j hj => (hcc i hi j hj).trans (congrArg (·[j]?) (getD_map_range hi))⟩
/-- What is known of an element's type. -/
def Info (P : Program) (e : TypeId) (z : Value) (size bytes : Nat) : Prop := (P.info? e).map (fun i => (i.zero, i.size, i.bytes)) = some (some z, size, bytes)

theorem wpList_app {P : Program} (w : World) {ops : Array Oper} {rest : List Oper} {o : Oper} {a : Act} {Q : Exit → Act → World → Prop} (hgd : o.guard = none) (s x : Operand) (t : TypeId)
    (ho : o.op = .call { callee := .builtin .append, args := #[s, x], argTypes := #[t, t] })
    (base : Nat) (e : TypeId) (z : Value) (size bytes : Nat) (ht : P.underlying t = some (.slice e)) (hi : Info P e z size bytes) (hzs : z.cells.size = size) (hsz : 0 < size)
    (v : Value) (xs : List (Array Value)) (hs : a.eval s = v) (hown : OutRow w base e size v xs)
    (g c : Nat) (r : Array Value) (hx : a.eval x = .slice (some ⟨g, 0, none⟩) 1 c) (hr : r.size = size) (hcell : ∀ j u, r.toList[j]? = some u → w.cell? ((⟨g, 0, none⟩ : Addr).add j) = some u) (h1 : ∀ u ∈ r.toList, u.oneCell' = true)
    (hn : xs.length ≤ 100000) (hby : bytes ≤ 1000) (hbase : base ≤ w.heap.size)
    (h : ∀ v' w', OutRow w' base e size v' (xs ++ [r]) → w.grownBy w' v.ownBlock → (∀ B, B ≤ base → Below B w w') → wpList P ops Q rest (a.put o.dst v') w') :
    wpList P ops Q (o :: rest) a w := by
  obtain ⟨i, hi1, hi2, hi3, hi4⟩ := info_parts hi
  have hb2 : (xs.length + 1) * bytes ≤ 140737488355328 := Nat.le_trans (Nat.mul_le_mul (show xs.length + 1 ≤ 100001 by omega) hby) (by omega)
  refine wpList_append_own_at w hgd s x t ho base e i z size bytes ht hi1 hi2 hi3 hi4 hzs hsz v xs.length (flatL xs) hs hown.1 ⟨g, 0, none⟩ 1 c r.toList hx (by simp [hr]) hcell h1 (by unfold maxLen; omega) hb2 hbase ?_
  intro v' w' h2 h3 _ _
  refine h v' w' ⟨?_, fun y hy => ?_⟩ h3 fun B hB => (Below.refl B w).grown h3 (Nat.le_trans hB hbase) fun k hk => Nat.le_trans hB (hown.1.lt k hk).1
  · rw [flatL_snoc, List.length_append]
    exact h2
  · rcases List.mem_append.1 hy with hy | hy
    · exact hown.2 y hy
    · rw [List.mem_singleton.1 hy]
      exact hr
/-- A block that was laid holds its row. -/
theorem new_row (w : World) (r : Array Value) (t : TypeId) : ∀ j u, r.toList[j]? = some u → (w.alloc (.cells r t)).cell? ((⟨w.heap.size, 0, none⟩ : Addr).add j) = some u := by
  intro j u hj
  rw [addr_add, Nat.zero_add, World.cell?_alloc_new]
  simpa using hj
theorem new_row' (w : World) {g : Nat} (r : Array Value) (t : TypeId) (hg : g = w.heap.size) : ∀ j u, r.toList[j]? = some u → (w.alloc (.cells r t)).cell? ((⟨g, 0, none⟩ : Addr).add j) = some u := by
  subst hg
  exact new_row w r t
theorem bcellC {W w1 : World} {C : Nat} (hb : Below C W w1) : (∀ b o, b < C → w1.cell? ⟨b, o, none⟩ = W.cell? ⟨b, o, none⟩) ∧ (∀ b o, b < C → w1.frozen? ⟨b, o, none⟩ = W.frozen? ⟨b, o, none⟩) :=
  ⟨fun b o h => hb.cell (p := ⟨b, o, none⟩) h, fun b o h => hb.frozen (p := ⟨b, o, none⟩) h⟩
end Go.Proofs.Ytmomndeknpochaa
