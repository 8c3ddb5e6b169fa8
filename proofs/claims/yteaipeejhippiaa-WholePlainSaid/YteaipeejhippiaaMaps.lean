/- Maps that a call makes: a block of entries as a function from keys to elements; look-up and store. -/
import Derived.Test.YteaipeejhippiaaOwn
import Derived.Maps.Own
import Derived.DeepKeys4
namespace Go.Proofs.Yteaipeejhippiaa
open Go.RowKit Go.ChangeMaps Go.MapKept
open Go.Maps (Keyed)
set_option linter.unusedVariables false

/-- Block b is a map of at most n entries, whose elements f tells by their keys. -/
def MapOf (P : Program) (k : TypeId) (w : World) (b n : Nat) (f : Value → Option Value) : Prop :=
  ∃ es clock, w.heap[b]? = some (.map es clock) ∧ es.size ≤ n ∧ (∀ e ∈ es.toList, ∃ l, keyOf P k e.key = some l) ∧ (∀ e ∈ es.toList, f e.key = some e.val) ∧ (∀ x v, f x = some v → ∃ e ∈ es.toList, e.key = x) ∧ es.toList.Pairwise (fun a b => a.key ≠ b.key)
section
variable {P : Program} {k : TypeId} {w w' : World} {b n : Nat} {f : Value → Option Value}
theorem MapOf.made (w : World) (P : Program) (k : TypeId) : MapOf P k (w.alloc (.map #[] 0)) w.heap.size 0 (fun _ => none) := by
  refine ⟨#[], 0, (MapKept.heap_alloc w _).1, Nat.le_refl _, ?_, ?_, ?_, ?_⟩
  · simp
  · simp
  · intro x v h
    cases h
  · simp
theorem MapOf.lt (h : MapOf P k w b n f) : b < w.heap.size := by
  obtain ⟨es, c, hb, _⟩ := h
  exact (Array.getElem?_eq_some_iff.1 hb).1
theorem MapOf.of_block (h : MapOf P k w b n f) (e : w'.heap[b]? = w.heap[b]?) : MapOf P k w' b n f := by
  obtain ⟨es, c, hb, rest⟩ := h
  exact ⟨es, c, e.trans hb, rest⟩
theorem MapOf.later (h : MapOf P k w b n f) (hb : Below w.heap.size w w') : MapOf P k w' b n f := h.of_block (hb.block b h.lt)
theorem MapOf.grown {row : Option Nat} (h : MapOf P k w b n f) (hg : w.grownBy w' row) (hne : some b ≠ row) : MapOf P k w' b n f := h.of_block (hg.block b h.lt hne)
theorem MapOf.alloc (h : MapOf P k w b n f) (o : Obj) : MapOf P k (w.alloc o) b n f := h.of_block (Below.heap_alloc w o b h.lt)
theorem MapOf.far (h : MapOf P k w b n f) {p : Addr} (hp : b ≠ p.block) (u : Value) : MapOf P k (w.setCell p u) b n f := h.of_block (Below.heap_setCell w p u b hp)
theorem MapOf.drew (h : MapOf P k w b n f) : MapOf P k w.drew b n f := h
theorem MapOf.mono (h : MapOf P k w b n f) {n' : Nat} (hn : n ≤ n') : MapOf P k w b n' f := by
  obtain ⟨es, c, hb, hs, rest⟩ := h
  exact ⟨es, c, hb, Nat.le_trans hs hn, rest⟩
theorem MapOf.congr {g : Value → Option Value} (h : MapOf P k w b n f) (e : f = g) : MapOf P k w b n g := e ▸ h
/-- Such a block holds no cells. -/
theorem MapOf.no_cells (h : MapOf P k w b n f) (i : Nat) : w.cell? ⟨b, i, none⟩ = none := by
  obtain ⟨es, c, hb, _⟩ := h
  simp [World.cell?, hb]
theorem MapOf.look {t e : TypeId} (h : MapOf P k w b n f) (K : Keyed P k) (ht : P.underlying t = some (.map k e)) {z : Value} (hz : (zeroValue e).run P w = .ok z w) {key : Value} {kl : Lit} (hkey : keyOf P k key = some kl) (c : Bool) :
    (Instr.lookup t (.map (some b)) key c).run P w = .ok (if c then .tuple #[(f key).getD z, .bool (f key).isSome] else (f key).getD z) w := by
  obtain ⟨es, clock, hb, hs, hks, h1, h2, h3⟩ := h
  rcases K.find w hkey es.toList hks with ⟨a1, a2⟩ | ⟨j, e0, a1, a2, a3⟩
  · have hn : f key = none := by
      cases hf : f key with
      | none => rfl
      | some v =>
        obtain ⟨e, he, hk⟩ := h2 _ _ hf
        exact absurd hk (a2 e he)
    cases c <;> simp [Instr.lookup, run_underlying ht, MapKept.run_getObj_map hb, K.check w _ hkey, a1, hz, Result.andThen, hn]
  · have hf : f key = some e0.val := by
      rw [← a3]
      exact h1 _ (List.mem_of_getElem? a2)
    cases c <;> simp [Instr.lookup, run_underlying ht, MapKept.run_getObj_map hb, K.check w _ hkey, a1, Result.andThen, hf]
/-- One element laid at a key. -/
noncomputable def lay (f : Value → Option Value) (key val : Value) : Value → Option Value := open Classical in fun x => if x = key then some val else f x
theorem lay_same (f : Value → Option Value) (key val : Value) : lay f key val key = some val := by simp [lay]
theorem lay_other (f : Value → Option Value) {key x : Value} (val : Value) (h : x ≠ key) : lay f key val x = f x := by simp [lay, h]
theorem MapOf.store {t e : TypeId} (h : MapOf P k w b n f) (K : Keyed P k) (ht : P.underlying t = some (.map k e)) {key val : Value} {kl : Lit} (hkey : keyOf P k key = some kl) :
    ∃ w', (Instr.mapUpdate t (.map (some b)) key val).run P w = .ok () w' ∧ MapOf P k w' b (n + 1) (lay f key val) ∧ w.grownBy w' (some b) := by
  obtain ⟨es, clock, hb, hs, hks, h1, h2, h3⟩ := h
  rcases K.find w hkey es.toList hks with ⟨a1, a2⟩ | ⟨j, e0, a1, a2, a3⟩
  · refine ⟨setBlock w b (.map (es.push ⟨key, val, clock⟩) (clock + 1)), ?_, ⟨_, _, heap_setBlock_same hb _, by simp; omega, ?_, ?_, ?_, ?_⟩, ⟨rfl, rfl, rfl, by simp [setBlock], fun i _ hi => heap_setBlock_other hb _ (fun e => hi (by rw [e]))⟩⟩
    · simp [Instr.mapUpdate, run_underlying ht, MapKept.run_getObj_map hb, K.check w false hkey, a1, MapKept.run_setObj_map _ hb, Result.andThen, setBlock]
    · intro x hx
      simp only [Array.toList_push, List.mem_append, List.mem_singleton] at hx
      rcases hx with hx | rfl
      · exact hks x hx
      · exact ⟨_, hkey⟩
    · intro x hx
      simp only [Array.toList_push, List.mem_append, List.mem_singleton] at hx
      rcases hx with hx | rfl
      · rw [lay_other _ _ (a2 x hx)]
        exact h1 x hx
      · exact lay_same _ _ _
    · intro x v hv
      by_cases e : x = key
      · exact ⟨⟨key, val, clock⟩, by simp, e.symm⟩
      · rw [lay_other _ _ e] at hv
        obtain ⟨y, hy, hk⟩ := h2 _ _ hv
        exact ⟨y, by simp [hy], hk⟩
    · rw [Array.toList_push, List.pairwise_append]
      refine ⟨h3, by simp, fun x hx y hy => ?_⟩
      rw [List.mem_singleton.1 hy]
      exact a2 x hx
  · have hj : es[j]? = some e0 := by simpa using a2
    have hjl : j < es.toList.length := (List.getElem?_eq_some_iff.1 a2).1
    have hlist : (es.modify j (fun e' => { e' with key := key, val := val })).toList = es.toList.set j { e0 with key := key, val := val } := by rw [Array.toList_modify, modify_eq_set _ _ _ _ a2]
    have who : ∀ x ∈ es.toList.set j { e0 with key := key, val := val }, x = { e0 with key := key, val := val } ∨ (x ∈ es.toList ∧ x.key ≠ key) := by
      intro x hx
      obtain ⟨i, hi, ex⟩ := List.getElem_of_mem hx
      rw [List.getElem_set] at ex
      split at ex
      · exact Or.inl ex.symm
      · rename_i hne
        have hi' : i < es.toList.length := by simpa using hi
        refine Or.inr ⟨ex ▸ List.getElem_mem hi', ?_⟩
        have hp := List.pairwise_iff_getElem.1 h3
        have e1 : es.toList[j] = e0 := by
          rw [List.getElem?_eq_getElem hjl] at a2
          exact Option.some.inj a2
        rcases Nat.lt_or_ge i j with hl | hl
        · have := hp i j hi' hjl hl
          rw [e1, a3, ex] at this
          exact this
        · have := hp j i hjl hi' (by omega)
          rw [e1, a3, ex] at this
          exact fun h => this h.symm
    refine ⟨setBlock w b (.map (es.modify j (fun e' => { e' with key := key, val := val })) clock), ?_, ⟨_, _, heap_setBlock_same hb _, by simp; omega, ?_, ?_, ?_, ?_⟩, ⟨rfl, rfl, rfl, by simp [setBlock], fun i _ hi => heap_setBlock_other hb _ (fun e => hi (by rw [e]))⟩⟩
    · simp [Instr.mapUpdate, run_underlying ht, MapKept.run_getObj_map hb, K.check w false hkey, a1, hj, a3, K.stays w hkey, MapKept.run_setObj_map _ hb, Result.andThen, setBlock]
    · intro x hx
      rw [hlist] at hx
      rcases who x hx with rfl | ⟨hx', _⟩
      · exact ⟨_, hkey⟩
      · exact hks x hx'
    · intro x hx
      rw [hlist] at hx
      rcases who x hx with rfl | ⟨hx', hne⟩
      · exact lay_same _ _ _
      · rw [lay_other _ _ hne]
        exact h1 x hx'
    · intro x v hv
      rw [hlist]
      by_cases e : x = key
      · exact ⟨{ e0 with key := key, val := val }, List.mem_iff_getElem.2 ⟨j, by simpa using hjl, by simp⟩, e.symm⟩
      · rw [lay_other _ _ e] at hv
        obtain ⟨y, hy, hk⟩ := h2 _ _ hv
        obtain ⟨i, hi, ey⟩ := List.getElem_of_mem hy
        refine ⟨y, List.mem_iff_getElem.2 ⟨i, by simpa using hi, ?_⟩, hk⟩
        rw [List.getElem_set_ne (by
          rintro rfl
          rw [List.getElem?_eq_getElem hjl] at a2
          have e1 := Option.some.inj a2
          rw [e1] at ey
          rw [← ey] at hk
          exact e (hk.symm.trans a3))]
        exact ey
    · rw [hlist]
      have hkeys : (es.toList.set j { e0 with key := key, val := val }).map (·.key) = es.toList.map (·.key) := by
        rw [List.map_set]
        refine List.ext_getElem (by simp) fun i h1' h2' => ?_
        rw [List.getElem_set]
        split
        · rename_i hji
          subst hji
          rw [List.getElem?_eq_getElem hjl] at a2
          have e1 := Option.some.inj a2
          simp only [List.getElem_map]
          rw [e1]
          exact a3.symm
        · rfl
      have h4 := List.pairwise_map.2 h3
      rw [← hkeys] at h4
      exact List.pairwise_map.1 h4
end

/-! ### At the operation -/
theorem wpList_look {P : Program} (w : World) {ops : Array Oper} {rest : List Oper} {o : Oper} {a : Act} {Q : Exit → Act → World → Prop} (hg : o.guard = none) (m x : Operand) (t : TypeId) (c : Bool) (hop : o.op = Op.lookup t m x c)
    (k e : TypeId) (K : Keyed P k) (ht : P.underlying t = some (.map k e)) (b n : Nat) (f : Value → Option Value) (z : Value) (hz : (zeroValue e).run P w = .ok z w) (hm : a.eval m = .map (some b)) (h : MapOf P k w b n f) (key : Value) (hx : a.eval x = key) (hkey : ∃ kl, keyOf P k key = some kl)
    (hK : wpList P ops Q rest (a.put o.dst (if c then .tuple #[(f key).getD z, .bool (f key).isSome] else (f key).getD z)) w) : wpList P ops Q (o :: rest) a w := by
  obtain ⟨kl, hkey⟩ := hkey
  refine wpList_plain hg fun K' hK' => ?_
  unfold Oper.wp
  simp only [execOp, hop, hm, hx, Sem.run_bind, Sem.run_pure, h.look K ht hz hkey c, Result.andThen_ok]
  exact hK' _ _ hK
theorem wpList_store {P : Program} (w : World) {ops : Array Oper} {rest : List Oper} {o : Oper} {a : Act} {Q : Exit → Act → World → Prop} (hg : o.guard = none) (m x v : Operand) (t : TypeId) (hop : o.op = Op.mapUpdate t m x v)
    (k e : TypeId) (K : Keyed P k) (ht : P.underlying t = some (.map k e)) (b n : Nat) (f : Value → Option Value) (hm : a.eval m = .map (some b)) (h : MapOf P k w b n f) (key val : Value) (hx : a.eval x = key) (hv : a.eval v = val) (hkey : ∃ kl, keyOf P k key = some kl)
    (hK : ∀ w', MapOf P k w' b (n + 1) (lay f key val) → w.grownBy w' (some b) → wpList P ops Q rest (a.put o.dst undef) w') : wpList P ops Q (o :: rest) a w := by
  obtain ⟨kl, hkey⟩ := hkey
  refine wpList_plain hg fun K' hK' => ?_
  obtain ⟨w', hrun, r1, r2⟩ := h.store K ht (val := val) hkey
  unfold Oper.wp
  simp [execOp, hop, hm, hx, hv, hrun, Result.andThen]
  exact hK' _ _ (hK w' r1 r2)
end Go.Proofs.Yteaipeejhippiaa
