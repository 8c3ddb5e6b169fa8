/- Rows of a call's own that are written in place. -/
import Derived.Test.YteaipeejhippiaaOwn
namespace Go.Proofs.Yteaipeejhippiaa
open Go.RowKit
set_option linter.unusedVariables false

theorem Row.grown {w w' : World} {B : Nat} {xs : Array Value} {row : Option Nat} (h : Row w B xs) (hg : w.grownBy w' row) (hne : some B ≠ row) : Row w' B xs :=
  ⟨fun o => (show w'.cell? ⟨B, o, none⟩ = w.cell? ⟨B, o, none⟩ from World.cell?_of_block (hg.block B h.2.2 hne)).trans (h.1 o), fun o => by
    have e := h.2.1 o
    unfold World.frozen? at e ⊢
    rw [hg.block B h.2.2 hne]
    exact e, Nat.lt_of_lt_of_le h.2.2 hg.size⟩
theorem Strip.grown {w w' : World} {A : Option Addr} {n k : Nat} {f : Nat → Array Value} {row : Option Nat} (h : Strip w A n k f) (hg : w.grownBy w' row) (hne : ∀ ad, A = some ad → some ad.block ≠ row) : Strip w' A n k f := fun h0 => by
  obtain ⟨ad, e, hl, hc⟩ := h h0
  exact ⟨ad, e, Nat.lt_of_lt_of_le hl hg.size, fun i hi j hj => (World.cell?_of_block (by rw [add_block, add_block]; exact hg.block _ hl (hne ad e))).trans (hc i hi j hj)⟩
/-- Cells laid one behind the other. -/
def laid : World → Nat → Nat → List Value → World
  | w, _, _, [] => w
  | w, g, o, u :: r => laid (w.setCell ⟨g, o, none⟩ u) g (o + 1) r
def setsL : List Value → Nat → List Value → List Value
  | l, _, [] => l
  | l, o, u :: r => setsL (l.set o u) (o + 1) r
theorem setsL_length : ∀ (r : List Value) (l : List Value) (o : Nat), (setsL l o r).length = l.length
  | [], _, _ => rfl
  | u :: r, l, o => by rw [setsL, setsL_length r]; simp
theorem setsL_get : ∀ (r : List Value) (l : List Value) (o : Nat), o + r.length ≤ l.length → ∀ k, (setsL l o r)[k]? = if o ≤ k ∧ k < o + r.length then r[k - o]? else l[k]?
  | [], l, o, _, k => by rw [if_neg (by simp only [List.length_nil]; omega)]; rfl
  | u :: r, l, o, h, k => by
    simp only [List.length_cons] at h
    rw [setsL, setsL_get r (l.set o u) (o + 1) (by rw [List.length_set]; omega) k]
    simp only [List.length_cons]
    by_cases e : k = o
    · subst e
      rw [if_neg (by omega), if_pos (by omega), List.getElem?_set_self (by omega), Nat.sub_self]
      rfl
    · by_cases h1 : o + 1 ≤ k ∧ k < o + 1 + r.length
      · rw [if_pos h1, if_pos (by omega)]
        have : k - o = (k - (o + 1)) + 1 := by omega
        rw [this, List.getElem?_cons_succ]
      · rw [if_neg h1, if_neg (by omega), List.getElem?_set_ne (by omega)]
theorem laid_grown : ∀ (r : List Value) (w : World) (g o : Nat), w.grownBy (laid w g o r) (some g)
  | [], w, _, _ => World.grownBy.refl w _
  | u :: r, w, g, o => (grown_setCell (g := g) (p := ⟨g, o, none⟩) (World.grownBy.refl w (some g)) rfl u).trans (laid_grown r _ g (o + 1))
theorem laid_own {base : Nat} {e : TypeId} {size g n c : Nat} : ∀ (r : List Value) {w : World} {xs : List Value} (o : Nat), w.ownsRow base e size (.slice (some ⟨g, 0, none⟩) n c) n xs → (laid w g o r).ownsRow base e size (.slice (some ⟨g, 0, none⟩) n c) n (setsL xs o r)
  | [], _, _, _, h => h
  | u :: r, _, _, o, h => laid_own r (o + 1) (h.stored o u).1
theorem flat_set {size : Nat} {xs : List (Array Value)} (h : ∀ x ∈ xs, x.size = size) {i : Nat} (hi : i < xs.length) {y : Array Value} (hy : y.size = size) (hs : 0 < size) : flatL (xs.set i y) = setsL (flatL xs) (i * size) y.toList := by
  have hlen : ∀ zs : List (Array Value), (∀ x ∈ zs, x.size = size) → (flatL zs).length = zs.length * size := by
    intro zs hz
    induction zs with
    | nil => simp [flatL]
    | cons z zs ih =>
      have := ih fun x hx => hz x (List.mem_cons_of_mem _ hx)
      simp only [flatL, List.flatMap_cons, List.length_append, Array.length_toList, hz z (List.mem_cons_self ..), List.length_cons, Nat.succ_mul] at this ⊢
      omega
  have hset : ∀ x ∈ xs.set i y, x.size = size := fun x hx => by
    rcases List.mem_or_eq_of_mem_set hx with h1 | rfl
    · exact h x h1
    · exact hy
  have hmul : i * size + size ≤ xs.length * size := by rw [← Nat.succ_mul]; exact Nat.mul_le_mul_right _ hi
  refine List.ext_getElem? fun k => ?_
  rw [setsL_get _ _ _ (by rw [hlen xs h, Array.length_toList, hy]; exact hmul)]
  rw [Array.length_toList, hy]
  by_cases hk : k < xs.length * size
  · have hq : k / size < xs.length := (Nat.div_lt_iff_lt_mul hs).2 hk
    have hr : k % size < size := Nat.mod_lt _ hs
    have e : k / size * size + k % size = k := by rw [Nat.mul_comm]; exact Nat.div_add_mod k size
    have e1 := flatL_get hset (k / size) (by rw [List.length_set]; exact hq) (k % size) hr
    have e2 := flatL_get h (k / size) hq (k % size) hr
    rw [e] at e1 e2
    rw [e1]
    by_cases hki : k / size = i
    · subst hki
      rw [if_pos (by omega), List.getD_eq_getElem?_getD, List.getElem?_set_self hq, Option.getD_some]
      have : k - k / size * size = k % size := by omega
      rw [this, Array.getElem?_toList]
    · rw [if_neg (by
        rintro ⟨h1, h2⟩
        exact hki (Nat.div_eq_of_lt_le h1 (by rw [Nat.succ_mul]; exact h2))), e2]
      rw [List.getD_eq_getElem?_getD, List.getD_eq_getElem?_getD, List.getElem?_set_ne (fun e => hki e.symm)]
  · rw [List.getElem?_eq_none (by rw [hlen _ hset, List.length_set]; omega), if_neg (by omega), List.getElem?_eq_none (by rw [hlen xs h]; omega)]
theorem OutRow.laid {w : World} {base : Nat} {e : TypeId} {size g n c i : Nat} {xs : List (Array Value)} {y : Array Value} (h : OutRow w base e size (.slice (some ⟨g, 0, none⟩) n c) xs) (hi : i < xs.length) (hy : y.size = size) (hs : 0 < size) : OutRow (laid w g (i * size) y.toList) base e size (.slice (some ⟨g, 0, none⟩) n c) (xs.set i y) := by
  have hn : n = xs.length := h.strip.1
  refine ⟨?_, fun x hx => ?_⟩
  · rw [List.length_set, flat_set h.2 hi hy hs, ← hn]
    have h1 := h.1
    rw [← hn] at h1
    exact laid_own _ _ h1
  · rcases List.mem_or_eq_of_mem_set hx with h1 | rfl
    · exact h.2 x h1
    · exact hy
theorem OutRow.at_ {w : World} {base : Nat} {e : TypeId} {size : Nat} {v : Value} {xs : List (Array Value)} (h : OutRow w base e size v xs) (h0 : 0 < xs.length) : ∃ g c, v = .slice (some ⟨g, 0, none⟩) xs.length c ∧ base ≤ g ∧ g < w.heap.size ∧ (∀ j, w.frozen? ⟨g, j, none⟩ = false) ∧ ∀ i, i < xs.length → ∀ j, j < size → w.cell? ⟨g, i * size + j, none⟩ = (xs.getD i #[])[j]? := by
  obtain ⟨A, c, rfl⟩ := h.form
  rcases h.1.2 with ⟨h1, h2⟩ | ⟨g, cap, cur, h1, hb, hg, _⟩
  · omega
  · injection h1 with h1 _ h3
    subst h1 h3
    refine ⟨g, c, rfl, hb, (h.1.lt g rfl).2, fun j => h.1.frozenAt j, fun i hi j hj => ?_⟩
    have e1 : i * size + j < xs.length * size := by
      have : i * size + size ≤ xs.length * size := by rw [← Nat.succ_mul]; exact Nat.mul_le_mul_right _ hi
      omega
    rw [h.1.cellAt _ e1]
    exact flatL_get h.2 i hi j hj
theorem OutRow.grown {w w' : World} {base : Nat} {e : TypeId} {size : Nat} {v : Value} {xs : List (Array Value)} {row : Option Nat} (h : OutRow w base e size v xs) (hg : w.grownBy w' row) (hne : v.ownBlock = none ∨ v.ownBlock ≠ row) : OutRow w' base e size v xs := ⟨h.1.kept hg hne, h.2⟩
theorem own_ne {w : World} {base : Nat} {e t : TypeId} {size n g : Nat} {v : Value} {xs : List Value} {cs : Array Value} (h : w.ownsRow base e size v n xs) (hg : Blk w g t cs) (hne : e ≠ t) : v.ownBlock ≠ some g := by
  rcases h.2 with ⟨rfl, _⟩ | ⟨g', cap, cur, rfl, _, hh, _⟩
  · simp [Value.ownBlock]
  · intro he
    have e1 : g' = g := by simpa [Value.ownBlock] using he
    subst e1
    have h1 := hg
    unfold Blk at h1
    rw [hh] at h1
    injection h1 with h1
    injection h1 with _ ht
    exact hne ht
end Go.Proofs.Yteaipeejhippiaa
