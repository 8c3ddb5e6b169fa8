/- The chain: how its tables and its packet stand; one step along it. -/
import Derived.Test.YtokkdjgejeigiaaCStep3
namespace Go.Proofs.Ytokkdjgejeigiaa
open Go.RowKit
attribute [local go_sem] cell_set_self
set_option linter.unusedVariables false

theorem own_ne {w : World} {base : Nat} {e t : TypeId} {size n g : Nat} {v : Value} {xs : List Value} {cs : Array Value} (h : w.ownsRow base e size v n xs) (hg : Blk w g t cs) (hne : e ≠ t) : some g ≠ v.ownBlock := by
  rcases h.2 with ⟨rfl, _⟩ | ⟨g', cap, cur, rfl, _, hh, _⟩
  · simp [Value.ownBlock]
  · intro he
    have e1 : g = g' := by simpa [Value.ownBlock] using he
    subst e1
    have h1 := hg
    unfold Blk at h1
    rw [hh] at h1
    injection h1 with h1
    injection h1 with _ ht
    exact hne ht
/-- The label under which table k lets its packets go on. -/
def lab (M k : Nat) : Int := if k + 1 = M then 3 else 16 + (k : Int)
/-- Table k of a chain of M. -/
def TabAt (M : Nat) (w : World) (k B : Nat) : Prop :=
  ∃ A g c, Tab w B A g c ∧ At w g 7 ((k : Int) + 1) (lab M k) ∧ (0 < k → ∃ h ch, A = .slice (some ⟨h, 0, none⟩) 1 ch ∧ At w h (15 + (k : Int)) ((k : Int) + 1) (lab M k))
theorem TabAt.later {M k B : Nat} {w w' : World} (h : TabAt M w k B) (hb : Below w.heap.size w w') : TabAt M w' k B := by
  obtain ⟨A, g, c, h1, h2, h3⟩ := h
  exact ⟨A, g, c, h1.later hb, h2.later hb, fun hk => by obtain ⟨h, ch, e, h4⟩ := h3 hk; exact ⟨h, ch, e, h4.later hb⟩⟩
theorem TabAt.lt {M k B : Nat} {w : World} (h : TabAt M w k B) : B < w.heap.size := by
  obtain ⟨A, g, c, h1, _⟩ := h
  exact Blk.lt h1
theorem At.kept {w w' : World} {base size n g : Nat} {v : Value} {xs : List Value} {a o1 o2 : Int} (h : At w g a o1 o2) (ho : w.ownsRow base 23 size v n xs) (hg : w.grownBy w' v.ownBlock) : At w' g a o1 o2 := by
  have h0 := h
  obtain ⟨cur, hb, _⟩ := h0
  exact h.grown hg (own_ne ho hb (by decide))
theorem TabAt.kept {M k B base size n : Nat} {w w' : World} {v : Value} {xs : List Value} (h : TabAt M w k B) (ho : w.ownsRow base 23 size v n xs) (hg : w.grownBy w' v.ownBlock) : TabAt M w' k B := by
  obtain ⟨A, g, c, h1, h2, h3⟩ := h
  exact ⟨A, g, c, Blk.grown (show Blk _ _ _ _ from h1) hg (own_ne ho (show Blk _ _ _ _ from h1) (by decide)), h2.kept ho hg, fun hk => by obtain ⟨h, ch, e, h4⟩ := h3 hk; exact ⟨h, ch, e, h4.kept ho hg⟩⟩

/-- How the packet stands ahead of table k. -/
def Good (M : Nat) (T : Int) (w : World) (k : Nat) (v : Value) (U : Int) : Prop :=
  (k : Int) ≤ T ∧ ((k = 0 ∧ v = .slice none 0 0 ∧ U = T) ∨ (0 < k ∧ k < M ∧ U = T - 1 ∧ ∃ p, v = .slice (some ⟨p, 0, none⟩) 1 1 ∧ Ent w p (15 + (k : Int)) 0 (T - k)) ∨ (k = M ∧ v = .slice none 0 0 ∧ U = T - M))
theorem Good.later {M k : Nat} {T U : Int} {w w' : World} {v : Value} (h : Good M T w k v U) (hb : Below w.heap.size w w') : Good M T w' k v U := by
  obtain ⟨h0, h | ⟨h1, h2, h3, p, h4, h5⟩ | h⟩ := h
  · exact ⟨h0, .inl h⟩
  · exact ⟨h0, .inr (.inl ⟨h1, h2, h3, p, h4, h5.later hb⟩)⟩
  · exact ⟨h0, .inr (.inr h)⟩
theorem Ent.far {w : World} {p q i : Nat} {l k t : Int} (h : Ent w p l k t) (hne : p ≠ q) (u : Value) : Ent (w.setCell ⟨q, i, none⟩ u) p l k t := by
  obtain ⟨h0, h1, h2, h3⟩ := h
  have e : ∀ o, (w.setCell ⟨q, i, none⟩ u).cell? ⟨p, o, none⟩ = w.cell? ⟨p, o, none⟩ := fun o => World.cell?_setCell_other w _ _ u (fun e => hne (by injection e with e; exact e.symm))
  exact ⟨(e 0).trans h0, (e 1).trans h1, (e 2).trans h2, by simpa [World.setCell] using h3⟩
theorem Good.far {M k q i : Nat} {T U : Int} {w : World} {v : Value} (h : Good M T w k v U) (hne : ∀ p, v = .slice (some ⟨p, 0, none⟩) 1 1 → p ≠ q) (u : Value) : Good M T (w.setCell ⟨q, i, none⟩ u) k v U := by
  obtain ⟨h0, h | ⟨h1, h2, h3, p, h4, h5⟩ | h⟩ := h
  · exact ⟨h0, .inl h⟩
  · exact ⟨h0, .inr (.inl ⟨h1, h2, h3, p, h4, h5.far (hne p h4) u⟩)⟩
  · exact ⟨h0, .inr (.inr h)⟩
theorem Good.laid {M k q : Nat} {T U : Int} {w : World} {v : Value} (h : Good M T w k v U) (hne : ∀ p, v = .slice (some ⟨p, 0, none⟩) 1 1 → p ≠ q) (a b c d : Value) : Good M T ((((w.setCell ⟨q, 0, none⟩ a).setCell ⟨q, 1, none⟩ b).setCell ⟨q, 2, none⟩ c).setCell ⟨q, 3, none⟩ d) k v U := (((h.far hne a).far hne b).far hne c).far hne d
theorem Good.form {M k : Nat} {T U : Int} {w : World} {v : Value} (h : Good M T w k v U) : ∃ A n c, v = .slice A n c := by
  obtain ⟨h0, h | ⟨h1, h2, h3, p, h4, h5⟩ | h⟩ := h
  · exact ⟨_, _, _, h.2.1⟩
  · exact ⟨_, _, _, h4⟩
  · exact ⟨_, _, _, h.2.1⟩
theorem Good.lt {M k p : Nat} {T U : Int} {w : World} {v : Value} (h : Good M T w k v U) (hv : v = .slice (some ⟨p, 0, none⟩) 1 1) : p < w.heap.size := by
  obtain ⟨h0, h | ⟨h1, h2, h3, q, h4, h5⟩ | h⟩ := h
  · rw [h.2.1] at hv; injection hv with e; cases e
  · rw [h4] at hv
    injection hv with e
    injection e with e
    injection e with e
    rw [← e]
    exact h5.2.2.2
  · rw [h.2.1] at hv; injection hv with e; cases e
/-- What a step tells. -/
def StepPost (M : Nat) (T : Int) (s : ByteArray) (w : World) (k : Nat) (e : Ending) (w' : World) : Prop :=
  if T = k then Fell3 w 10 e w' else ∃ v U, Told3 w ((k : Int) + 1) v U s e w' ∧ Good M T w' (k + 1) v U ∧ ∀ p, v = .slice (some ⟨p, 0, none⟩) 1 1 → w.heap.size ≤ p
theorem step_calls (M : Nat) (T U : Int) (s : ByteArray) (w : World) (k B : Nat) (v : Value) (hM : 2 ≤ M) (hM7 : M ≤ 7) (hk : k < M) (h1 : 0 ≤ T) (h2 : T ≤ 255) (h3 : s.size ≤ 4096) (hT : TabAt M w k B) (hG : Good M T w k v U) :
    Calls Try.prog 7 #[.pointer (some ⟨B, 0, none⟩), .agg #[v, .int .i64 7, .int .i64 U, .string s]] w (StepPost M T s w k) := by
  obtain ⟨A, g, c, t1, t2, t3⟩ := hT
  obtain ⟨g0, ⟨rfl, rfl, rfl⟩ | ⟨g1, g2, rfl, p, rfl, g5⟩ | ⟨g1, _, _⟩⟩ := hG
  · have hl : lab M 0 = 16 := by unfold lab; rw [if_neg (by omega)]; rfl
    rw [hl] at t2
    refine (Step_first w B A g c (((0 : Nat) : Int) + 1) 16 U s t1 t2 h1 h2 h3 (by omega) (by omega)).mono fun e w' h => ?_
    unfold FirstPost at h
    unfold StepPost
    by_cases h0 : U = 0
    · rw [if_pos h0] at h
      rw [if_pos (by omega)]
      exact h
    · rw [if_neg h0] at h
      rw [if_neg (by omega)]
      obtain ⟨p, h4, h5, h6⟩ := h
      refine ⟨_, _, h4, ⟨by omega, .inr (.inl ⟨by omega, by omega, rfl, p, rfl, ?_⟩)⟩, fun q e => by injection e with e; injection e with e; injection e with e; omega⟩
      exact h5
  · obtain ⟨h, ch, rfl, t4⟩ := t3 g1
    have hl : 16 ≤ lab M k ∧ lab M k ≤ 1048575 ∨ lab M k = 3 := by
      unfold lab
      split
      · exact .inr rfl
      · exact .inl ⟨by omega, by omega⟩
    refine (Step_mid w B h ch g c p (15 + (k : Int)) _ _ _ _ (T - k) (T - 1) s t1 t2 t4 g5 (by omega) (by omega) (by omega) (by omega) (by omega) (by omega) h3 hl (by omega)).mono fun e w' hp => ?_
    unfold MidPost at hp
    unfold StepPost
    by_cases h0 : T = k
    · rw [if_pos (by omega)] at hp
      rw [if_pos h0]
      exact hp
    · rw [if_neg (by omega)] at hp
      rw [if_neg h0]
      by_cases hl : k + 1 = M
      · rw [if_pos (by unfold lab; rw [if_pos hl])] at hp
        exact ⟨_, _, hp, ⟨by omega, .inr (.inr ⟨hl, rfl, by omega⟩)⟩, fun q e => by injection e with e; cases e⟩
      · have e1 : lab M k = 16 + (k : Int) := by unfold lab; rw [if_neg hl]
        rw [if_neg (by omega)] at hp
        obtain ⟨q, h4, h5, h6⟩ := hp
        refine ⟨_, _, h4, ⟨by omega, .inr (.inl ⟨by omega, by omega, rfl, q, rfl, ?_⟩)⟩, fun r e => by injection e with e; injection e with e; injection e with e; omega⟩
        rw [e1] at h5
        have e2 : (15 + ((k + 1 : Nat) : Int)) = 16 + (k : Int) := by omega
        have e3 : T - ((k + 1 : Nat) : Int) = T - k - 1 := by omega
        rw [e2, e3]
        exact h5
  · omega
end Go.Proofs.Ytokkdjgejeigiaa
