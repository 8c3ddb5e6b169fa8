/- Two bases that share no list; what they know. -/
import Derived.Test.YteaipeejhippiaaFSame
namespace Go.Proofs.Yteaipeejhippiaa
open Go.RowKit
set_option linter.unusedVariables false

theorem own_ge {w : World} {base : Nat} {e : TypeId} {size n g : Nat} {v : Value} {xs : List Value} (h : w.ownsRow base e size v n xs) (hg : v.ownBlock = some g) : base ≤ g ∧ g < w.heap.size := by
  rcases h.2 with ⟨rfl, _⟩ | ⟨g', cap, cur, rfl, hb, hh, _⟩
  · simp [Value.ownBlock] at hg
  · have e1 : g' = g := by simpa [Value.ownBlock] using hg
    subst e1
    exact ⟨hb, by
      rcases Nat.lt_or_ge g' w.heap.size with h1 | h1
      · exact h1
      · rw [Array.getElem?_eq_none h1] at hh; exact absurd hh (by simp)⟩
structure Two (w wr : World) (Ba Bb QA QB : Nat) (vA vB : Value) (xs ys : List Adv) : Prop where
  a : Bas wr Ba QA vA xs
  b : Bas wr Bb QB vB ys
  ne : ∀ g, vA.ownBlock = some g → vB.ownBlock ≠ some g
  ba : w.heap.size ≤ Ba
  bb : w.heap.size ≤ Bb
  below : Below w.heap.size w wr
section
variable {w wr w' : World} {Ba Bb QA QB : Nat} {vA vB : Value} {xs ys cs : List Adv}
theorem Two.later (h : Two w wr Ba Bb QA QB vA vB xs ys) (hb : Below wr.heap.size wr w') : Two w w' Ba Bb QA QB vA vB xs ys := ⟨h.a.later hb, h.b.later hb, h.ne, h.ba, h.bb, h.below.trans (hb.mono h.below.size)⟩
theorem Two.apart (h : Two w wr Ba Bb QA QB vA vB xs ys) : vB.ownBlock = none ∨ vB.ownBlock ≠ vA.ownBlock := by
  cases hv : vB.ownBlock with
  | none => exact .inl rfl
  | some g => exact .inr (fun e => h.ne g e.symm hv)
theorem Two.apart' (h : Two w wr Ba Bb QA QB vA vB xs ys) : vA.ownBlock = none ∨ vA.ownBlock ≠ vB.ownBlock := by
  cases hv : vA.ownBlock with
  | none => exact .inl rfl
  | some g => exact .inr (fun e => h.ne g hv e.symm)
theorem Two.ne' (h : Two w wr Ba Bb QA QB vA vB xs ys) : ∀ g, vB.ownBlock = some g → vA.ownBlock ≠ some g := fun g e e2 => h.ne g e2 e
theorem Two.setA (h : Two w wr Ba Bb QA QB vA vB xs ys) (ha : Bas w' Ba QA vA cs) (hg : wr.grownBy w' vA.ownBlock) : Two w w' Ba Bb QA QB vA vB cs ys :=
  ⟨ha, h.b.grown hg (Ne.symm (own_ne h.a.row.1 h.b.blk (by decide))) h.apart, h.ne, h.ba, h.bb, h.below.grown hg h.below.size (fun k hk => Nat.le_trans h.ba (own_ge h.a.row.1 hk).1)⟩
theorem Two.setB (h : Two w wr Ba Bb QA QB vA vB xs ys) (hb : Bas w' Bb QB vB cs) (hg : wr.grownBy w' vB.ownBlock) : Two w w' Ba Bb QA QB vA vB xs cs :=
  ⟨h.a.grown hg (Ne.symm (own_ne h.b.row.1 h.a.blk (by decide))) h.apart', hb, h.ne, h.ba, h.bb, h.below.grown hg h.below.size (fun k hk => Nat.le_trans h.bb (own_ge h.b.row.1 hk).1)⟩
end
theorem Two.make {w wa wb : World} {Ba QA QB : Nat} {vA vB : Value} {xs ys : List Adv} (h1 : Bas wa Ba QA vA xs) (hb : Below wa.heap.size wa wb) (h2 : Bas wb wa.heap.size QB vB ys) (hB : w.heap.size ≤ Ba) (hw : Below w.heap.size w wb) (hs : w.heap.size ≤ wa.heap.size) : Two w wb Ba wa.heap.size QA QB vA vB xs ys :=
  ⟨h1.later hb, h2, fun g e e2 => by
    have h3 := (own_ge h1.row.1 e).2
    have h4 := (own_ge h2.row.1 e2).1
    omega, hB, hs, hw⟩
theorem Net.apartL {N : Int} {m : Nat} {x : Nat → Lnk} (h : Net N m x) : Apart m x := fun i j hi hj hl => by
  rcases Nat.lt_trichotomy i j with h1 | h1 | h1
  · exact absurd hl (h.apart i j h1 hj)
  · exact h1
  · exact absurd ⟨hl.1.symm, hl.2.symm⟩ (h.apart j i h1 hi)
theorem May.up {N : Int} {l : Lnk} (h : l.May N) (hN : N ≤ 16) : l.May 16 := ⟨h.s0, by have := h.s1; omega, h.d0, by have := h.d1; omega, h.ne, h.m0, h.m1⟩
theorem Net.may16 {N : Int} {m : Nat} {x : Nat → Lnk} (h : Net N m x) : ∀ i, i < m → (x i).May 16 := fun i hi => May.up (h.may i hi) h.n1
theorem nth_first (m : Nat) (x : Nat → Lnk) (i : Nat) (hi : i < m) : nth ((List.range m).map fun i => first (x i)) i = first (x i) := by
  unfold nth
  rw [List.getD_eq_getElem?_getD, List.getElem?_map, List.getElem?_range hi]
  rfl
theorem Knows.first (m : Nat) (x : Nat → Lnk) (n : Nat) (l : Nat → Adv) : Knows m x n l ((List.range m).map fun i => first (x i)) :=
  ⟨⟨by simp, fun i hi => by rw [nth_first m x i hi]; exact ⟨rfl, rfl⟩⟩, fun i hi => .inl (nth_first m x i hi)⟩
theorem Knows.apps {m n : Nat} {x : Nat → Lnk} {l : Nat → Adv} {xs ys : List Adv} (h : Knows m x n l xs) (k : Knows m x n l ys) (hx : Apart m x) (hm : ∀ i, i < m → (x i).May 16) : Knows m x n l (apps xs ys) := by
  refine ⟨On.apps hx ys h.on, fun i hi => ?_⟩
  rw [apps_all h.on k.on hx (fun i hi => mayB_yes (k.fine hm i hi)) i hi]
  split
  · exact k.from_ i hi
  · exact h.from_ i hi
theorem Knows.sound {m n : Nat} {x : Nat → Lnk} {l : Nat → Adv} {xs : List Adv} (h : Knows m x n l xs) (hm : ∀ i, i < m → (x i).May 16) (hx : ∀ i, i < m → I64 (x i).src ∧ I64 (x i).dst) (hxw : ∀ i, i < m → (Proofs.Yteaipeejhippiaa.first (x i)).Wf) (hl : ∀ i, i < n → I64 (l i).src ∧ I64 (l i).dst) (hlw : ∀ i, i < n → (l i).Wf) : Sound xs := fun i hi => by
  rw [h.on.len] at hi
  refine ⟨h.fine hm i hi, ?_⟩
  rcases h.from_ i hi with e | ⟨p, hp, e, _⟩
  · rw [e]; exact ⟨hxw i hi, hx i hi⟩
  · rw [e]; exact ⟨hlw p hp, hl p hp⟩
end Go.Proofs.Yteaipeejhippiaa
