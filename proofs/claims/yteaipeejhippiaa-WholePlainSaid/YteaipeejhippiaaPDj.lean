/- The search takes the least item, and goes on from it: Pop and settle, with the plain law. -/
import Derived.Test.YteaipeejhippiaaPSet
namespace Go.Proofs.Yteaipeejhippiaa
open Go.RowKit
attribute [local go_sem] cell_set_self
set_option linter.unusedVariables false

/-- The start of the search, in the plain law. -/
theorem Keeps.init {P : Type} (M : Mach P) (ok : P → Prop) (m : Nat) (x : Nat → Lnk) (fr : Int) {B : (P → Option (List Int × Int))} {D : P → Bool} {q : Item → Nat} (hB : B = updT (fun _ => none) (M.at_ [fr] fr) ([fr], 0)) (hD : ∀ p, D p = false) (hq : ∀ y, q y = if (⟨0, M.hl 1, fr⟩ : Item) = y then 1 else 0) : Keeps M ok m x fr B D q 0 0 (fun _ _ => False) := by
  subst hB
  have h1 : ∀ p l c, updT (fun _ => none) (M.at_ [fr] fr) ([fr], 0) p = some (l, c) → p = M.at_ [fr] fr ∧ l = [fr] ∧ c = 0 := fun p l c h => by
    by_cases e : p = M.at_ [fr] fr
    · subst e
      rw [updT_same] at h
      injection h with h
      injection h with h2 h3
      exact ⟨rfl, h2.symm, h3.symm⟩
    · rw [updT_other _ _ e] at h
      cases h
  refine ⟨fun p l c h => ?_, fun p h => (by rw [hD] at h; cases h), fun y hy => ?_, fun p l c h _ _ => ?_, fun _ _ h => h.elim, ⟨[fr], 0, updT_same _ _ _, Bet.irrefl⟩⟩
  · obtain ⟨rfl, rfl, rfl⟩ := h1 p l c h
    exact ⟨⟨fr, .start, rfl⟩, by simp, by simp⟩
  · rw [hq] at hy
    split at hy
    · rename_i e
      subst e
      exact ⟨Int.le_refl _, [fr], 0, updT_same _ _ _, Int.le_refl _⟩
    · omega
  · obtain ⟨rfl, rfl, rfl⟩ := h1 p l c h
    exact ⟨⟨0, M.hl 1, fr⟩, by rw [hq, if_pos rfl]; omega, rfl, rfl⟩
theorem Que.fx {w w' : World} {X : Nat → Prop} {base Q n : Nat} {v : Value} {d : Nat → Item} (h : Que w base Q v n d) (f : Fx w w' X) (hQ : ¬ X Q) (ho : ∀ g, v.ownBlock = some g → ¬ X g) : Que w' base Q v n d :=
  ⟨h.blk.fx f hQ, h.row.of_block fun g hg => f.block g (h.row.lt g hg).2 (ho g hg), h.heap, h.ne⟩
/-- A block of another kind has turned. -/
theorem Srch.other {w w' : World} {base S W Q : Nat} {A : Option Addr} {m c : Nat} {x : Nat → Lnk} {n : Nat} {B : (Int → Option (List Int × Int))} {D : Int → Bool} {qv : Value} {k : Nat} {d : Nat → Item} (h : Srch w base S W Q A m c x n B D qv k d) {g : Nat} {cs : Array Value} (hg : Blk w g 89 cs) (f : Fx w w' (fun j => j = g)) (ho : some g ≠ qv.ownBlock) (hb : base ≤ g) : Srch w' base S W Q A m c x n B D qv k d := by
  have ne : ∀ b t cs, Blk w b t cs → t ≠ 89 → ¬ b = g := fun b t cs hb ht => hb.ne hg ht
  obtain ⟨V, h1, h2⟩ := h.ways
  obtain ⟨cs', hW⟩ := h.wblk
  exact ⟨h.s.fx f (ne _ _ _ h.s (by decide)), ⟨V, h1.fx f (ne _ _ _ hW (by decide)), fun i hi => (h2 i hi).fx f fun b cs hb => ne _ _ _ hb (by decide)⟩, h.q.fx f (ne _ _ _ h.q.blk (by decide)) (fun j hj e => ho (by rw [hj, e])), h.links.fx f (fun ad e h0 e' => by
    have := h.low ad e h0
    omega), h.low, h.sS, h.sW, h.sQ, h.pos⟩
/-- The search has taken the item y0, or none is left; at most g more are to come. -/
structure Dj (w0 wr : World) (base S W Q : Nat) (A : Option Addr) (m c : Nat) (x : Nat → Lnk) (n : Nat) (fr : Int) (B : (Int → Option (List Int × Int))) (D : Int → Bool) (qv : Value) (k : Nat) (d : Nat → Item) (T : Int) (r : Nat) (C : Int → Nat → Prop) (g : Nat) (y0 : Option Item) : Prop where
  s : Srch wr base S W Q A m c x n B D qv k d
  keeps : Keeps M1 (fun _ => True) m x fr B D (fun y => many d k y + match y0 with | none => 0 | some z => if z = y then 1 else 0) T r C
  full : Full m x fr (fun _ _ => False) B D C (fun _ => False)
  least : ∀ z, y0 = some z → ∀ y, 0 < many d k y → z.cost ≤ y.cost
  gone : y0 = none → k = 0
  pot : k + (match y0 with | none => 0 | some _ => 1) + pot1 x m n D ≤ g
  sum : r + g ≤ 66
  below : Below base w0 wr
section
variable {w0 w w' : World} {base S W Q : Nat} {A : Option Addr} {m c : Nat} {x : Nat → Lnk} {n : Nat} {fr : Int} {B : (Int → Option (List Int × Int))} {D : Int → Bool} {qv : Value} {k : Nat} {d : Nat → Item} {T : Int} {r : Nat} {C : Int → Nat → Prop} {g : Nat} {y0 : Option Item}
theorem Dj.later (h : Dj w0 w base S W Q A m c x n fr B D qv k d T r C g y0) (hb : Below w.heap.size w w') (hB : base ≤ w.heap.size) : Dj w0 w' base S W Q A m c x n fr B D qv k d T r C g y0 :=
  ⟨h.s.later hb, h.keeps, h.full, h.least, h.gone, h.pot, h.sum, h.below.trans (hb.mono hB)⟩
theorem Dj.box (h : Dj w0 w base S W Q A m c x n fr B D qv k d T r C g y0) {b : Nat} {cs : Array Value} (hg : Blk w b 89 cs) (f : Fx w w' (fun j => j = b)) (ho : some b ≠ qv.ownBlock) (hb : base ≤ b) (hB : base ≤ w.heap.size) : Dj w0 w' base S W Q A m c x n fr B D qv k d T r C g y0 :=
  ⟨h.s.other hg f ho hb, h.keeps, h.full, h.least, h.gone, h.pot, h.sum, h.below.trans (f.below hB fun i e => by omega)⟩
def DPopPost (w0 w : World) (base S W Q : Nat) (A : Option Addr) (m c : Nat) (x : Nat → Lnk) (n : Nat) (fr : Int) (B : (Int → Option (List Int × Int))) (D : Int → Bool) (qv : Value) (T : Int) (r : Nat) (C : Int → Nat → Prop) (g : Nat) (e : Ending) (w' : World) : Prop :=
  ∃ (z : Item) (er : Int), e = .returned (.tuple #[.agg #[.int .i64 z.cost, .int .i64 z.hops, .int .i64 z.node], .int .i64 er]) ∧ ∃ qv' k' d' y0, Dj w0 w' base S W Q A m c x n fr B D qv' k' d' T r C g y0 ∧ (y0 = none → er = 8) ∧ (∀ z', y0 = some z' → z' = z ∧ er = 0) ∧ (∀ g, qv'.ownBlock = some g → qv.ownBlock = some g) ∧ Fx w w' (fun j => j = Q ∨ some j = qv.ownBlock)
theorem DPop_calls (h : Srch w base S W Q A m c x n B D qv k d) (K : Keeps M1 (fun _ => True) m x fr B D (many d k) T r C) (F : Full m x fr (fun _ _ => False) B D C (fun _ => False)) (hp : k + pot1 x m n D ≤ g) (hs : r + g ≤ 66) (hb : Below base w0 w) (hB : base ≤ w.heap.size) :
    Calls Try.prog 29 #[.pointer (some ⟨Q, 0, none⟩)] w (DPopPost w0 w base S W Q A m c x n fr B D qv T r C g) := by
  cases k with
  | zero =>
    refine (QNone_calls w base Q qv d h.q).mono fun e w' h1 => ?_
    obtain ⟨rfl, h2⟩ := h1
    exact ⟨⟨0, 0, 0⟩, 8, rfl, qv, 0, d, none, ⟨h.later h2, K.count fun y => by simp [many], F, (fun z e => by cases e), fun _ => rfl, by simpa using hp, hs, hb.trans (h2.mono hB)⟩, fun _ => rfl, (fun z e => by cases e), fun _ h => h, Fx.new h2 _⟩
  | succ k =>
    refine (QPop_calls w base Q k qv d h.q (by omega)).mono fun e w' h1 => ?_
    obtain ⟨rfl, v', d', h2, h3, h4, h5⟩ := h1
    have f := Fx.fr h4
    refine ⟨d 0, 0, rfl, v', k, d', some (d 0), ⟨h.queue h4 h2, K.count fun y => h3 y, F, fun z e y hy => ?_, (fun e => by cases e), by simpa using hp, hs, hb.trans (f.below hB fun i e => ?_)⟩, (fun e => by cases e), (fun z e => by injection e with e; exact ⟨e.symm, rfl⟩), fun g hg => by rw [← h5]; exact hg, f⟩
    · injection e with e
      subst e
      have h6 := h3 y
      obtain ⟨j, hj, rfl⟩ := many_pos.1 (show 0 < many d (k + 1) y by omega)
      have h7 := heap_least h.q.heap j hj
      unfold Less at h7
      omega
    · rcases e with e | e
      · rw [e]; exact h.sQ
      · exact (h.q.row.lt i e.symm).1
def DSettlePost (w0 w : World) (base S W Q : Nat) (A : Option Addr) (m c : Nat) (x : Nat → Lnk) (n : Nat) (fr : Int) (qv : Value) (g : Nat) (e : Ending) (w' : World) : Prop :=
  e = .returned (.tuple #[]) ∧ ∃ B' D' qv' k' d' T' r' C', Srch w' base S W Q A m c x n B' D' qv' k' d' ∧ Keeps M1 (fun _ => True) m x fr B' D' (many d' k') T' r' C' ∧ Full m x fr (fun _ _ => False) B' D' C' (fun _ => False) ∧ k' + pot1 x m n D' ≤ g ∧ r' + g ≤ 66 ∧ Below base w0 w' ∧
    Fx w w' (fun j => j = W ∨ j = Q ∨ some j = qv.ownBlock) ∧ (∀ g, qv'.ownBlock = some g → qv.ownBlock = some g ∨ w.heap.size ≤ g)
theorem DSettle_calls {z : Item} (h : Dj w0 w base S W Q A m c x n fr B D qv k d T r C (g + 1) (some z)) (N : Net (n : Int) m x) (hf : 0 ≤ fr ∧ fr < n) (hB : base ≤ w.heap.size) :
    Calls Try.prog 39 #[.pointer (some ⟨S, 0, none⟩), .agg #[.int .i64 z.cost, .int .i64 z.hops, .int .i64 z.node]] w (DSettlePost w0 w base S W Q A m c x n fr qv g) := by
  have hq : ∀ y, many d k y + (if z = y then 1 else 0) = many d k y + (match (some z : Option Item) with | none => 0 | some z => if z = y then 1 else 0) := fun _ => rfl
  have h0 : 0 < many d k z + (match (some z : Option Item) with | none => 0 | some z' => if z' = z then 1 else 0) := by simp
  have hl : ∀ y, 0 < many d k y + (match (some z : Option Item) with | none => 0 | some z' => if z' = y then 1 else 0) → z.cost ≤ y.cost := fun y hy => by
    by_cases e : z = y
    · rw [e]; exact Int.le_refl _
    · refine h.least z rfl y ?_
      simp only [if_neg e] at hy
      omega
  obtain ⟨hT, l, cc, hBz, _⟩ := h.keeps.item z h0
  obtain ⟨⟨v, hw, hv⟩, _⟩ := h.keeps.valid _ _ _ hBz
  have hv2 : z.node = v := hv
  have hr := hw.range N.may hf
  obtain ⟨kk, hkk⟩ := hw.last
  have hvr := hr.1 v (by rw [hkk]; simp)
  obtain ⟨i, hi⟩ : ∃ i : Nat, z.node = (i : Int) := ⟨z.node.toNat, by omega⟩
  have hin : i < n := by omega
  have hpot := h.pot
  have hsum := h.sum
  simp only at hpot
  cases hD : D z.node with
  | true =>
    have hk := h.keeps.drop z h0 hq hl (.inl hD)
    rw [hi] at hD ⊢
    refine (Settled_calls w base S W Q A m c x n B D qv k d i z.cost z.hops h.s hin hD).mono fun e w' h1 => ?_
    obtain ⟨rfl, h2⟩ := h1
    exact ⟨rfl, B, D, qv, k, d, _, r, C, h.s.later h2, hk, h.full, by omega, by omega, h.below.trans (h2.mono hB), Fx.new h2 _, fun _ hg => .inl hg⟩
  | false =>
    obtain ⟨hk, l2, hB2⟩ := h.keeps.settle z h0 hq hl hD trivial
    have e0 : M1.pl z.hops z.node = (i : Int) := hi
    rw [e0] at hk hB2
    rw [hi] at hD ⊢
    have hps := pot1_settle x m n D hin hD
    have hm := pot1_le x m n (updD D (i : Int))
    have := N.m1
    refine (Settle_calls w base S W Q A m c x n fr B D qv k d i z.cost z.hops z.cost l2 r C h.s N hin hD hB2 hk h.full (by omega) (by omega) hB).mono fun e w' h1 => ?_
    obtain ⟨rfl, B', qv', k', d', C', s1, s2, s3, s4, s5, s6⟩ := h1
    exact ⟨rfl, B', _, qv', k', d', _, _, C', s1, s2, s3, by omega, by omega, h.below.trans (s5.below hB fun j e => by
      rcases e with e | e | e
      · rw [e]; exact h.s.sW
      · rw [e]; exact h.s.sQ
      · exact (h.s.q.row.lt j e.symm).1), s5, s6⟩
end
end Go.Proofs.Yteaipeejhippiaa
