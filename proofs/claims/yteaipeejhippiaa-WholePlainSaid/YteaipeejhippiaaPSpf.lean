/- The search in memory: its block, the ways' row, the queue, the routes; offer. -/
import Derived.Test.YteaipeejhippiaaPDij
import Derived.Test.YteaipeejhippiaaQPop13
import Derived.Deep.RegionLaw
import Derived.BigQuiet
namespace Go.Proofs.Yteaipeejhippiaa
open Go.RowKit
attribute [local go_sem] cell_set_self
set_option linter.unusedVariables false

/-- All blocks but X are what they were. -/
structure Fx (w w' : World) (X : Nat → Prop) : Prop where
  os : w'.os = w.os
  tape : w'.tape = w.tape
  output : w'.output = w.output
  size : w.heap.size ≤ w'.heap.size
  block : ∀ i, i < w.heap.size → ¬ X i → w'.heap[i]? = w.heap[i]?
section
variable {w w1 w' : World} {X Y : Nat → Prop} {g : Nat} {t : TypeId} {cs : Array Value}
theorem Fx.refl (w : World) (X : Nat → Prop) : Fx w w X := ⟨rfl, rfl, rfl, Nat.le_refl _, fun _ _ _ => rfl⟩
theorem Fx.trans (h : Fx w w1 X) (k : Fx w1 w' Y) (hY : ∀ i, i < w.heap.size → Y i → X i) : Fx w w' X :=
  ⟨k.os.trans h.os, k.tape.trans h.tape, k.output.trans h.output, Nat.le_trans h.size k.size, fun i hi hx => (k.block i (Nat.lt_of_lt_of_le hi h.size) fun hy => hx (hY i hi hy)).trans (h.block i hi hx)⟩
theorem Fx.mono (h : Fx w w' Y) (hY : ∀ i, i < w.heap.size → Y i → X i) : Fx w w' X := ⟨h.os, h.tape, h.output, h.size, fun i hi hx => h.block i hi fun hy => hx (hY i hi hy)⟩
theorem Fx.new (h : Below w.heap.size w w') (X : Nat → Prop) : Fx w w' X := ⟨h.os, h.tape, h.output, h.size, fun i hi _ => h.block i hi⟩
theorem Fx.below {B : Nat} (h : Fx w w' X) (hB : B ≤ w.heap.size) (hX : ∀ i, X i → B ≤ i) : Below B w w' := ⟨h.os, h.tape, h.output, h.size, fun i hi => h.block i (Nat.lt_of_lt_of_le hi hB) fun hx => by have := hX i hx; omega⟩
theorem Fx.fr {Q : Nat} {o : Option Nat} (h : Fr w w' Q o) : Fx w w' (fun i => i = Q ∨ some i = o) := ⟨h.os, h.tape, h.output, h.size, fun i hi hx => h.block i hi (fun e => hx (.inl e)) (fun e => hx (.inr e))⟩
theorem Fx.set (w : World) (p : Addr) (u : Value) : Fx w (w.setCell p u) (fun i => i = p.block) := ⟨rfl, rfl, rfl, by simp [World.setCell], fun i hi hx => Below.heap_setCell w p u i hx⟩
theorem Blk.fx (h : Blk w g t cs) (f : Fx w w' X) (hX : ¬ X g) : Blk w' g t cs := (f.block g h.lt hX).trans h
theorem Strip.fx {A : Option Addr} {n k : Nat} {f : Nat → Array Value} (h : Strip w A n k f) (hf : Fx w w' X) (hX : ∀ ad, A = some ad → 0 < n → ¬ X ad.block) : Strip w' A n k f := fun h0 => by
  obtain ⟨ad, e, hl, hc⟩ := h h0
  exact ⟨ad, e, Nat.lt_of_lt_of_le hl hf.size, fun i hi j hj => (World.cell?_of_block (by rw [add_block, add_block]; exact hf.block _ hl (hX ad e h0))).trans (hc i hi j hj)⟩
end
/-- Two blocks of different types are not the same. -/
theorem Blk.ne {w : World} {g h : Nat} {t u : TypeId} {cs ds : Array Value} (a : Blk w g t cs) (b : Blk w h u ds) (htu : t ≠ u) : g ≠ h := fun e => by
  subst e
  unfold Blk at a b
  rw [a] at b
  injection b with b
  injection b with _ b
  exact htu b
/-- The slice v holds the route l, in a block of numbers of its own. -/
def Rt (w : World) (v : Value) (l : List Int) : Prop := ∃ b c cs, v = .slice (some ⟨b, 0, none⟩) l.length c ∧ l.length ≤ c ∧ Blk w b 3 cs ∧ ∀ i, i < l.length → cs[i]? = some (.int .i64 (nth l i))
section
variable {w w' : World} {X : Nat → Prop} {v : Value} {l : List Int}
theorem Rt.fx (h : Rt w v l) (f : Fx w w' X) (hX : ∀ b cs, Blk w b 3 cs → ¬ X b) : Rt w' v l := by
  obtain ⟨b, c, cs, h1, h2, h3, h4⟩ := h
  exact ⟨b, c, cs, h1, h2, h3.fx f (hX b cs h3), h4⟩
theorem Rt.later (h : Rt w v l) (hb : Below w.heap.size w w') : Rt w' v l := h.fx (Fx.new hb fun _ => False) fun _ _ _ hx => hx
theorem Rt.strip (h : Rt w v l) : ∃ A c, v = .slice A l.length c ∧ Strip w A l.length 1 (intRow (nth l)) := by
  obtain ⟨b, c, cs, h1, h2, h3, h4⟩ := h
  refine ⟨_, c, h1, fun h0 => ⟨_, rfl, h3.lt, fun i hi j hj => ?_⟩⟩
  obtain rfl : j = 0 := by omega
  rw [addr_add, addr_add, Nat.zero_add, Nat.mul_one]
  exact (h3.cell i).trans (h4 i hi)
end
def RtO (w : World) (v : Value) : Option (List Int × Int) → Prop
  | none => v = .slice none 0 0
  | some y => Rt w v y.1
def costO : Option (List Int × Int) → Int
  | none => -1
  | some y => y.2
theorem RtO.fx {w w' : World} {X : Nat → Prop} {v : Value} {o : Option (List Int × Int)} (h : RtO w v o) (f : Fx w w' X) (hX : ∀ b cs, Blk w b 3 cs → ¬ X b) : RtO w' v o := by
  cases o with
  | none => exact h
  | some y => exact Rt.fx h f hX
/-- The row of the ways in block W. -/
def WaysAt (w : World) (W n : Nat) (V : Nat → Value) (K : Nat → Int) (D : Nat → Bool) : Prop := ∃ cs, Blk w W 116 cs ∧ ∀ i, i < n → cs[i * 3]? = some (V i) ∧ cs[i * 3 + 1]? = some (.int .i64 (K i)) ∧ cs[i * 3 + 2]? = some (.bool (D i))
section
variable {w w' : World} {W n : Nat} {V : Nat → Value} {K : Nat → Int} {D : Nat → Bool} {i : Nat}
theorem WaysAt.set0 (h : WaysAt w W n V K D) (hi : i < n) (v : Value) : WaysAt (w.setCell ⟨W, i * 3, none⟩ v) W n (fun k => if k = i then v else V k) K D := by
  obtain ⟨cs, hb, hc⟩ := h
  refine ⟨_, hb.set_ _ _, fun k hk => ?_⟩
  obtain ⟨h1, h2, h3⟩ := hc k hk
  refine ⟨?_, by rw [Array.getElem?_setIfInBounds_ne (by omega)]; exact h2, by rw [Array.getElem?_setIfInBounds_ne (by omega)]; exact h3⟩
  by_cases e : k = i
  · subst e
    rw [Array.getElem?_setIfInBounds_self, if_pos (Array.getElem?_eq_some_iff.1 h1).1]; simp
  · rw [Array.getElem?_setIfInBounds_ne (by omega)]; simpa [e] using h1
theorem WaysAt.set1 (h : WaysAt w W n V K D) (hi : i < n) (y : Int) : WaysAt (w.setCell ⟨W, i * 3 + 1, none⟩ (.int .i64 y)) W n V (fun k => if k = i then y else K k) D := by
  obtain ⟨cs, hb, hc⟩ := h
  refine ⟨_, hb.set_ _ _, fun k hk => ?_⟩
  obtain ⟨h1, h2, h3⟩ := hc k hk
  refine ⟨by rw [Array.getElem?_setIfInBounds_ne (by omega)]; exact h1, ?_, by rw [Array.getElem?_setIfInBounds_ne (by omega)]; exact h3⟩
  by_cases e : k = i
  · subst e
    rw [Array.getElem?_setIfInBounds_self, if_pos (Array.getElem?_eq_some_iff.1 h2).1]; simp
  · rw [Array.getElem?_setIfInBounds_ne (by omega)]; simpa [e] using h2
theorem WaysAt.set2 (h : WaysAt w W n V K D) (hi : i < n) (y : Bool) : WaysAt (w.setCell ⟨W, i * 3 + 2, none⟩ (.bool y)) W n V K (fun k => if k = i then y else D k) := by
  obtain ⟨cs, hb, hc⟩ := h
  refine ⟨_, hb.set_ _ _, fun k hk => ?_⟩
  obtain ⟨h1, h2, h3⟩ := hc k hk
  refine ⟨by rw [Array.getElem?_setIfInBounds_ne (by omega)]; exact h1, by rw [Array.getElem?_setIfInBounds_ne (by omega)]; exact h2, ?_⟩
  by_cases e : k = i
  · subst e
    rw [Array.getElem?_setIfInBounds_self, if_pos (Array.getElem?_eq_some_iff.1 h3).1]; simp
  · rw [Array.getElem?_setIfInBounds_ne (by omega)]; simpa [e] using h3
theorem WaysAt.fx {X : Nat → Prop} (h : WaysAt w W n V K D) (f : Fx w w' X) (hX : ¬ X W) : WaysAt w' W n V K D := by
  obtain ⟨cs, hb, hc⟩ := h
  exact ⟨cs, hb.fx f hX, hc⟩
theorem WaysAt.congr {V' : Nat → Value} {K' : Nat → Int} {D' : Nat → Bool} (h : WaysAt w W n V K D) (h1 : ∀ i, i < n → V i = V' i) (h2 : ∀ i, i < n → K i = K' i) (h3 : ∀ i, i < n → D i = D' i) : WaysAt w W n V' K' D' := by
  obtain ⟨cs, hb, hc⟩ := h
  refine ⟨cs, hb, fun k hk => ?_⟩
  rw [← h1 k hk, ← h2 k hk, ← h3 k hk]
  exact hc k hk
end
/-- The search at S: the links, the ways at W, the queue at Q. -/
structure Srch (w : World) (base S W Q : Nat) (A : Option Addr) (m c : Nat) (x : Nat → Lnk) (n : Nat) (B : (Int → Option (List Int × Int))) (D : Int → Bool) (qv : Value) (k : Nat) (d : Nat → Item) : Prop where
  s : Blk w S 114 #[.slice A m c, .slice (some ⟨W, 0, none⟩) n n, .pointer (some ⟨Q, 0, none⟩)]
  ways : ∃ V, WaysAt w W n V (fun i => costO (B (i : Int))) (fun i => D (i : Int)) ∧ ∀ i, i < n → RtO w (V i) (B (i : Int))
  q : Que w base Q qv k d
  links : Strip w A m 5 (fun i => link (x i))
  low : ∀ ad, A = some ad → 0 < m → ad.block < base
  sS : base ≤ S
  sW : base ≤ W
  sQ : base ≤ Q
  pos : ∀ i l c, B i = some (l, c) → 0 ≤ c
theorem Que.ne_own {w : World} {base Q n g : Nat} {v : Value} {d : Nat → Item} {t : TypeId} {cs : Array Value} (h : Que w base Q v n d) (hg : Blk w g t cs) (ht : t ≠ 89) : some g ≠ v.ownBlock := by
  obtain ⟨xs, hx, _⟩ := h.row
  exact fun e => own_ne hx hg (Ne.symm ht) e.symm
section
variable {w w' : World} {base S W Q : Nat} {A : Option Addr} {m c : Nat} {x : Nat → Lnk} {n : Nat} {B : (Int → Option (List Int × Int))} {D : Int → Bool} {qv : Value} {k : Nat} {d : Nat → Item}
theorem Srch.wblk (h : Srch w base S W Q A m c x n B D qv k d) : ∃ cs, Blk w W 116 cs := by
  obtain ⟨V, ⟨cs, hb, _⟩, _⟩ := h.ways
  exact ⟨cs, hb⟩
theorem Srch.later (h : Srch w base S W Q A m c x n B D qv k d) (hb : Below w.heap.size w w') : Srch w' base S W Q A m c x n B D qv k d := by
  have f := Fx.new hb (fun _ => False)
  obtain ⟨V, h1, h2⟩ := h.ways
  exact ⟨h.s.fx f id, ⟨V, h1.fx f id, fun i hi => (h2 i hi).fx f fun _ _ _ => id⟩, h.q.later hb, h.links.fx f fun _ _ _ => id, h.low, h.sS, h.sW, h.sQ, h.pos⟩
/-- The queue has turned. -/
theorem Srch.queue (h : Srch w base S W Q A m c x n B D qv k d) {qv' : Value} {k' : Nat} {d' : Nat → Item} (hf : Fr w w' Q qv.ownBlock) (hq : Que w' base Q qv' k' d') : Srch w' base S W Q A m c x n B D qv' k' d' := by
  have f := Fx.fr hf
  have ne : ∀ g t cs, Blk w g t cs → t ≠ 89 → t ≠ 125 → ¬ (g = Q ∨ some g = qv.ownBlock) := fun g t cs hg h1 h2 => by
    rintro (e | e)
    · exact hg.ne h.q.blk h2 e
    · exact h.q.ne_own hg h1 e
  obtain ⟨V, h1, h2⟩ := h.ways
  obtain ⟨cs, hW⟩ := h.wblk
  refine ⟨h.s.fx f (ne _ _ _ h.s (by decide) (by decide)), ⟨V, h1.fx f (ne _ _ _ hW (by decide) (by decide)), fun i hi => (h2 i hi).fx f fun b cs hb => ne _ _ _ hb (by decide) (by decide)⟩, hq, h.links.fx f fun ad e h0 => ?_, h.low, h.sS, h.sW, h.sQ, h.pos⟩
  rintro (e1 | e1)
  · have := h.low ad e h0
    have := h.sQ
    omega
  · have h3 := h.low ad e h0
    have h4 := (h.q.row.lt _ e1.symm).1
    omega
theorem Que.far {w : World} {base Q n : Nat} {v : Value} {d : Nat → Item} {p : Addr} {u : Value} (h : Que w base Q v n d) {g : Nat} {t : TypeId} {cs : Array Value} (hg : Blk w g t cs) (hp : p.block = g) (h1 : t ≠ 89) (h2 : t ≠ 125) : Que (w.setCell p u) base Q v n d := by
  subst hp
  have e1 := hg.ne h.blk h2
  have e2 := h.ne_own hg h1
  exact ⟨h.blk.far (Ne.symm e1) u, h.row.of_block fun g hg' => Below.heap_setCell w p u g (fun e => e2 (by rw [← e, hg'])), h.heap, h.ne⟩
theorem Strip.far {A : Option Addr} {n k : Nat} {f : Nat → Array Value} (h : Strip w A n k f) {p : Addr} (hp : ∀ ad, A = some ad → ad.block ≠ p.block) (u : Value) : Strip (w.setCell p u) A n k f := h.fx (Fx.set w p u) fun ad e _ => hp ad e
/-- A way is laid. -/
theorem Srch.put (h : Srch w base S W Q A m c x n B D qv k d) {i : Nat} (hi : i < n) {v : Value} {l : List Int} {y : Int} (hr : Rt w v l) (hy : 0 ≤ y) : Srch ((w.setCell ⟨W, i * 3, none⟩ v).setCell ⟨W, i * 3 + 1, none⟩ (.int .i64 y)) base S W Q A m c x n (updT B (i : Int) (l, y)) D qv k d := by
  obtain ⟨cs, hW⟩ := h.wblk
  obtain ⟨V, h1, h2⟩ := h.ways
  have hW2 := hW.set_ (i * 3) v
  have f0 := Fx.set w ⟨W, i * 3, none⟩ v
  have f1 := Fx.set (w.setCell ⟨W, i * 3, none⟩ v) ⟨W, i * 3 + 1, none⟩ (.int .i64 y)
  have f := f0.trans f1 fun _ _ e => e
  have hn : ∀ b cs, Blk w b 3 cs → ¬ b = W := fun b cs hb => hb.ne hW (by decide)
  refine ⟨h.s.fx f (h.s.ne hW (by decide)), ⟨_, ((h1.set0 hi v).set1 hi y).congr (fun _ _ => rfl) (fun j hj => ?_) (fun _ _ => rfl), fun j hj => ?_⟩, (h.q.far hW rfl (by decide) (by decide)).far hW2 rfl (by decide) (by decide), h.links.fx f fun ad e h0 => ?_, h.low, h.sS, h.sW, h.sQ, fun p l' c' hp => ?_⟩
  · by_cases e : j = i
    · subst e
      rw [if_pos rfl, updT_same]
      rfl
    · rw [if_neg e, updT_other _ _ (by omega)]
  · by_cases e : j = i
    · subst e
      simp only [if_pos]
      rw [updT_same]
      exact hr.fx f hn
    · simp only [if_neg e]
      rw [updT_other _ _ (by omega)]
      exact (h2 j hj).fx f hn
  · have := h.low ad e h0
    have := h.sW
    show ¬ ad.block = W
    omega
  · by_cases e : p = (i : Int)
    · subst e
      rw [updT_same] at hp
      injection hp with hp
      injection hp with _ hp
      omega
    · rw [updT_other _ _ e] at hp
      exact h.pos p l' c' hp
/-- A node is settled. -/
theorem Srch.mark (h : Srch w base S W Q A m c x n B D qv k d) {i : Nat} (hi : i < n) : Srch (w.setCell ⟨W, i * 3 + 2, none⟩ (.bool true)) base S W Q A m c x n B (updD D (i : Int)) qv k d := by
  obtain ⟨cs, hW⟩ := h.wblk
  obtain ⟨V, h1, h2⟩ := h.ways
  have f := Fx.set w ⟨W, i * 3 + 2, none⟩ (.bool true)
  have hn : ∀ b cs, Blk w b 3 cs → ¬ b = W := fun b cs hb => hb.ne hW (by decide)
  refine ⟨h.s.fx f (h.s.ne hW (by decide)), ⟨V, (h1.set2 hi true).congr (fun _ _ => rfl) (fun _ _ => rfl) (fun j hj => ?_), fun j hj => (h2 j hj).fx f hn⟩, h.q.far hW rfl (by decide) (by decide), h.links.fx f fun ad e h0 => ?_, h.low, h.sS, h.sW, h.sQ, h.pos⟩
  · by_cases e : j = i
    · subst e
      rw [if_pos rfl, updD_same]
    · rw [if_neg e, updD_other _ (by omega)]
  · have := h.low ad e h0
    have := h.sW
    show ¬ ad.block = W
    omega
end
end Go.Proofs.Yteaipeejhippiaa
