/- The layered search in memory: its block, the two maps, the queue, the routes. -/
import Derived.Test.YteaipeejhippiaaPDj
namespace Go.Proofs.Yteaipeejhippiaa
open Go.RowKit Go.ChangeMaps Go.MapKept
open Go.Maps (Keyed)
attribute [local go_sem] cell_set_self
set_option linter.unusedVariables false

theorem MapOf.ne_blk {P : Program} {k : TypeId} {w : World} {b n g : Nat} {f : Value → Option Value} {t : TypeId} {cs : Array Value} (h : MapOf P k w b n f) (hg : Blk w g t cs) : g ≠ b := fun e => by
  subst e
  obtain ⟨es, c, hb, _⟩ := h
  unfold Blk at hg
  rw [hb] at hg
  injection hg with hg
  cases hg
theorem MapOf.fx {P : Program} {k : TypeId} {w w' : World} {b n : Nat} {f : Value → Option Value} {X : Nat → Prop} (h : MapOf P k w b n f) (hf : Fx w w' X) (hX : ¬ X b) : MapOf P k w' b n f := h.of_block (hf.block b h.lt hX)
theorem Fx.grown {w w' : World} {g : Nat} (h : w.grownBy w' (some g)) : Fx w w' (fun j => j = g) := ⟨h.os, h.tape, h.output, h.size, fun i hi hx => h.block i hi fun e => hx (by injection e)⟩
theorem Row.fx {w w' : World} {B : Nat} {xs : Array Value} {X : Nat → Prop} (h : Row w B xs) (hf : Fx w w' X) (hX : ¬ X B) : Row w' B xs :=
  ⟨fun o => (show w'.cell? ⟨B, o, none⟩ = w.cell? ⟨B, o, none⟩ from World.cell?_of_block (hf.block B h.2.2 hX)).trans (h.1 o), fun o => by
    have e := h.2.1 o
    unfold World.frozen? at e ⊢
    rw [hf.block B h.2.2 hX]
    exact e, Nat.lt_of_lt_of_le h.2.2 hf.size⟩
section
variable {P : Program} {w : World} {o : Oper} {ρ : Operand → Value}
theorem look_yes (m x : Operand) (t : TypeId) (hop : o.op = Op.lookup t m x true) (k e : TypeId) (K : Keyed P k) (ht : P.underlying t = some (.map k e)) (b n : Nat) (f : Value → Option Value) (z : Value) (hz : (zeroValue e).run P w = .ok z w) (hm : ρ m = .map (some b)) (h : MapOf P k w b n f) (key : Value) (hx : ρ x = key) (hkey : ∃ kl, keyOf P k key = some kl) (y : Value) (hf : f key = some y) :
    (execOp ρ o).run P w = .ok (.value (.tuple #[y, .bool true])) w := by
  obtain ⟨kl, hkey⟩ := hkey
  simp only [execOp, hop, hm, hx, Sem.run_bind, Sem.run_pure, h.look K ht hz hkey true, Result.andThen_ok, hf]
  rfl
theorem look_no (m x : Operand) (t : TypeId) (hop : o.op = Op.lookup t m x true) (k e : TypeId) (K : Keyed P k) (ht : P.underlying t = some (.map k e)) (b n : Nat) (f : Value → Option Value) (z : Value) (hz : (zeroValue e).run P w = .ok z w) (hm : ρ m = .map (some b)) (h : MapOf P k w b n f) (key : Value) (hx : ρ x = key) (hkey : ∃ kl, keyOf P k key = some kl) (hf : f key = none) :
    (execOp ρ o).run P w = .ok (.value (.tuple #[z, .bool false])) w := by
  obtain ⟨kl, hkey⟩ := hkey
  simp only [execOp, hop, hm, hx, Sem.run_bind, Sem.run_pure, h.look K ht hz hkey true, Result.andThen_ok, hf]
  rfl
theorem look_at (m x : Operand) (t : TypeId) (hop : o.op = Op.lookup t m x false) (k e : TypeId) (K : Keyed P k) (ht : P.underlying t = some (.map k e)) (b n : Nat) (f : Value → Option Value) (z : Value) (hz : (zeroValue e).run P w = .ok z w) (hm : ρ m = .map (some b)) (h : MapOf P k w b n f) (key : Value) (hx : ρ x = key) (hkey : ∃ kl, keyOf P k key = some kl) (y : Value) (hf : f key = some y) :
    (execOp ρ o).run P w = .ok (.value y) w := by
  obtain ⟨kl, hkey⟩ := hkey
  simp only [execOp, hop, hm, hx, Sem.run_bind, Sem.run_pure, h.look K ht hz hkey false, Result.andThen_ok, hf]
  rfl
end
theorem zero87 (w : World) : (zeroValue 87).run Try.prog w = .ok (.agg #[.slice none 0 0, .int .i64 0]) w := by kernel_rfl
theorem zero94 (w : World) : (zeroValue 94).run Try.prog w = .ok (.agg #[.int .i64 0, .int .i64 0]) w := by kernel_rfl
/-- The map of the best ways. -/
def BestM (w : World) (b : Nat) (B : (Int × Int → Option (List Int × Int))) : Prop := ∃ cnt f, MapOf Try.prog 94 w b cnt f ∧ ∀ v h, match B (v, h) with
  | none => f (key2 v h) = none
  | some y => ∃ sv, f (key2 v h) = some (.agg #[sv, .int .i64 y.2]) ∧ Rt w sv y.1
/-- The map of the settled places. -/
def DoneM (w : World) (b : Nat) (D : Int × Int → Bool) : Prop := ∃ cnt f, MapOf Try.prog 94 w b cnt f ∧ ∀ v h, match D (v, h) with
  | false => f (key2 v h) = none
  | true => ∃ y, f (key2 v h) = some y ∧ ∃ p q, y = .agg #[.int .i64 p, .int .i64 q]
section
variable {w w' : World} {b : Nat} {B : (Int × Int → Option (List Int × Int))} {D : Int × Int → Bool} {X : Nat → Prop}
theorem BestM.fx (h : BestM w b B) (f : Fx w w' X) (hb : ¬ X b) (hX : ∀ b cs, Blk w b 3 cs → ¬ X b) : BestM w' b B := by
  obtain ⟨cnt, g, h1, h2⟩ := h
  refine ⟨cnt, g, h1.fx f hb, fun v h => ?_⟩
  have h3 := h2 v h
  cases hB : B (v, h) with
  | none => rw [hB] at h3; exact h3
  | some y =>
    rw [hB] at h3
    obtain ⟨sv, h4, h5⟩ := h3
    exact ⟨sv, h4, h5.fx f hX⟩
theorem DoneM.fx (h : DoneM w b D) (f : Fx w w' X) (hb : ¬ X b) : DoneM w' b D := by
  obtain ⟨cnt, g, h1, h2⟩ := h
  exact ⟨cnt, g, h1.fx f hb, h2⟩
end
/-- The layered search at S: the links, the two maps, the queue at Q. -/
structure Lay (w : World) (base S Mb Md Q : Nat) (A : Option Addr) (m c : Nat) (x : Nat → Lnk) (n : Nat) (B : (Int × Int → Option (List Int × Int))) (D : Int × Int → Bool) (qv : Value) (k : Nat) (d : Nat → Item) : Prop where
  s : Blk w S 84 #[.slice A m c, .int .i64 ((n : Int) - 1), .map (some Mb), .map (some Md), .pointer (some ⟨Q, 0, none⟩)]
  best : BestM w Mb B
  done : DoneM w Md D
  q : Que w base Q qv k d
  links : Strip w A m 5 (fun i => link (x i))
  low : ∀ ad, A = some ad → 0 < m → ad.block < base ∨ ∃ cs, Blk w ad.block 34 cs
  sS : base ≤ S
  sB : base ≤ Mb
  sD : base ≤ Md
  sQ : base ≤ Q
  ne : Mb ≠ Md
  pos : ∀ i l c, B i = some (l, c) → 0 ≤ c
section
variable {w w' : World} {base S Mb Md Q : Nat} {A : Option Addr} {m c : Nat} {x : Nat → Lnk} {n : Nat} {B : (Int × Int → Option (List Int × Int))} {D : Int × Int → Bool} {qv : Value} {k : Nat} {d : Nat → Item}
theorem BestM.ne_blk {b g : Nat} {t : TypeId} {cs : Array Value} (h : BestM w b B) (hg : Blk w g t cs) : g ≠ b := by
  obtain ⟨_, _, h1, _⟩ := h
  exact h1.ne_blk hg
theorem DoneM.ne_blk {b g : Nat} {t : TypeId} {cs : Array Value} (h : DoneM w b D) (hg : Blk w g t cs) : g ≠ b := by
  obtain ⟨_, _, h1, _⟩ := h
  exact h1.ne_blk hg
theorem BestM.lt {b : Nat} (h : BestM w b B) : b < w.heap.size := by
  obtain ⟨_, _, h1, _⟩ := h
  exact h1.lt
theorem DoneM.lt {b : Nat} (h : DoneM w b D) : b < w.heap.size := by
  obtain ⟨_, _, h1, _⟩ := h
  exact h1.lt
theorem Que.own_blk {w : World} {base Q n g : Nat} {v : Value} {d : Nat → Item} (h : Que w base Q v n d) (hg : v.ownBlock = some g) : ∃ cs, Blk w g 89 cs := by
  obtain ⟨xs, hx, _⟩ := h.row
  rcases hx.2 with ⟨rfl, _⟩ | ⟨g', cap, cur, rfl, _, hh, _⟩
  · simp [Value.ownBlock] at hg
  · have e : g' = g := by simpa [Value.ownBlock] using hg
    subst e
    exact ⟨cur, hh⟩
/-- What is no part of the search has turned. -/
theorem Lay.fx {X : Nat → Prop} (h : Lay w base S Mb Md Q A m c x n B D qv k d) (f : Fx w w' X) (hs : ¬ X S) (hb : ¬ X Mb) (hd : ¬ X Md) (hQ : ¬ X Q) (ho : ∀ g, qv.ownBlock = some g → ¬ X g) (hr : ∀ b cs, Blk w b 3 cs → ¬ X b) (hl : ∀ j, j < base → ¬ X j) (hk : ∀ b cs, Blk w b 34 cs → ¬ X b) : Lay w' base S Mb Md Q A m c x n B D qv k d :=
  ⟨h.s.fx f hs, h.best.fx f hb hr, h.done.fx f hd, h.q.fx f hQ ho, h.links.fx f (fun ad e h0 => (h.low ad e h0).elim (hl _) fun ⟨cs, hc⟩ => hk _ cs hc), fun ad e h0 => (h.low ad e h0).imp id fun ⟨cs, hc⟩ => ⟨cs, hc.fx f (hk _ cs hc)⟩, h.sS, h.sB, h.sD, h.sQ, h.ne, h.pos⟩
theorem Lay.later (h : Lay w base S Mb Md Q A m c x n B D qv k d) (hb : Below w.heap.size w w') : Lay w' base S Mb Md Q A m c x n B D qv k d :=
  h.fx (Fx.new hb fun _ => False) id id id id (fun _ _ => id) (fun _ _ _ => id) (fun _ _ => id) fun _ _ _ => id
/-- The queue has turned. -/
theorem Lay.queue (h : Lay w base S Mb Md Q A m c x n B D qv k d) {qv' : Value} {k' : Nat} {d' : Nat → Item} (hf : Fr w w' Q qv.ownBlock) (hq : Que w' base Q qv' k' d') : Lay w' base S Mb Md Q A m c x n B D qv' k' d' := by
  have f := Fx.fr hf
  have ne : ∀ g t cs, Blk w g t cs → t ≠ 89 → t ≠ 125 → ¬ (g = Q ∨ some g = qv.ownBlock) := fun g t cs hg h1 h2 => by
    rintro (e | e)
    · exact hg.ne h.q.blk h2 e
    · exact h.q.ne_own hg h1 e
  have nm : ∀ b, (∀ g t cs, Blk w g t cs → g ≠ b) → ¬ (b = Q ∨ some b = qv.ownBlock) := fun b hb => by
    rintro (e | e)
    · exact hb _ _ _ h.q.blk e.symm
    · obtain ⟨cs, hc⟩ := h.q.own_blk e.symm
      exact hb _ _ _ hc rfl
  refine ⟨h.s.fx f (ne _ _ _ h.s (by decide) (by decide)), h.best.fx f (nm _ fun g t cs hg => h.best.ne_blk hg) fun b cs hb => ne _ _ _ hb (by decide) (by decide), h.done.fx f (nm _ fun g t cs hg => h.done.ne_blk hg), hq, h.links.fx f fun ad e h0 => ?_, fun ad e h0 => (h.low ad e h0).imp id fun ⟨cs, hc⟩ => ⟨cs, hc.fx f (ne _ _ _ hc (by decide) (by decide))⟩, h.sS, h.sB, h.sD, h.sQ, h.ne, h.pos⟩
  rcases h.low ad e h0 with h3 | ⟨cs, hc⟩
  · rintro (e1 | e1)
    · have := h.sQ
      omega
    · have h4 := (h.q.row.lt _ e1.symm).1
      omega
  · exact ne _ _ _ hc (by decide) (by decide)
theorem key2_ne {a b c d : Int} (h : (a, b) ≠ (c, d)) : key2 a b ≠ key2 c d := fun e => h (by
  obtain ⟨h1, h2⟩ := key2_inj.1 e
  rw [h1, h2])
/-- A way is laid. -/
theorem Lay.put (h : Lay w base S Mb Md Q A m c x n B D qv k d) {v hh : Int} {sv : Value} {l : List Int} {y : Int} (hr : Rt w sv l) (hy : 0 ≤ y) {cnt : Nat} {f : Value → Option Value}
    (hm : ∀ v h, match B (v, h) with | none => f (key2 v h) = none | some y => ∃ sv, f (key2 v h) = some (.agg #[sv, .int .i64 y.2]) ∧ Rt w sv y.1)
    (h1 : MapOf Try.prog 94 w' Mb cnt (lay f (key2 v hh) (.agg #[sv, .int .i64 y]))) (h2 : w.grownBy w' (some Mb)) : Lay w' base S Mb Md Q A m c x n (updT B (v, hh) (l, y)) D qv k d := by
  have f2 := Fx.grown h2
  have nb : ∀ g t cs, Blk w g t cs → ¬ g = Mb := fun g t cs hg => h.best.ne_blk hg
  refine ⟨h.s.fx f2 (nb _ _ _ h.s), ⟨cnt, _, h1, fun v' h' => ?_⟩, h.done.fx f2 (Ne.symm h.ne), h.q.fx f2 (nb _ _ _ h.q.blk) (fun g hg => by
    obtain ⟨cs, hc⟩ := h.q.own_blk hg
    exact nb _ _ _ hc), h.links.fx f2 (fun ad e h0 => (h.low ad e h0).elim (fun h3 e' => by
    have := h.sB
    omega) fun ⟨cs, hc⟩ => nb _ _ _ hc), fun ad e h0 => (h.low ad e h0).imp id fun ⟨cs, hc⟩ => ⟨cs, hc.fx f2 (nb _ _ _ hc)⟩, h.sS, h.sB, h.sD, h.sQ, h.ne, fun i l' c' hi => ?_⟩
  · by_cases e : (v', h') = (v, hh)
    · injection e with e1 e2
      subst e1 e2
      rw [updT_same]
      exact ⟨sv, lay_same _ _ _, hr.fx f2 fun b cs hb => nb _ _ _ hb⟩
    · rw [updT_other _ _ e, lay_other _ _ (key2_ne e)]
      have h3 := hm v' h'
      cases hB : B (v', h') with
      | none => rw [hB] at h3; exact h3
      | some y =>
        rw [hB] at h3
        obtain ⟨sv', h4, h5⟩ := h3
        exact ⟨sv', h4, h5.fx f2 fun b cs hb => nb _ _ _ hb⟩
  · by_cases e : i = (v, hh)
    · subst e
      rw [updT_same] at hi
      injection hi with hi
      injection hi with _ hi
      omega
    · rw [updT_other _ _ e] at hi
      exact h.pos i l' c' hi
/-- A place is settled. -/
theorem Lay.mark (h : Lay w base S Mb Md Q A m c x n B D qv k d) {v hh : Int} {p q : Int} {cnt : Nat} {f : Value → Option Value} (hm : ∀ v h, match D (v, h) with | false => f (key2 v h) = none | true => ∃ y, f (key2 v h) = some y ∧ ∃ p q, y = .agg #[.int .i64 p, .int .i64 q])
    (h1 : MapOf Try.prog 94 w' Md cnt (lay f (key2 v hh) (.agg #[.int .i64 p, .int .i64 q]))) (h2 : w.grownBy w' (some Md)) : Lay w' base S Mb Md Q A m c x n B (updD D (v, hh)) qv k d := by
  have f2 := Fx.grown h2
  have nb : ∀ g t cs, Blk w g t cs → ¬ g = Md := fun g t cs hg => h.done.ne_blk hg
  refine ⟨h.s.fx f2 (nb _ _ _ h.s), h.best.fx f2 h.ne fun b cs hb => nb _ _ _ hb, ⟨cnt, _, h1, fun v' h' => ?_⟩, h.q.fx f2 (nb _ _ _ h.q.blk) (fun g hg => by
    obtain ⟨cs, hc⟩ := h.q.own_blk hg
    exact nb _ _ _ hc), h.links.fx f2 (fun ad e h0 => (h.low ad e h0).elim (fun h3 e' => by
    have := h.sD
    omega) fun ⟨cs, hc⟩ => nb _ _ _ hc), fun ad e h0 => (h.low ad e h0).imp id fun ⟨cs, hc⟩ => ⟨cs, hc.fx f2 (nb _ _ _ hc)⟩, h.sS, h.sB, h.sD, h.sQ, h.ne, h.pos⟩
  by_cases e : (v', h') = (v, hh)
  · injection e with e1 e2
    subst e1 e2
    rw [updD_same]
    exact ⟨_, lay_same _ _ _, p, q, rfl⟩
  · rw [updD_other _ e, lay_other _ _ (key2_ne e)]
    exact hm v' h'
end
end Go.Proofs.Yteaipeejhippiaa
