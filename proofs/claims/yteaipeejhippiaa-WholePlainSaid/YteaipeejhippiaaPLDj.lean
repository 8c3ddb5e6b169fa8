/- The layered search takes the least item, and goes on from it: Pop and settle, with the plain law. -/
import Derived.Test.YteaipeejhippiaaPLSet
namespace Go.Proofs.Yteaipeejhippiaa
open Go.RowKit
attribute [local go_sem] cell_set_self
set_option linter.unusedVariables false

/-- The layered search has taken the item y0, or none is left; at most g more are to come. -/
structure LDj (w0 wr : World) (base S Mb Md Q : Nat) (A : Option Addr) (m c : Nat) (x : Nat → Lnk) (n : Nat) (fr : Int) (B : (Int × Int → Option (List Int × Int))) (D : Int × Int → Bool) (qv : Value) (k : Nat) (d : Nat → Item) (T : Int) (r : Nat) (C : Int × Int → Nat → Prop) (g : Nat) (y0 : Option Item) : Prop where
  s : Lay wr base S Mb Md Q A m c x n B D qv k d
  keeps : Keeps M2 (okP n) m x fr B D (fun y => many d k y + match y0 with | none => 0 | some z => if z = y then 1 else 0) T r C
  full : Full m x fr skP B D C (fun _ => False)
  least : ∀ z, y0 = some z → ∀ y, 0 < many d k y → z.cost ≤ y.cost
  gone : y0 = none → k = 0
  pot : k + (match y0 with | none => 0 | some _ => 1) + pot2 x m n D ≤ g
  sum : r + g ≤ 1000
  below : Below base w0 wr
section
variable {w0 w w' : World} {base S Mb Md Q : Nat} {A : Option Addr} {m c : Nat} {x : Nat → Lnk} {n : Nat} {fr : Int} {B : (Int × Int → Option (List Int × Int))} {D : Int × Int → Bool} {qv : Value} {k : Nat} {d : Nat → Item} {T : Int} {r : Nat} {C : Int × Int → Nat → Prop} {g : Nat} {y0 : Option Item}
theorem LDj.later (h : LDj w0 w base S Mb Md Q A m c x n fr B D qv k d T r C g y0) (hb : Below w.heap.size w w') (hB : base ≤ w.heap.size) : LDj w0 w' base S Mb Md Q A m c x n fr B D qv k d T r C g y0 :=
  ⟨h.s.later hb, h.keeps, h.full, h.least, h.gone, h.pot, h.sum, h.below.trans (hb.mono hB)⟩
def LDPopPost (w0 w : World) (base S Mb Md Q : Nat) (A : Option Addr) (m c : Nat) (x : Nat → Lnk) (n : Nat) (fr : Int) (B : (Int × Int → Option (List Int × Int))) (D : Int × Int → Bool) (T : Int) (r : Nat) (C : Int × Int → Nat → Prop) (g : Nat) (e : Ending) (w' : World) : Prop :=
  ∃ (z : Item) (er : Int), e = .returned (.tuple #[.agg #[.int .i64 z.cost, .int .i64 z.hops, .int .i64 z.node], .int .i64 er]) ∧ ∃ qv' k' d' y0, LDj w0 w' base S Mb Md Q A m c x n fr B D qv' k' d' T r C g y0 ∧ (y0 = none → er = 8) ∧ (∀ z', y0 = some z' → z' = z ∧ er = 0) ∧ w.heap.size ≤ w'.heap.size
theorem LDPop_calls (h : Lay w base S Mb Md Q A m c x n B D qv k d) (K : Keeps M2 (okP n) m x fr B D (many d k) T r C) (F : Full m x fr skP B D C (fun _ => False)) (hp : k + pot2 x m n D ≤ g) (hs : r + g ≤ 1000) (hb : Below base w0 w) (hB : base ≤ w.heap.size) :
    Calls Try.prog 29 #[.pointer (some ⟨Q, 0, none⟩)] w (LDPopPost w0 w base S Mb Md Q A m c x n fr B D T r C g) := by
  cases k with
  | zero =>
    refine (QNone_calls w base Q qv d h.q).mono fun e w' h1 => ?_
    obtain ⟨rfl, h2⟩ := h1
    exact ⟨⟨0, 0, 0⟩, 8, rfl, qv, 0, d, none, ⟨h.later h2, K.count fun y => by simp [many], F, (fun z e => by cases e), fun _ => rfl, by simpa using hp, hs, hb.trans (h2.mono hB)⟩, fun _ => rfl, (fun z e => by cases e), h2.size⟩
  | succ k =>
    refine (QPop_calls w base Q k qv d h.q (by omega)).mono fun e w' h1 => ?_
    obtain ⟨rfl, v', d', h2, h3, h4, h5⟩ := h1
    have f := Fx.fr h4
    refine ⟨d 0, 0, rfl, v', k, d', some (d 0), ⟨h.queue h4 h2, K.count fun y => h3 y, F, fun z e y hy => ?_, (fun e => by cases e), by simpa using hp, hs, hb.trans (f.below hB fun i e => ?_)⟩, (fun e => by cases e), (fun z e => by injection e with e; exact ⟨e.symm, rfl⟩), f.size⟩
    · injection e with e
      subst e
      have h6 := h3 y
      obtain ⟨j, hj, rfl⟩ := many_pos.1 (show 0 < many d (k + 1) y by omega)
      have h7 := heap_least h.q.heap j hj
      unfold Less at h7
      omega
    · rcases e with e | e
      · rw [e]; exact h.sQ
      · exact (h.q.row.lt i e.symm).1
def LDSettlePost (w0 w : World) (base S Mb Md Q : Nat) (A : Option Addr) (m c : Nat) (x : Nat → Lnk) (n : Nat) (fr : Int) (g : Nat) (e : Ending) (w' : World) : Prop :=
  e = .returned (.tuple #[]) ∧ ∃ B' D' qv' k' d' T' r' C', Lay w' base S Mb Md Q A m c x n B' D' qv' k' d' ∧ Keeps M2 (okP n) m x fr B' D' (many d' k') T' r' C' ∧ Full m x fr skP B' D' C' (fun _ => False) ∧ k' + pot2 x m n D' ≤ g ∧ r' + g ≤ 1000 ∧ Below base w0 w' ∧ w.heap.size ≤ w'.heap.size
theorem LDSettle_calls {z : Item} (h : LDj w0 w base S Mb Md Q A m c x n fr B D qv k d T r C (g + 1) (some z)) (N : Net (n : Int) m x) (hf : 0 ≤ fr ∧ fr < n) (hB : base ≤ w.heap.size) :
    Calls Try.prog 30 #[.pointer (some ⟨S, 0, none⟩), .agg #[.int .i64 z.node, .int .i64 z.hops]] w (LDSettlePost w0 w base S Mb Md Q A m c x n fr g) := by
  have hq : ∀ y, many d k y + (if z = y then 1 else 0) = many d k y + (match (some z : Option Item) with | none => 0 | some z => if z = y then 1 else 0) := fun _ => rfl
  have h0 : 0 < many d k z + (match (some z : Option Item) with | none => 0 | some z' => if z' = z then 1 else 0) := by simp
  have hl : ∀ y, 0 < many d k y + (match (some z : Option Item) with | none => 0 | some z' => if z' = y then 1 else 0) → z.cost ≤ y.cost := fun y hy => by
    by_cases e : z = y
    · rw [e]; exact Int.le_refl _
    · refine h.least z rfl y ?_
      simp only [if_neg e] at hy
      omega
  obtain ⟨hT, l, cc, hBz, _⟩ := h.keeps.item z h0
  obtain ⟨⟨v, hw, hv⟩, _, hlr⟩ := h.keeps.valid _ _ _ hBz
  have hv2 : (z.node, z.hops) = (v, ((l.length : Nat) : Int) - 1) := hv
  injection hv2 with hv3 hv4
  have hr := hw.range N.may hf
  have hlen := hw.len.1
  obtain ⟨kk, hkk⟩ := hw.last
  have hvr := hr.1 v (by rw [hkk]; simp)
  obtain ⟨i, hi⟩ : ∃ i : Nat, z.node = (i : Int) := ⟨z.node.toNat, by omega⟩
  obtain ⟨hp, hhp⟩ : ∃ hp : Nat, z.hops = (hp : Int) := ⟨z.hops.toNat, by omega⟩
  have hin : i < n := by omega
  have hpot := h.pot
  have hsum := h.sum
  have hn16 := N.n1
  simp only at hpot
  have e0 : M2.pl z.hops z.node = ((i : Int), (hp : Int)) := by
    show (z.node, z.hops) = _
    rw [hi, hhp]
  by_cases hc : D ((i : Int), (hp : Int)) = true ∨ ¬ okP n ((i : Int), (hp : Int))
  · have hk := h.keeps.drop z h0 hq hl (by rw [e0]; exact hc)
    rw [hi, hhp]
    refine (LSettled_calls w base S Mb Md Q A m c x n B D qv k d i hp h.s (by omega) (by omega) hc).mono fun e w' h1 => ?_
    obtain ⟨rfl, h2⟩ := h1
    exact ⟨rfl, B, D, qv, k, d, _, r, C, h.s.later h2, hk, h.full, by omega, by omega, h.below.trans (h2.mono hB), h2.size⟩
  · have hD : D ((i : Int), (hp : Int)) = false := by
      cases hd : D ((i : Int), (hp : Int)) with
      | true => exact absurd (.inl hd) hc
      | false => rfl
    have hok : okP n ((i : Int), (hp : Int)) := Classical.byContradiction fun h => hc (.inr h)
    obtain ⟨hk, l2, hB2⟩ := h.keeps.settle z h0 hq hl (by rw [e0]; exact hD) (by rw [e0]; exact hok)
    rw [e0] at hk hB2
    rw [hi, hhp]
    have hok2 : (hp : Int) < (n : Int) - 1 := hok
    have hps := pot2_settle x m n D hin (h := hp) (by omega) hD
    have := N.m1
    refine (LSettle_calls w base S Mb Md Q A m c x n fr B D qv k d i hp z.cost l2 r C h.s N hin hok2 hD hB2 hk h.full (by omega) (by omega) hB).mono fun e w' h1 => ?_
    obtain ⟨rfl, B', qv', k', d', C', s1, s2, s3, s4, s5, s6⟩ := h1
    exact ⟨rfl, B', _, qv', k', d', _, _, C', s1, s2, s3, by omega, by omega, h.below.trans (s5.below hB fun j e => by
      rcases e with e | e | e | e
      · rw [e]; exact h.s.sB
      · rw [e]; exact h.s.sD
      · rw [e]; exact h.s.sQ
      · exact (h.s.q.row.lt j e.symm).1), s5.size⟩
end
end Go.Proofs.Yteaipeejhippiaa
