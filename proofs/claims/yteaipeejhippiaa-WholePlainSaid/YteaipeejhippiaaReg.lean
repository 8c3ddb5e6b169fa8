/- A region that draws its order, whose first operations read, compute, call and make fresh memory, and whose last ones follow in one order: one walk in the order of the text serves every order. -/
import Derived.Test.YteaipeejhippiaaMem
import Derived.Orders
import Derived.Still
namespace Go.Proofs.Yteaipeejhippiaa
open Go.RowKit
section
variable {P : Program} {ops : Array Oper} {Q : Exit → Act → World → Prop} {W : World}

/-- A value, or a call that leaves what was there. -/
def upB (P : Program) (w : World) (v : Value) : Result Next → Prop
  | .ok (.value u) w' => w' = w ∧ u = v
  | .ok (.enter f args) w' => w' = w ∧ Calls P f args w fun e w'' => e = .returned v ∧ Below w.heap.size w w''
  | _ => False
/-- In whatever world that has W's blocks it yields v. -/
def YB (P : Program) (ops : Array Oper) (W : World) (o : Oper) (v : Value) (a : Act) : Prop :=
  (Region.wanted o (yielded ops a.tmps) = true ∧ ∀ w, Below W.heap.size W w → upB P w v ((execOp a.eval o).run P w)) ∨ (Region.wanted o (yielded ops a.tmps) = false ∧ v = undef)
/-- It makes a block of its own, at the heap's end. -/
def Fresh (P : Program) (o : Oper) (z : Array Value) : Prop := o.guard = none ∧ ∀ (ρ : Operand → Value) (w : World), ∃ t, (execOp ρ o).run P w = .ok (.value (.pointer (some ⟨w.heap.size, 0, none⟩))) (w.alloc (.cells z t))

/-- The walk in the order of the text: kinds 0 (reads or calls), 1 (fresh memory), 2 (a value in every world). -/
def wpPre (P : Program) (ops : Array Oper) (W : World) (R : Act → Prop) : List Oper → List Nat → Act → Prop
  | o :: l, k :: ks, a =>
    match k with
    | 0 => ∃ v, YB P ops W o v a ∧ wpPre P ops W R l ks (a.put o.dst v)
    | 1 => wpPre P ops W R l ks a
    | _ => ∃ v, Yields P ops o v a ∧ wpPre P ops W R l ks (a.put o.dst v)
  | _, _, a => R a

theorem wpPre_tells {R : Act → Prop} : ∀ (l : List Oper) (ks : List Nat) (a : Act), ks.length ≤ l.length → wpPre P ops W R l ks a →
    ∃ (v : Nat → Value) (A : Nat → Act), A 0 = a ∧ R (A ks.length) ∧ ∀ i o, i < ks.length → l[i]? = some o →
      (ks[i]? = some 1 → A (i + 1) = A i) ∧ (ks[i]? ≠ some 1 → A (i + 1) = (A i).put o.dst (v i)) ∧ (ks[i]? = some 0 → YB P ops W o (v i) (A i)) ∧ (ks[i]? ≠ some 0 → ks[i]? ≠ some 1 → Yields P ops o (v i) (A i))
  | l, [], a, _, h => ⟨fun _ => undef, fun _ => a, rfl, by cases l <;> exact h, fun i o hi _ => absurd hi (by simp)⟩
  | [], k :: ks, a, hl, _ => absurd hl (by simp)
  | o :: l, k :: ks, a, hl, h => by
    have hl' : ks.length ≤ l.length := by simpa using hl
    have step : ∀ (v0 : Value) (a' : Act), wpPre P ops W R l ks a' → (k = 1 → a' = a) → (k ≠ 1 → a' = a.put o.dst v0) → (k = 0 → YB P ops W o v0 a) → (k ≠ 0 → k ≠ 1 → Yields P ops o v0 a) →
        ∃ (v : Nat → Value) (A : Nat → Act), A 0 = a ∧ R (A (k :: ks).length) ∧ ∀ i o', i < (k :: ks).length → (o :: l)[i]? = some o' →
          ((k :: ks)[i]? = some 1 → A (i + 1) = A i) ∧ ((k :: ks)[i]? ≠ some 1 → A (i + 1) = (A i).put o'.dst (v i)) ∧ ((k :: ks)[i]? = some 0 → YB P ops W o' (v i) (A i)) ∧ ((k :: ks)[i]? ≠ some 0 → (k :: ks)[i]? ≠ some 1 → Yields P ops o' (v i) (A i)) := by
      intro v0 a' h' e1 e2 e3 e4
      obtain ⟨v, A, hA, hR, hs⟩ := wpPre_tells l ks a' hl' h'
      refine ⟨fun i => match i with | 0 => v0 | i + 1 => v i, fun i => match i with | 0 => a | i + 1 => A i, rfl, hR, ?_⟩
      intro i o' hi ho
      cases i with
      | zero =>
        simp only [List.getElem?_cons_zero, Option.some.injEq] at ho ⊢
        subst ho
        exact ⟨fun h1 => hA.trans (e1 h1), fun h1 => hA.trans (e2 (fun e => h1 (by rw [e]))), e3, fun h0 h1 => e4 (fun e => h0 (by rw [e])) (fun e => h1 (by rw [e]))⟩
      | succ i =>
        simp only [List.getElem?_cons_succ] at ho ⊢
        exact hs i o' (by simpa using hi) ho
    match k, h with
    | 0, h => obtain ⟨v0, hy, h'⟩ := h; exact step v0 _ h' (fun e => absurd e (by decide)) (fun _ => rfl) (fun _ => hy) (fun e => absurd rfl e)
    | 1, h => exact step undef _ h (fun _ => rfl) (fun e => absurd rfl e) (fun e => absurd e (by decide)) (fun _ e => absurd rfl e)
    | k + 2, h => obtain ⟨v0, hy, h'⟩ := h; exact step v0 _ h' (fun e => absurd e (by omega)) (fun _ => rfl) (fun e => absurd e (by omega)) (fun _ _ => hy)

theorem wpPre_mono {R R' : Act → Prop} (hR : ∀ a, R a → R' a) : ∀ (l : List Oper) (ks : List Nat) (a : Act), wpPre P ops W R l ks a → wpPre P ops W R' l ks a
  | [], [], _, h => hR _ h
  | _ :: _, [], _, h => hR _ h
  | [], _ :: _, _, h => hR _ h
  | _ :: l, 0 :: ks, _, ⟨v, hy, h⟩ => ⟨v, hy, wpPre_mono hR l ks _ h⟩
  | _ :: l, 1 :: ks, a, h => wpPre_mono hR l ks a h
  | _ :: l, (_ + 2) :: ks, _, ⟨v, hy, h⟩ => ⟨v, hy, wpPre_mono hR l ks _ h⟩

/-! ### The conditions on the region's text -/
def bd (ops : Array Oper) (i j : Nat) : Bool := match ops[i]? with
  | some o => o.after.any fun e => Region.binds .any e && e.on == j
  | none => false
def reachB (ops : Array Oper) : Nat → Nat → Nat → Bool
  | 0, _, _ => false
  | f + 1, k, j => bd ops k j || (List.range ops.size).any fun m => bd ops k m && reachB ops f m j
def dstOf (ops : Array Oper) (i : Nat) : Option Tmp := (ops[i]?).bind (·.dst)
/-- What has come up: the first k. -/
def upTo (s k : Nat) : Array Bool := ((List.range s).map fun i => decide (i < k)).toArray
def opOk (ops : Array Oper) (ks : List Nat) (s0 : Nat) (i : Nat) (o : Oper) : Bool :=
  (match o.dst with
    | some t => decide (t < s0) && (List.range ks.length).all fun j => j == i || dstOf ops j != some t
    | none => false) &&
  (List.range ks.length).all (fun j => j == i || match dstOf ops j with
    | some t => !(o.looksAt ops).contains t || (decide (j < i) && ks[j]? != some 1 && bd ops i j)
    | none => true) &&
  o.after.all (fun e => !Region.binds .any e || decide (e.on < i)) &&
  (ks[i]? == some 0 || ks[i]? == some 1 || (List.range ops.size).all fun j => j == i || bd ops i j || bd ops j i || match ops[j]? with
    | some oj => o.apart ops oj
    | none => true)
def regOk (ops : Array Oper) (ks : List Nat) (s0 : Nat) : Bool :=
  Region.noSelect ops && decide (ks.length ≤ ops.size) &&
  (List.range ks.length).all (fun i => match ops[i]? with
    | some o => opOk ops ks s0 i o
    | none => false) &&
  (List.range ops.size).all (fun k => decide (k < ks.length) || (List.range ks.length).all fun j => !(ks[j]? == some 0 || ks[j]? == some 1) || reachB ops 4 k j) &&
  (List.range (ops.size + 1)).all (fun k => decide (k < ks.length) || Region.ready .any ops (upTo ops.size k) == (if k < ops.size then [k] else []))

/-- What holds on the way. -/
structure Inv (ops : Array Oper) (ks : List Nat) (W : World) (z : Nat → Array Value) (a0 : Act) (v : Nat → Value) (listed : Array Bool) (a : Act) (w : World) : Prop where
  size : listed.size = ops.size
  rest : ∀ i, ks.length ≤ i → i < ops.size → listed[i]? = some false
  closed : ∀ i, listed[i]? = some true → ∀ j, bd ops i j = true → listed[j]? = some true
  below : Below W.heap.size W w
  defers : a.defers = a0.defers
  tsize : a.tmps.size = a0.tmps.size
  old : ∀ t, (∀ i, i < ks.length → listed[i]? = some true → dstOf ops i ≠ some t) → a.tmps[t]? = a0.tmps[t]?
  new : ∀ i t, i < ks.length → listed[i]? = some true → ks[i]? ≠ some 1 → dstOf ops i = some t → a.tmps[t]? = some (v i)
  mem : ∃ ptr : Nat → Nat, (∀ i t, i < ks.length → listed[i]? = some true → ks[i]? = some 1 → dstOf ops i = some t → a.tmps[t]? = some (.pointer (some ⟨ptr i, 0, none⟩)) ∧ W.heap.size ≤ ptr i ∧ Row w (ptr i) (z i)) ∧
    ∀ i j, i < ks.length → j < ks.length → listed[i]? = some true → listed[j]? = some true → ks[i]? = some 1 → ks[j]? = some 1 → i ≠ j → ptr i ≠ ptr j

theorem reach_listed {listed : Array Bool} (hc : ∀ i, listed[i]? = some true → ∀ j, bd ops i j = true → listed[j]? = some true) : ∀ (f k j : Nat), (∀ m, bd ops k m = true → listed[m]? = some true) → reachB ops f k j = true → listed[j]? = some true
  | 0, _, _, _, h => by cases h
  | f + 1, k, j, hk, h => by
    simp only [reachB, Bool.or_eq_true, List.any_eq_true, Bool.and_eq_true] at h
    rcases h with h | ⟨m, _, h1, h2⟩
    · exact hk j h
    · exact reach_listed hc f m j (hc m (hk m h1)) h2
theorem getD_true {l : Array Bool} {i : Nat} (h : l.getD i false = true) : l[i]? = some true := by
  rw [Array.getD_eq_getD_getElem?] at h
  cases hh : l[i]? with
  | none => rw [hh] at h; cases h
  | some b => rw [hh] at h; simpa using h
theorem getD_false {l : Array Bool} {i : Nat} (h : l.getD i true = false) : l[i]? = some false := by
  rw [Array.getD_eq_getD_getElem?] at h
  cases hh : l[i]? with
  | none => rw [hh] at h; cases h
  | some b => rw [hh] at h; simpa using h
theorem bd_of {i : Nat} {o : Oper} (ho : ops[i]? = some o) {j : Nat} (h : bd ops i j = true) : ∃ e ∈ o.after, Region.binds .any e = true ∧ e.on = j := by
  simp only [bd, ho] at h
  obtain ⟨e, he, hb⟩ := Array.any_eq_true'.1 h
  simp only [Bool.and_eq_true, beq_iff_eq] at hb
  exact ⟨e, he, hb.1, hb.2⟩
theorem of_bd {i : Nat} {o : Oper} (ho : ops[i]? = some o) {e : Edge} (he : e ∈ o.after) (hb : Region.binds .any e = true) : bd ops i e.on = true := by
  simp only [bd, ho]
  exact Array.any_eq_true'.2 ⟨e, he, by simp [hb]⟩
/-- An operation that may come up: all that it waits for has. -/
theorem ready_spec {listed : Array Bool} {i : Nat} (h : i ∈ Region.ready .any ops listed) : listed[i]? = some false ∧ (∃ o, ops[i]? = some o) ∧ ∀ j, bd ops i j = true → listed[j]? = some true := by
  obtain ⟨h0, o, ho, ha⟩ := mem_ready.1 h
  refine ⟨getD_false h0, ⟨o, ho⟩, fun j hj => ?_⟩
  obtain ⟨e, he, hb, rfl⟩ := bd_of ho hj
  exact getD_true (ha e he hb)
theorem mk_ready {listed : Array Bool} {i : Nat} {o : Oper} (ho : ops[i]? = some o) (h0 : listed[i]? = some false) (h : ∀ j, bd ops i j = true → listed[j]? = some true) : i ∈ Region.ready .any ops listed := by
  refine mem_ready.2 ⟨by rw [Array.getD_eq_getD_getElem?, h0]; rfl, o, ho, fun e he hb => ?_⟩
  rw [Array.getD_eq_getD_getElem?, h e.on (of_bd ho he hb)]
  rfl

theorem put_other (a : Act) {o : Option Tmp} (v : Value) {t : Tmp} (h : o ≠ some t) : (a.put o v).tmps[t]? = a.tmps[t]? := by
  cases o with
  | none => rfl
  | some d => exact Array.getElem?_setIfInBounds_ne (fun e => h (by rw [e]))
theorem put_same (a : Act) {o : Option Tmp} (v : Value) {t : Tmp} (h : o = some t) (ht : t < a.tmps.size) : (a.put o v).tmps[t]? = some v := by
  subst h
  show (a.tmps.setIfInBounds t v)[t]? = _
  rw [Array.getElem?_setIfInBounds_self]
  simp [ht]
theorem put_size (a : Act) (o : Option Tmp) (v : Value) : (a.put o v).tmps.size = a.tmps.size := by
  cases o with
  | none => rfl
  | some d => simp [Act.put]
theorem put_defers' (a : Act) (o : Option Tmp) (v : Value) : (a.put o v).defers = a.defers := by cases o <;> rfl

/-- Two frames that agree on all that an operation looks at. -/
theorem same_run {o : Oper} {a b : Act} (hs : ∀ cs c, o.op ≠ .select cs c) (h : ∀ t ∈ o.looksAt ops, a.tmps[t]? = b.tmps[t]?) : execOp a.eval o = execOp b.eval o ∧ Region.wanted o (yielded ops a.tmps) = Region.wanted o (yielded ops b.tmps) := by
  constructor
  · refine execOp_congr o hs fun x hx => ?_
    cases x with
    | tmp t =>
      have := h t (List.mem_append_left _ (List.mem_filterMap.2 ⟨.tmp t, by simpa using hx, rfl⟩))
      simp only [Act.eval, Array.getD_eq_getD_getElem?, this]
    | _ => rfl
  · unfold Region.wanted
    cases hg : o.guard with
    | none => rfl
    | some gw =>
      obtain ⟨g, want⟩ := gw
      have hy : yielded ops a.tmps g = yielded ops b.tmps g := by
        unfold yielded
        cases ht : (ops[g]?).bind (·.dst) with
        | none => rfl
        | some t =>
          have := h t (List.mem_append_right _ (by simp [hg, ht]))
          simp only [Option.bind_some, this]
      simp only [hy]

theorem set_get (l : Array Bool) (i j : Nat) (h : (l.setIfInBounds i true)[j]? = some true) : j = i ∨ l[j]? = some true := by
  by_cases e : i = j
  · exact .inl e.symm
  · rw [Array.getElem?_setIfInBounds_ne e] at h
    exact .inr h
theorem set_self (l : Array Bool) (i : Nat) (h : i < l.size) : (l.setIfInBounds i true)[i]? = some true := by
  rw [Array.getElem?_setIfInBounds_self]
  simp [h]
theorem set_keep {l : Array Bool} {i j : Nat} (h : l[j]? = some true) : (l.setIfInBounds i true)[j]? = some true := by
  by_cases e : i = j
  · subst e
    exact set_self l i (Array.getElem?_eq_some_iff.1 h).1
  · rw [Array.getElem?_setIfInBounds_ne e]; exact h

section
variable {ks : List Nat} {z : Nat → Array Value} {a0 : Act} {v : Nat → Value} {listed : Array Bool} {a : Act} {w : World}
/-- One operation more has come up. -/
theorem Inv.step (I : Inv ops ks W z a0 v listed a w) {i : Nat} {o : Oper} {s0 : Nat} (ho : ops[i]? = some o) (hi : i < ks.length) (hk : ks[i]? ≠ some 1) (hok : opOk ops ks s0 i o = true) (h0 : s0 = a0.tmps.size)
    (hw : ∀ j, bd ops i j = true → listed[j]? = some true) {w' : World} (hb : Below w.heap.size w w') : Inv ops ks W z a0 v (listed.setIfInBounds i true) (a.put o.dst (v i)) w' := by
  have hd : dstOf ops i = o.dst := by simp [dstOf, ho]
  have his : i < listed.size := by rw [I.size]; exact (Array.getElem?_eq_some_iff.1 ho).1
  simp only [opOk, Bool.and_eq_true] at hok
  obtain ⟨⟨⟨h1, _⟩, _⟩, _⟩ := hok
  cases hdo : o.dst with
  | none => rw [hdo] at h1; cases h1
  | some t0 =>
    rw [hdo] at h1
    simp only [Bool.and_eq_true, decide_eq_true_eq, List.all_eq_true, List.mem_range, Bool.or_eq_true, beq_iff_eq, bne_iff_ne] at h1
    obtain ⟨ht0, hdis⟩ := h1
    have hne : ∀ j, j < ks.length → j ≠ i → dstOf ops j ≠ some t0 := fun j hj hji => (hdis j hj).resolve_left hji
    refine ⟨by simpa using I.size, fun j hj hjs => ?_, fun j hj m hm => ?_, I.below.trans (hb.mono I.below.size), by rw [put_defers']; exact I.defers, by rw [put_size]; exact I.tsize, fun t ht => ?_, fun j t hj hl hkj hdj => ?_, ?_⟩
    · rw [Array.getElem?_setIfInBounds_ne (by omega)]; exact I.rest j hj hjs
    · rcases set_get _ _ _ hj with rfl | hj
      · exact set_keep (hw m hm)
      · exact set_keep (I.closed j hj m hm)
    · have : t0 ≠ t := fun e => ht i hi (set_self _ _ his) (by rw [hd, hdo, e])
      rw [put_other _ _ (by intro e; injection e with e; exact this e)]
      exact I.old t fun j hj hl => ht j hj (set_keep hl)
    · rcases set_get _ _ _ hl with rfl | hl'
      · have ht : t0 = t := by rw [hd, hdo] at hdj; injection hdj
        subst ht
        exact put_same _ _ rfl (by rw [I.tsize, ← h0]; exact ht0)
      · by_cases hji : j = i
        · subst hji
          have ht : t0 = t := by rw [hd, hdo] at hdj; injection hdj
          subst ht
          exact put_same _ _ rfl (by rw [I.tsize, ← h0]; exact ht0)
        · rw [put_other _ _ (by intro e; injection e with e; exact hne j hj hji (by rw [hdj, e]))]
          exact I.new j t hj hl' hkj hdj
    · obtain ⟨ptr, hp, hpd⟩ := I.mem
      have hl1 : ∀ j, (listed.setIfInBounds i true)[j]? = some true → ks[j]? = some 1 → listed[j]? = some true := fun j hl hkj => by
        rcases set_get _ _ _ hl with rfl | hl'
        · exact absurd hkj hk
        · exact hl'
      refine ⟨ptr, fun j t hj hl hkj hdj => ?_, fun j m hj hm hl hl' hkj hkm hjm => hpd j m hj hm (hl1 j hl hkj) (hl1 m hl' hkm) hkj hkm hjm⟩
      obtain ⟨e1, e2, e3⟩ := hp j t hj (hl1 j hl hkj) hkj hdj
      have hji : j ≠ i := fun e => hk (by rw [← e]; exact hkj)
      refine ⟨?_, e2, e3.later hb⟩
      rw [put_other _ _ (by intro e; injection e with e; exact hne j hj hji (by rw [hdj, e]))]
      exact e1
/-- Fresh memory has been made. -/
theorem Inv.fresh (I : Inv ops ks W z a0 v listed a w) {i : Nat} {o : Oper} {s0 : Nat} (ho : ops[i]? = some o) (hi : i < ks.length) (hk : ks[i]? = some 1) (hok : opOk ops ks s0 i o = true) (h0 : s0 = a0.tmps.size) (hun : listed[i]? = some false)
    (hw : ∀ j, bd ops i j = true → listed[j]? = some true) (hds : ∀ j, j < ks.length → ∃ t, dstOf ops j = some t) (ty : TypeId) : Inv ops ks W z a0 v (listed.setIfInBounds i true) (a.put o.dst (.pointer (some ⟨w.heap.size, 0, none⟩))) (w.alloc (.cells (z i) ty)) := by
  have hd : dstOf ops i = o.dst := by simp [dstOf, ho]
  have his : i < listed.size := by rw [I.size]; exact (Array.getElem?_eq_some_iff.1 ho).1
  have hb : Below w.heap.size w (w.alloc (.cells (z i) ty)) := (Below.refl _ _).alloc (Nat.le_refl _) _
  simp only [opOk, Bool.and_eq_true] at hok
  obtain ⟨⟨⟨h1, _⟩, _⟩, _⟩ := hok
  cases hdo : o.dst with
  | none => rw [hdo] at h1; cases h1
  | some t0 =>
    rw [hdo] at h1
    simp only [Bool.and_eq_true, decide_eq_true_eq, List.all_eq_true, List.mem_range, Bool.or_eq_true, beq_iff_eq, bne_iff_ne] at h1
    obtain ⟨ht0, hdis⟩ := h1
    have hne : ∀ j, j < ks.length → j ≠ i → dstOf ops j ≠ some t0 := fun j hj hji => (hdis j hj).resolve_left hji
    refine ⟨by simpa using I.size, fun j hj hjs => ?_, fun j hj m hm => ?_, I.below.trans (hb.mono I.below.size), by rw [put_defers']; exact I.defers, by rw [put_size]; exact I.tsize, fun t ht => ?_, fun j t hj hl hkj hdj => ?_, ?_⟩
    · rw [Array.getElem?_setIfInBounds_ne (by omega)]; exact I.rest j hj hjs
    · rcases set_get _ _ _ hj with rfl | hj
      · exact set_keep (hw m hm)
      · exact set_keep (I.closed j hj m hm)
    · have : t0 ≠ t := fun e => ht i hi (set_self _ _ his) (by rw [hd, hdo, e])
      rw [put_other _ _ (by intro e; injection e with e; exact this e)]
      exact I.old t fun j hj hl => ht j hj (set_keep hl)
    · have hji : j ≠ i := fun e => hkj (by rw [e]; exact hk)
      have hl' := (set_get _ _ _ hl).resolve_left hji
      rw [put_other _ _ (by intro e; injection e with e; exact hne j hj hji (by rw [hdj, e]))]
      exact I.new j t hj hl' hkj hdj
    · obtain ⟨ptr, hp, hpd⟩ := I.mem
      refine ⟨fun j => if j = i then w.heap.size else ptr j, fun j t hj hl hkj hdj => ?_, fun j m hj hm hl hl' hkj hkm hjm => ?_⟩
      · by_cases hji : j = i
        · subst hji
          have ht : t0 = t := by rw [hd, hdo] at hdj; injection hdj
          subst ht
          simp only [if_true]
          exact ⟨put_same _ _ rfl (by rw [I.tsize, ← h0]; exact ht0), I.below.size, Row.new w _ _⟩
        · simp only [if_neg hji]
          obtain ⟨e1, e2, e3⟩ := hp j t hj ((set_get _ _ _ hl).resolve_left hji) hkj hdj
          refine ⟨?_, e2, e3.later hb⟩
          rw [put_other _ _ (by intro e; injection e with e; exact hne j hj hji (by rw [hdj, e]))]
          exact e1
      · have lt : ∀ j, j < ks.length → (listed.setIfInBounds i true)[j]? = some true → ks[j]? = some 1 → j ≠ i → ptr j < w.heap.size := fun j hj hl hkj hji => by
          have hl' := (set_get _ _ _ hl).resolve_left hji
          obtain ⟨t, hdj⟩ := hds j hj
          exact (hp j t hj hl' hkj hdj).2.2.2.2
        by_cases hji : j = i
        · subst hji
          have hmi : m ≠ j := Ne.symm hjm
          simp only [if_true, if_neg hmi]
          exact Nat.ne_of_gt (lt m hm hl' hkm hmi)
        · by_cases hmi : m = i
          · subst hmi
            simp only [if_true, if_neg hji]
            exact Nat.ne_of_lt (lt j hj hl hkj hji)
          · simp only [if_neg hji, if_neg hmi]
            exact hpd j m hj hm ((set_get _ _ _ hl).resolve_left hji) ((set_get _ _ _ hl').resolve_left hmi) hkj hkm hjm
end

/-- The frames of the walk in the text's order. -/
structure Frames (ops : Array Oper) (ks : List Nat) (a0 : Act) (v : Nat → Value) (n : Nat) (b : Act) : Prop where
  defers : b.defers = a0.defers
  tsize : b.tmps.size = a0.tmps.size
  old : ∀ t, (∀ j, j < n → ks[j]? ≠ some 1 → dstOf ops j ≠ some t) → b.tmps[t]? = a0.tmps[t]?
  new : ∀ j t, j < n → ks[j]? ≠ some 1 → dstOf ops j = some t → b.tmps[t]? = some (v j)
theorem frames {ks : List Nat} {a0 : Act} {v : Nat → Value} {A : Nat → Act} {s0 : Nat} (h0 : s0 = a0.tmps.size) (hA : A 0 = a0) (hn : ks.length ≤ ops.size) (hok : ∀ i o, i < ks.length → ops[i]? = some o → opOk ops ks s0 i o = true)
    (hs : ∀ i o, i < ks.length → ops[i]? = some o → (ks[i]? = some 1 → A (i + 1) = A i) ∧ (ks[i]? ≠ some 1 → A (i + 1) = (A i).put o.dst (v i))) : ∀ n, n ≤ ks.length → Frames ops ks a0 v n (A n)
  | 0, _ => by rw [hA]; exact ⟨rfl, rfl, fun _ _ => rfl, fun _ _ h => absurd h (by omega)⟩
  | n + 1, hle => by
    have F := frames h0 hA hn hok hs n (by omega)
    have hlt : n < ops.size := by omega
    have ho : ops[n]? = some ops[n] := Array.getElem?_eq_getElem hlt
    obtain ⟨e1, e2⟩ := hs n _ (by omega) ho
    by_cases hk : ks[n]? = some 1
    · rw [e1 hk]
      refine ⟨F.defers, F.tsize, fun t ht => F.old t fun j hj => ht j (by omega), fun j t hj hkj hdj => ?_⟩
      have : j ≠ n := fun e => hkj (by rw [e]; exact hk)
      exact F.new j t (by omega) hkj hdj
    · rw [e2 hk]
      have hd : dstOf ops n = ops[n].dst := by simp [dstOf, ho]
      have hok' := hok n _ (by omega) ho
      simp only [opOk, Bool.and_eq_true] at hok'
      obtain ⟨⟨⟨h1, _⟩, _⟩, _⟩ := hok'
      cases hdo : ops[n].dst with
      | none => rw [hdo] at h1; cases h1
      | some t0 =>
        rw [hdo] at h1
        simp only [Bool.and_eq_true, decide_eq_true_eq, List.all_eq_true, List.mem_range, Bool.or_eq_true, beq_iff_eq, bne_iff_ne] at h1
        obtain ⟨ht0, hdis⟩ := h1
        have hne : ∀ j, j < ks.length → j ≠ n → dstOf ops j ≠ some t0 := fun j hj hji => (hdis j hj).resolve_left hji
        refine ⟨by rw [put_defers']; exact F.defers, by rw [put_size]; exact F.tsize, fun t ht => ?_, fun j t hj hkj hdj => ?_⟩
        · have : t0 ≠ t := fun e => ht n (by omega) hk (by rw [hd, hdo, e])
          rw [put_other _ _ (by intro e; injection e with e; exact this e)]
          exact F.old t fun j hj => ht j (by omega)
        · by_cases hjn : j = n
          · subst hjn
            have ht : t0 = t := by rw [hd, hdo] at hdj; injection hdj
            subst ht
            exact put_same _ _ rfl (by rw [F.tsize, ← h0]; exact ht0)
          · rw [put_other _ _ (by intro e; injection e with e; exact hne j (by omega) hjn (by rw [hdj, e]))]
            exact F.new j t (by omega) hkj hdj

/-- What an operation that may come up looks at is the same in the true frame and in the text's. -/
theorem agree {ks : List Nat} {z : Nat → Array Value} {a0 : Act} {v : Nat → Value} {listed : Array Bool} {a : Act} {w : World} {b : Act} (I : Inv ops ks W z a0 v listed a w) {i : Nat} (F : Frames ops ks a0 v i b) {o : Oper} {s0 : Nat} (ho : ops[i]? = some o) (hi : i < ks.length) (hok : opOk ops ks s0 i o = true)
    (hun : listed[i]? = some false) (hw : ∀ j, bd ops i j = true → listed[j]? = some true) : ∀ t ∈ o.looksAt ops, a.tmps[t]? = b.tmps[t]? := by
  intro t ht
  simp only [opOk, Bool.and_eq_true] at hok
  obtain ⟨⟨⟨_, h2⟩, _⟩, _⟩ := hok
  simp only [List.all_eq_true, List.mem_range, Bool.or_eq_true, beq_iff_eq] at h2
  by_cases hex : ∃ j, j < ks.length ∧ j ≠ i ∧ dstOf ops j = some t
  · obtain ⟨j, hj, hji, hdj⟩ := hex
    have h := (h2 j hj).resolve_left hji
    rw [hdj] at h
    simp only [Bool.or_eq_true, Bool.not_eq_true', Bool.and_eq_true, decide_eq_true_eq, bne_iff_ne] at h
    rcases h with h | ⟨⟨h, hkj⟩, hb⟩
    · rw [List.contains_iff_mem.2 ht] at h; cases h
    · rw [I.new j t hj (hw j hb) hkj hdj, F.new j t h hkj hdj]
  · have hno : ∀ j, j < ks.length → j ≠ i → dstOf ops j ≠ some t := fun j hj hji hdj => hex ⟨j, hj, hji, hdj⟩
    rw [I.old t (fun j hj hl => hno j hj (fun e => by subst e; rw [hun] at hl; cases hl)), F.old t (fun j hj _ => hno j (by omega) (by omega))]

theorem Yields.of_agree {o : Oper} {v : Value} {a b : Act} (hs : ∀ cs c, o.op ≠ .select cs c) (h : ∀ t ∈ o.looksAt ops, a.tmps[t]? = b.tmps[t]?) (hy : Yields P ops o v b) : Yields P ops o v a := by
  obtain ⟨e1, e2⟩ := same_run hs h
  exact hy.of_same e1 e2

/-- The last operations, one behind the other. -/
theorem wpAny_rest {s : Nat} (hsz : ops.size = s) {n : Nat} (hr : ∀ k, n ≤ k → k ≤ s → Region.ready .any ops (upTo s k) = if k < s then [k] else []) : ∀ (d k : Nat) (a : Act) (w : World), k + d = s → n ≤ k → wpList P ops Q (ops.toList.drop k) a w → wpAny P .any ops Q d (upTo s k) a w
  | 0, k, a, w, hk, hn, h => by
    have := hr k hn (by omega)
    rw [if_neg (by omega)] at this
    rw [List.drop_eq_nil_of_le (by simp; omega)] at h
    exact ⟨this, h⟩
  | d + 1, k, a, w, hk, hn, h => by
    have hrk := hr k hn (by omega)
    rw [if_pos (by omega)] at hrk
    have hlt : k < ops.size := by omega
    have ho : ops[k]? = some ops[k] := Array.getElem?_eq_getElem hlt
    have hup : (upTo s k).setIfInBounds k true = upTo s (k + 1) := by
      apply Array.ext_getElem?
      intro i
      have e1 : ∀ m, (upTo s m)[i]? = if i < s then some (decide (i < m)) else none := by
        intro m
        simp only [upTo, List.getElem?_toArray, List.getElem?_map]
        by_cases hi : i < s
        · rw [List.getElem?_range hi, if_pos hi]; rfl
        · rw [List.getElem?_eq_none (by simpa using hi), if_neg hi]; rfl
      by_cases e : k = i
      · subst e
        have hsz' : (upTo s k).size = s := by simp [upTo]
        rw [Array.getElem?_setIfInBounds_self, e1 (k + 1), if_pos (show k < s by omega)]
        simp only [hsz', if_pos (show k < s by omega), decide_eq_true (show k < k + 1 by omega)]
      · rw [Array.getElem?_setIfInBounds_ne e, e1 k, e1 (k + 1)]
        by_cases hi : i < s
        · rw [if_pos hi, if_pos hi]
          congr 1
          exact decide_eq_decide.2 ⟨fun h => by omega, fun h => by omega⟩
        · rw [if_neg hi, if_neg hi]
    refine ⟨fun h0 => absurd (hrk.symm.trans h0) (by simp), fun i hi => ?_⟩
    rw [hrk, List.mem_singleton] at hi
    subst hi
    rw [hup]
    have hdrop : ops.toList.drop i = ops[i] :: ops.toList.drop (i + 1) := by
      rw [List.drop_eq_getElem_cons (by simpa using hlt)]
      simp
    rw [hdrop] at h
    unfold wpOp
    simp only [ho]
    unfold wpList at h
    split
    · rename_i hw
      rw [if_pos hw] at h
      rcases h with h | h
      · exact .inl (Oper.wp_mono (fun a' w' h' => wpAny_rest hsz hr d (i + 1) a' w' (by omega) (by omega) h') h)
      · exact .inr h
    · rename_i hw
      rw [if_neg hw] at h
      exact wpAny_rest hsz hr d (i + 1) _ w (by omega) (by omega) h

theorem least {p : Nat → Prop} : ∀ n, (∃ i, i < n ∧ p i) → ∃ i, i < n ∧ p i ∧ ∀ j, j < i → ¬ p j
  | 0, h => by obtain ⟨i, hi, _⟩ := h; omega
  | n + 1, h => by
    by_cases h' : ∃ i, i < n ∧ p i
    · obtain ⟨i, hi, hp, hm⟩ := least n h'
      exact ⟨i, by omega, hp, hm⟩
    · obtain ⟨i, hi, hp⟩ := h
      refine ⟨i, hi, hp, fun j hj hpj => h' ⟨j, by omega, hpj⟩⟩
/-- How many have come up. -/
def cnt (l : Array Bool) : Nat := l.toList.count true
theorem cnt_set {l : Array Bool} {i : Nat} (h : l[i]? = some false) : cnt (l.setIfInBounds i true) = cnt l + 1 := by
  obtain ⟨hi, hv⟩ := Array.getElem?_eq_some_iff.1 h
  unfold cnt
  rw [Array.toList_setIfInBounds, List.count_set (by simpa using hi)]
  simp [hv]
theorem cnt_upTo (s : Nat) : ∀ k, k ≤ s → cnt (upTo s k) = k := by
  intro k hk
  unfold cnt upTo
  have : ∀ s, ((List.range s).map fun i => decide (i < k)).count true = min s k := by
    intro s
    induction s with
    | zero => simp
    | succ s ih =>
      rw [List.range_succ, List.map_append, List.count_append, ih]
      by_cases h : s < k
      · simp [h]; omega
      · simp [h]; omega
  show ((List.range s).map fun i => decide (i < k)).count true = k
  rw [this]
  omega
theorem cnt_full {l : Array Bool} (h : cnt l = l.size) {i : Nat} (hi : i < l.size) : l[i]? = some true := by
  have := List.count_eq_length.1 (show l.toList.count true = l.toList.length by simpa [cnt] using h)
  rw [Array.getElem?_eq_getElem hi]
  exact congrArg some (this l[i] (by simp)).symm

/-- The blocks that were made, in their slots. -/
def putPtrs (ops : Array Oper) (ptr : Nat → Nat) : List Nat → Act → Act
  | [], a => a
  | d :: ds, a => putPtrs ops ptr ds (a.put (dstOf ops d) (.pointer (some ⟨ptr d, 0, none⟩)))
theorem putPtrs_size (ptr : Nat → Nat) : ∀ (ds : List Nat) (a : Act), (putPtrs ops ptr ds a).tmps.size = a.tmps.size ∧ (putPtrs ops ptr ds a).defers = a.defers
  | [], _ => ⟨rfl, rfl⟩
  | d :: ds, a => by
    obtain ⟨e1, e2⟩ := putPtrs_size ptr ds (a.put (dstOf ops d) (.pointer (some ⟨ptr d, 0, none⟩)))
    exact ⟨e1.trans (put_size _ _ _), e2.trans (put_defers' _ _ _)⟩
theorem putPtrs_other (ptr : Nat → Nat) {t : Tmp} : ∀ (ds : List Nat) (a : Act), (∀ d ∈ ds, dstOf ops d ≠ some t) → (putPtrs ops ptr ds a).tmps[t]? = a.tmps[t]?
  | [], _, _ => rfl
  | d :: ds, _, h => (putPtrs_other ptr ds _ fun e he => h e (List.mem_cons_of_mem _ he)).trans (put_other _ _ (h d (List.mem_cons_self ..)))
theorem putPtrs_same (ptr : Nat → Nat) {t : Tmp} {d : Nat} (hd : dstOf ops d = some t) : ∀ (ds : List Nat) (a : Act), d ∈ ds → (∀ e ∈ ds, e ≠ d → dstOf ops e ≠ some t) → t < a.tmps.size → (putPtrs ops ptr ds a).tmps[t]? = some (.pointer (some ⟨ptr d, 0, none⟩))
  | [], _, h, _, _ => by cases h
  | e :: ds, _, h, hne, ht => by
    by_cases hds : d ∈ ds
    · exact putPtrs_same ptr hd ds _ hds (fun e he => hne e (List.mem_cons_of_mem _ he)) (by rw [put_size]; exact ht)
    · rcases List.mem_cons.1 h with rfl | h
      · exact (putPtrs_other ptr ds _ fun e he => hne e (List.mem_cons_of_mem _ he) (fun c => hds (by rw [← c]; exact he))).trans (put_same _ _ hd ht)
      · exact absurd h hds

/-- All orders at once. -/
theorem reg_any {ks : List Nat} {z : Nat → Array Value} {a0 : Act} {v : Nat → Value} {A : Nat → Act} {s0 : Nat} (hchk : regOk ops ks s0 = true) (h0 : s0 = a0.tmps.size) (hA : A 0 = a0)
    (hs : ∀ i o, i < ks.length → ops[i]? = some o → (ks[i]? = some 1 → A (i + 1) = A i) ∧ (ks[i]? ≠ some 1 → A (i + 1) = (A i).put o.dst (v i)) ∧ (ks[i]? = some 0 → YB P ops W o (v i) (A i)) ∧ (ks[i]? ≠ some 0 → ks[i]? ≠ some 1 → Yields P ops o (v i) (A i)))
    (hfr : ∀ i o, i < ks.length → ops[i]? = some o → ks[i]? = some 1 → Fresh P o (z i)) (hQ : ∀ c (a : Act) o v w, Q (.panic c) (a.put o v) w → Q (.panic c) a w)
    (hend : ∀ w' (ptr : Nat → Nat), Below W.heap.size W w' → (∀ i, i < ks.length → ks[i]? = some 1 → W.heap.size ≤ ptr i ∧ Row w' (ptr i) (z i)) → (∀ i j, i < ks.length → j < ks.length → ks[i]? = some 1 → ks[j]? = some 1 → i ≠ j → ptr i ≠ ptr j) →
      wpList P ops Q (ops.toList.drop ks.length) (putPtrs ops ptr ((List.range ks.length).filter fun i => ks[i]? == some 1) (A ks.length)) w') :
    ∀ (fuel : Nat) (listed : Array Bool) (a : Act) (w : World), Inv ops ks W z a0 v listed a w → cnt listed + fuel = ops.size → wpAny P .any ops Q fuel listed a w := by
  simp only [regOk, Bool.and_eq_true, decide_eq_true_eq, List.all_eq_true, List.mem_range, Bool.or_eq_true] at hchk
  obtain ⟨⟨⟨⟨hsel, hn⟩, hops⟩, hreach⟩, hrest⟩ := hchk
  have hok : ∀ i o, i < ks.length → ops[i]? = some o → opOk ops ks s0 i o = true := fun i o hi ho => by
    have := hops i hi
    rw [ho] at this
    exact this
  have hsl : ∀ (i : Nat) (o : Oper), ops[i]? = some o → ∀ cs c, o.op ≠ .select cs c := fun i o ho cs c => Region.noSelect_spec hsel i o cs c ho
  have hex : ∀ i, i < ks.length → ∃ o, ops[i]? = some o := fun i hi => ⟨_, Array.getElem?_eq_getElem (show i < ops.size by omega)⟩
  have hds : ∀ j, j < ks.length → ∃ t, dstOf ops j = some t := fun j hj => by
    obtain ⟨o, ho⟩ := hex j hj
    have := hok j o hj ho
    simp only [opOk, Bool.and_eq_true] at this
    obtain ⟨⟨⟨h1, _⟩, _⟩, _⟩ := this
    cases hdo : o.dst with
    | none => rw [hdo] at h1; cases h1
    | some t => exact ⟨t, by simp [dstOf, ho, hdo]⟩
  have hdis : ∀ i j t, i < ks.length → j < ks.length → i ≠ j → dstOf ops i = some t → dstOf ops j ≠ some t := fun i j t hi hj hij hdi hdj => by
    obtain ⟨o, ho⟩ := hex i hi
    have := hok i o hi ho
    simp only [opOk, Bool.and_eq_true] at this
    obtain ⟨⟨⟨h1, _⟩, _⟩, _⟩ := this
    have hd : o.dst = some t := by simpa [dstOf, ho] using hdi
    rw [hd] at h1
    simp only [Bool.and_eq_true, List.all_eq_true, List.mem_range, Bool.or_eq_true, beq_iff_eq, bne_iff_ne] at h1
    rcases h1.2 j hj with e | e
    · exact hij e.symm
    · exact e hdj
  have hdt : ∀ i t, i < ks.length → dstOf ops i = some t → t < s0 := fun i t hi hdi => by
    obtain ⟨o, ho⟩ := hex i hi
    have := hok i o hi ho
    simp only [opOk, Bool.and_eq_true] at this
    obtain ⟨⟨⟨h1, _⟩, _⟩, _⟩ := this
    have hd : o.dst = some t := by simpa [dstOf, ho] using hdi
    rw [hd] at h1
    simp only [Bool.and_eq_true, decide_eq_true_eq] at h1
    exact h1.1
  have hbk : ∀ i, i < ks.length → ∀ j, bd ops i j = true → j < i := fun i hi j hb => by
    obtain ⟨o, ho⟩ := hex i hi
    have := hok i o hi ho
    simp only [opOk, Bool.and_eq_true] at this
    obtain ⟨⟨_, h3⟩, _⟩ := this
    obtain ⟨e, he, hb', rfl⟩ := bd_of ho hb
    have := Array.all_eq_true_iff_forall_mem.1 h3 e he
    simpa [hb'] using this
  have hF := frames h0 hA hn hok fun i o hi ho => ⟨(hs i o hi ho).1, (hs i o hi ho).2.1⟩
  have hget : ∀ s m i, (upTo s m)[i]? = if i < s then some (decide (i < m)) else none := by
    intro s m i
    simp only [upTo, List.getElem?_toArray, List.getElem?_map]
    by_cases hi : i < s
    · rw [List.getElem?_range hi, if_pos hi]; rfl
    · rw [List.getElem?_eq_none (by simpa using hi), if_neg hi]; rfl
  have done : ∀ (fuel : Nat) (listed : Array Bool) (a : Act) (w : World), Inv ops ks W z a0 v listed a w → cnt listed + fuel = ops.size → (∀ i, i < ks.length → listed[i]? = some true) → wpAny P .any ops Q fuel listed a w := by
    intro fuel listed a w I hc hall
    have hl : listed = upTo ops.size ks.length := by
      apply Array.ext_getElem?
      intro i
      rw [hget]
      by_cases hi : i < ops.size
      · rw [if_pos hi]
        by_cases hk : i < ks.length
        · rw [hall i hk, decide_eq_true hk]
        · rw [I.rest i (by omega) hi, decide_eq_false hk]
      · rw [if_neg hi, Array.getElem?_eq_none (by rw [I.size]; omega)]
    obtain ⟨ptr, hp, hpd⟩ := I.mem
    have F := hF ks.length (Nat.le_refl _)
    have ha : a = putPtrs ops ptr ((List.range ks.length).filter fun i => ks[i]? == some 1) (A ks.length) := by
      have hm : ∀ d, d ∈ (List.range ks.length).filter (fun i => ks[i]? == some 1) ↔ d < ks.length ∧ ks[d]? = some 1 := fun d => by
        rw [List.mem_filter, List.mem_range, beq_iff_eq]
      have e1 : a.tmps = (putPtrs ops ptr ((List.range ks.length).filter fun i => ks[i]? == some 1) (A ks.length)).tmps := by
        apply Array.ext_getElem?
        intro t
        by_cases hx : ∃ i, i < ks.length ∧ dstOf ops i = some t
        · obtain ⟨i, hi, hdi⟩ := hx
          by_cases hk : ks[i]? = some 1
          · rw [(hp i t hi (hall i hi) hk hdi).1]
            exact (putPtrs_same ptr hdi _ _ ((hm i).2 ⟨hi, hk⟩) (fun e he hne => hdis i e t hi ((hm e).1 he).1 (Ne.symm hne) hdi) (by rw [F.tsize, ← h0]; exact hdt i t hi hdi)).symm
          · rw [I.new i t hi (hall i hi) hk hdi, putPtrs_other ptr _ _ (fun d hd => hdis i d t hi ((hm d).1 hd).1 (fun e => hk (by rw [e]; exact ((hm d).1 hd).2)) hdi), F.new i t hi hk hdi]
        · have hno : ∀ i, i < ks.length → dstOf ops i ≠ some t := fun i hi hdi => hx ⟨i, hi, hdi⟩
          rw [I.old t (fun i hi _ => hno i hi), putPtrs_other ptr _ _ (fun d hd => hno d ((hm d).1 hd).1), F.old t (fun j hj _ => hno j hj)]
      have e2 : a.defers = (putPtrs ops ptr ((List.range ks.length).filter fun i => ks[i]? == some 1) (A ks.length)).defers := by
        rw [(putPtrs_size ptr _ _).2, I.defers, F.defers]
      cases a
      simp only at e1 e2
      rw [e1, e2]
    have hr : ∀ k, ks.length ≤ k → k ≤ ops.size → Region.ready .any ops (upTo ops.size k) = if k < ops.size then [k] else [] := fun k h1 h2 => by
      rcases hrest k (by omega) with h | h
      · omega
      · exact eq_of_beq h
    rw [hl] at hc ⊢
    rw [cnt_upTo _ _ hn] at hc
    refine wpAny_rest rfl hr fuel ks.length a w (by omega) (Nat.le_refl _) ?_
    rw [ha]
    exact hend w ptr I.below (fun i hi hk => by
      obtain ⟨t, hdi⟩ := hds i hi
      exact (hp i t hi (hall i hi) hk hdi).2) (fun i j hi hj hki hkj hij => hpd i j hi hj (hall i hi) (hall j hj) hki hkj hij)
  intro fuel
  induction fuel with
  | zero =>
    intro listed a w I hc
    exact done 0 listed a w I hc fun i hi => cnt_full (by rw [I.size]; omega) (by rw [I.size]; omega)
  | succ fuel ih =>
    intro listed a w I hc
    by_cases hall : ∀ i, i < ks.length → listed[i]? = some true
    · exact done _ listed a w I hc hall
    · have hun : ∀ i, i < ks.length → listed[i]? ≠ some true → listed[i]? = some false := fun i hi h => by
        have hi' : i < listed.size := by rw [I.size]; omega
        rw [Array.getElem?_eq_getElem hi'] at h ⊢
        cases hb : listed[i] with
        | true => rw [hb] at h; exact absurd rfl h
        | false => rfl
      by_cases hnl : ∀ i, i < ks.length → (ks[i]? = some 0 ∨ ks[i]? = some 1) → listed[i]? = some true
      · obtain ⟨i, hi, hni, hmin⟩ := least (p := fun i => listed[i]? ≠ some true) ks.length (Classical.byContradiction fun h => hall fun i hi => Classical.byContradiction fun h' => h ⟨i, hi, h'⟩)
        obtain ⟨o, ho⟩ := hex i hi
        have hf := hun i hi hni
        have hk0 : ks[i]? ≠ some 0 := fun e => hni (hnl i hi (.inl e))
        have hk1 : ks[i]? ≠ some 1 := fun e => hni (hnl i hi (.inr e))
        have hw : ∀ j, bd ops i j = true → listed[j]? = some true := fun j hb => Classical.byContradiction fun h => hmin j (hbk i hi j hb) h
        have hok' := hok i o hi ho
        have hag := agree I (hF i (by omega)) ho hi hok' hf hw
        have hy := Yields.of_agree (hsl i o ho) hag ((hs i o hi ho).2.2.2 hk0 hk1)
        refine wpAny_first ho (fun j o' cs b ho' => hsl j o' ho' cs b) (fun c a' w' h => hQ c _ _ _ w' h) fuel listed a w ?_ (mk_ready ho hf hw) hy (ih _ _ _ (I.step ho hi hk1 hok' h0 hw (Below.refl _ _)) (by rw [cnt_set hf]; omega))
        intro j oj hj hji hjun hno
        simp only [opOk, Bool.and_eq_true] at hok'
        obtain ⟨_, h4⟩ := hok'
        simp only [Bool.or_eq_true, beq_iff_eq, List.all_eq_true, List.mem_range] at h4
        rcases h4 with (h4 | h4) | h4
        · exact absurd h4 hk0
        · exact absurd h4 hk1
        · rcases h4 j (Array.getElem?_eq_some_iff.1 hj).1 with ((h5 | h5) | h5) | h5
          · exact absurd h5 hji
          · have := getD_false hjun
            rw [hw j h5] at this
            cases this
          · obtain ⟨e, he, hb, heq⟩ := bd_of hj h5
            exact absurd heq (hno e he hb)
          · rw [hj] at h5; exact h5
      · refine ⟨fun hr => ?_, fun i hi => ?_⟩
        · obtain ⟨i, hi, hni, hmin⟩ := least (p := fun i => listed[i]? ≠ some true) ks.length (Classical.byContradiction fun h => hall fun i hi => Classical.byContradiction fun h' => h ⟨i, hi, h'⟩)
          obtain ⟨o, ho⟩ := hex i hi
          have := mk_ready ho (hun i hi hni) (fun j hb => Classical.byContradiction fun h => hmin j (hbk i hi j hb) h)
          rw [hr] at this
          cases this
        · obtain ⟨hf, ⟨o, ho⟩, hw⟩ := ready_spec hi
          have his : i < ops.size := (Array.getElem?_eq_some_iff.1 ho).1
          have hin : i < ks.length := Classical.byContradiction fun h => hnl fun j hj hkj => by
            rcases hreach i his with h' | h'
            · omega
            · rcases h' j hj with h'' | h''
              · simp only [Bool.not_eq_true', Bool.or_eq_false_iff, beq_eq_false_iff_ne] at h''
                rcases hkj with e | e
                · exact absurd e h''.1
                · exact absurd e h''.2
              · exact reach_listed I.closed 4 i j hw h''
          have hok' := hok i o hin ho
          have hag := agree I (hF i (by omega)) ho hin hok' hf hw
          obtain ⟨r1, r2⟩ := same_run (hsl i o ho) hag
          obtain ⟨_, _, hy0, hy2⟩ := hs i o hin ho
          have next : ∀ w', ks[i]? ≠ some 1 → Below w.heap.size w w' → wpAny P .any ops Q fuel (listed.setIfInBounds i true) (a.put o.dst (v i)) w' := fun w' hk hb =>
            ih _ _ _ (I.step ho hin hk hok' h0 hw hb) (by rw [cnt_set hf]; omega)
          by_cases hk1 : ks[i]? = some 1
          · obtain ⟨hg, hfresh⟩ := hfr i o hin ho hk1
            obtain ⟨ty, hrun⟩ := hfresh a.eval w
            unfold wpOp
            simp only [ho]
            rw [if_pos (by simp [Region.wanted, hg])]
            refine .inl ?_
            unfold Oper.wp
            rw [hrun]
            exact ih _ _ _ (I.fresh ho hin hk1 hok' h0 hf hw hds ty) (by rw [cnt_set hf]; omega)
          · by_cases hk0 : ks[i]? = some 0
            · rcases hy0 hk0 with ⟨hw1, hv⟩ | ⟨hw1, hv⟩
              · unfold wpOp
                simp only [ho]
                rw [if_pos (by rw [r2]; exact hw1)]
                refine .inl ?_
                unfold Oper.wp
                have hu := hv w I.below
                rw [← r1] at hu
                generalize (execOp a.eval o).run P w = r at hu
                cases r with
                | ok n w' =>
                  cases n <;> simp only [upB] at hu <;> simp only [Oper.upon]
                  case value u =>
                    obtain ⟨e1, e2⟩ := hu
                    rw [e1, e2]
                    exact next w hk1 (Below.refl _ _)
                  case enter f args =>
                    obtain ⟨e1, hcall⟩ := hu
                    rw [e1]
                    refine hcall.mono fun e w'' ⟨he, hb⟩ => ?_
                    subst he
                    exact next w'' hk1 hb
                | halt x w' => simp only [upB] at hu
              · unfold wpOp
                simp only [ho]
                rw [if_neg (by rw [r2, hw1]; simp), ← hv]
                exact next w hk1 (Below.refl _ _)
            · have hy := Yields.of_agree (hsl i o ho) hag (hy2 hk0 hk1)
              exact hy.wpOp ho (next w hk1 (Below.refl _ _))

theorem inv0 (ks : List Nat) (z : Nat → Array Value) (a : Act) (v : Nat → Value) {w : World} (hb : Below W.heap.size W w) : Inv ops ks W z a v (Array.replicate ops.size false) a w := by
  have hf : ∀ i : Nat, (Array.replicate ops.size false)[i]? ≠ some true := fun i h => by
    obtain ⟨h1, h2⟩ := Array.getElem?_eq_some_iff.1 h
    simp at h2
  refine ⟨by simp, fun i _ hi => by simp [hi], fun i h => absurd h (hf i), hb, rfl, rfl, fun _ _ => rfl, fun i _ _ h => absurd h (hf i), fun _ => 0, fun i _ _ h => absurd h (hf i), fun i _ _ _ h => absurd h (hf i)⟩

/-- The region, by one walk in the order of the text. -/
theorem reg_region {id : Nat} {l : List Oper} {a : Act} (ks : List Nat) (z : Nat → Array Value) (hm : P.follows .mixedOrders = true) (s0 : Nat) (h0 : s0 = a.tmps.size) (hchk : regOk l.toArray ks s0 = true) (hn : ks.length ≤ l.length)
    (hfr : ∀ i o, i < ks.length → l[i]? = some o → ks[i]? = some 1 → Fresh P o (z i)) (hQ : ∀ c (a : Act) o v w, Q (.panic c) (a.put o v) w → Q (.panic c) a w)
    (h : wpPre P l.toArray W (fun b => ∀ w' (ptr : Nat → Nat), Below W.heap.size W w' → (∀ i, i < ks.length → ks[i]? = some 1 → W.heap.size ≤ ptr i ∧ Row w' (ptr i) (z i)) → (∀ i j, i < ks.length → j < ks.length → ks[i]? = some 1 → ks[j]? = some 1 → i ≠ j → ptr i ≠ ptr j) →
      wpList P l.toArray Q (l.drop ks.length) (putPtrs l.toArray ptr ((List.range ks.length).filter fun i => ks[i]? == some 1) b) w') l ks a) : (Code.region id l.toArray true).wp P Q a W := by
  obtain ⟨v, A, hA, hR, hs⟩ := wpPre_tells l ks a hn h
  refine wp_region_any hm ?_
  have hb : Below W.heap.size W { W with drawn := W.drawn + 1 } := ⟨rfl, rfl, rfl, Nat.le_refl _, fun _ _ => rfl⟩
  refine reg_any (ops := l.toArray) (z := z) (v := v) (A := A) hchk h0 hA (fun i o hi ho => hs i o hi (by simpa using ho)) (fun i o hi ho hk => hfr i o hi (by simpa using ho) hk) hQ hR _ _ _ _ (inv0 ks z a v hb) ?_
  have hz : cnt (Array.replicate l.length false) = 0 := by
    unfold cnt
    rw [Array.toList_replicate, List.count_replicate]
    simp
  simp only [List.size_toArray]
  rw [hz, Nat.zero_add]

/-- With one block made, operation d's. -/
theorem reg1 {id : Nat} {l : List Oper} {a : Act} (ks : List Nat) (d : Nat) (t : Tmp) (o : Oper) (z : Array Value) (hm : P.follows .mixedOrders = true) (s0 : Nat) (h0 : s0 = a.tmps.size) (hchk : regOk l.toArray ks s0 = true) (hn : ks.length ≤ l.length)
    (hfl : ((List.range ks.length).filter fun i => ks[i]? == some 1) = [d]) (hd : l[d]? = some o) (ht : o.dst = some t) (hfr : Fresh P o z) (hQ : ∀ c (a : Act) o v w, Q (.panic c) (a.put o v) w → Q (.panic c) a w)
    (h : wpPre P l.toArray W (fun b => ∀ w' p, Below W.heap.size W w' → W.heap.size ≤ p → Row w' p z → wpList P l.toArray Q (l.drop ks.length) (b.put (some t) (.pointer (some ⟨p, 0, none⟩))) w') l ks a) : (Code.region id l.toArray true).wp P Q a W := by
  have hmem : ∀ i, i < ks.length → ks[i]? = some 1 → i = d := fun i hi hk => by
    have : i ∈ (List.range ks.length).filter fun i => ks[i]? == some 1 := List.mem_filter.2 ⟨List.mem_range.2 hi, by rw [hk]; rfl⟩
    rw [hfl] at this
    simpa using this
  have hdm : d < ks.length ∧ ks[d]? = some 1 := by
    have : d ∈ (List.range ks.length).filter fun i => ks[i]? == some 1 := by rw [hfl]; simp
    simpa using this
  have hdd : dstOf l.toArray d = some t := by simp [dstOf, hd, ht]
  refine reg_region ks (fun _ => z) hm s0 h0 hchk hn (fun i o' hi ho hk => ?_) hQ (wpPre_mono (fun b hb w' ptr hw hp _ => ?_) l ks a h)
  · obtain rfl := hmem i hi hk
    rw [hd] at ho
    injection ho with ho
    subst ho
    exact hfr
  · obtain ⟨h1, h2⟩ := hp d hdm.1 hdm.2
    rw [hfl]
    show wpList P l.toArray Q _ (b.put (dstOf l.toArray d) _) w'
    rw [hdd]
    exact hb w' (ptr d) hw h1 h2
/-- With two blocks made. -/
theorem reg2 {id : Nat} {l : List Oper} {a : Act} (ks : List Nat) (d e : Nat) (t u : Tmp) (o q : Oper) (z y : Array Value) (hm : P.follows .mixedOrders = true) (s0 : Nat) (h0 : s0 = a.tmps.size) (hchk : regOk l.toArray ks s0 = true) (hn : ks.length ≤ l.length)
    (hfl : ((List.range ks.length).filter fun i => ks[i]? == some 1) = [d, e]) (hde : d ≠ e) (hd : l[d]? = some o) (he : l[e]? = some q) (ht : o.dst = some t) (hu : q.dst = some u) (hfr : Fresh P o z) (hfq : Fresh P q y) (hQ : ∀ c (a : Act) o v w, Q (.panic c) (a.put o v) w → Q (.panic c) a w)
    (h : wpPre P l.toArray W (fun b => ∀ w' p r, Below W.heap.size W w' → W.heap.size ≤ p → W.heap.size ≤ r → p ≠ r → Row w' p z → Row w' r y → wpList P l.toArray Q (l.drop ks.length) ((b.put (some t) (.pointer (some ⟨p, 0, none⟩))).put (some u) (.pointer (some ⟨r, 0, none⟩))) w') l ks a) : (Code.region id l.toArray true).wp P Q a W := by
  have hmem : ∀ i, i < ks.length → ks[i]? = some 1 → i = d ∨ i = e := fun i hi hk => by
    have : i ∈ (List.range ks.length).filter fun i => ks[i]? == some 1 := List.mem_filter.2 ⟨List.mem_range.2 hi, by rw [hk]; rfl⟩
    rw [hfl] at this
    simpa using this
  have hdm : d < ks.length ∧ ks[d]? = some 1 := by
    have : d ∈ (List.range ks.length).filter fun i => ks[i]? == some 1 := by rw [hfl]; simp
    simpa using this
  have hem : e < ks.length ∧ ks[e]? = some 1 := by
    have : e ∈ (List.range ks.length).filter fun i => ks[i]? == some 1 := by rw [hfl]; simp
    simpa using this
  have hdd : dstOf l.toArray d = some t := by simp [dstOf, hd, ht]
  have hee : dstOf l.toArray e = some u := by simp [dstOf, he, hu]
  refine reg_region ks (fun i => if i = d then z else y) hm s0 h0 hchk hn (fun i o' hi ho hk => ?_) hQ (wpPre_mono (fun b hb w' ptr hw hp hpd => ?_) l ks a h)
  · rcases hmem i hi hk with rfl | rfl
    · rw [hd] at ho
      injection ho with ho
      subst ho
      simp only [if_true]
      exact hfr
    · rw [he] at ho
      injection ho with ho
      subst ho
      rw [if_neg (Ne.symm hde)]
      exact hfq
  · obtain ⟨h1, h2⟩ := hp d hdm.1 hdm.2
    obtain ⟨h3, h4⟩ := hp e hem.1 hem.2
    simp only [if_true] at h2
    rw [if_neg (Ne.symm hde)] at h4
    rw [hfl]
    show wpList P l.toArray Q _ ((b.put (dstOf l.toArray d) _).put (dstOf l.toArray e) _) w'
    rw [hdd, hee]
    exact hb w' (ptr d) (ptr e) hw h1 h3 (hpd d e hdm.1 hem.1 hdm.2 hem.2 hde) h2 h4

/-! ### The steps of the walk -/
section
variable {R : Act → Prop} {l : List Oper} {ks : List Nat} {o : Oper} {a : Act}
theorem p_pure {v : Value} (hw : Region.wanted o (yielded ops a.tmps) = true) (h : ∀ w, Below W.heap.size W w → (execOp a.eval o).run P w = .ok (.value v) w) (hn : wpPre P ops W R l ks (a.put o.dst v)) : wpPre P ops W R (o :: l) (0 :: ks) a :=
  ⟨v, .inl ⟨hw, fun w hb => by rw [h w hb]; exact ⟨rfl, rfl⟩⟩, hn⟩
theorem p_skip (hw : Region.wanted o (yielded ops a.tmps) = false) (hn : wpPre P ops W R l ks (a.put o.dst undef)) : wpPre P ops W R (o :: l) (0 :: ks) a :=
  ⟨undef, .inr ⟨hw, rfl⟩, hn⟩
theorem p_late {v : Value} (hw : Region.wanted o (yielded ops a.tmps) = true) (h : ∀ w, (execOp a.eval o).run P w = .ok (.value v) w) (hn : wpPre P ops W R l ks (a.put o.dst v)) : wpPre P ops W R (o :: l) (2 :: ks) a :=
  ⟨v, .inl ⟨hw, h⟩, hn⟩
theorem p_lateskip (hw : Region.wanted o (yielded ops a.tmps) = false) (hn : wpPre P ops W R l ks (a.put o.dst undef)) : wpPre P ops W R (o :: l) (2 :: ks) a :=
  ⟨undef, .inr ⟨hw, rfl⟩, hn⟩
theorem p_fresh (hn : wpPre P ops W R l ks a) : wpPre P ops W R (o :: l) (1 :: ks) a := hn
theorem p_nil (hn : R a) : wpPre P ops W R l [] a := by cases l <;> exact hn
theorem p_norm {a' : Act} (ha : a = a') (h : wpPre P ops W R l ks a') : wpPre P ops W R l ks a := by
  subst ha
  exact h
theorem p_call {f : FuncId} {fn : Func} {as : Array Operand} {ts : Array TypeId} {v : Value} {args : Array Value} (hc : ∀ w, Below W.heap.size W w → Calls P f args w fun e w' => e = .returned v ∧ Below w.heap.size w w') (hf : P.funcs[f]? = some fn) (hname : (fn.name == "runtime.NumGoroutine") = false) (hb : fn.body.isSome = true)
    (hop : o.op = .call { callee := .value (.func f), args := as, argTypes := ts }) (hw : Region.wanted o (yielded ops a.tmps) = true) (hargs : as.map a.eval = args) (hn : wpPre P ops W R l ks (a.put o.dst v)) : wpPre P ops W R (o :: l) (0 :: ks) a := by
  refine ⟨v, .inl ⟨hw, fun w hC => ?_⟩, hn⟩
  have h1 : fn.name ≠ "runtime.NumGoroutine" := by simpa using hname
  obtain ⟨c, hc'⟩ := Option.isSome_iff_exists.1 hb
  have he : (callFunc f args).run P w = .ok (.enter f args) w := by simp [callFunc, hf, h1, hc']
  have hrun : (execOp a.eval o).run P w = .ok (.enter f args) w := by
    unfold execOp
    simp [hop, resolve, Deferred.ofValue, invoke, Act.eval, hargs, he]
  rw [hrun]
  exact ⟨rfl, hc w hC⟩
end
end
end Go.Proofs.Yteaipeejhippiaa
