/- A region that draws its order, of which the operations that change the world stand in a chain: one walk in one order serves every order. Reads may lag; a call's answer may hang on the world. -/
import Derived.Test.YteaipeejhippiaaReg
namespace Go.Proofs.Yteaipeejhippiaa
open Go.RowKit
section
variable {P : Program} {ops : Array Oper} {Q : Exit → Act → World → Prop}

/-- A value, or a call, each leaving what was there; K is told the value and the world. -/
def upS (P : Program) (K : Value → World → Prop) (w : World) : Result Next → Prop
  | .ok (.value u) w' => Below w.heap.size w w' ∧ K u w'
  | .ok (.enter f args) w' => w' = w ∧ Calls P f args w fun e w'' => ∃ v, e = .returned v ∧ Below w.heap.size w w'' ∧ K v w''
  | _ => False
/-- In whatever world that has w's blocks it yields v, and changes nothing. -/
def YS (P : Program) (ops : Array Oper) (o : Oper) (v : Value) (a : Act) (w : World) : Prop :=
  (Region.wanted o (yielded ops a.tmps) = true ∧ ∀ w', Below w.heap.size w w' → (execOp a.eval o).run P w' = .ok (.value v) w') ∨ (Region.wanted o (yielded ops a.tmps) = false ∧ v = undef)

/-- The walk in the one order: kinds 0 (reads), 1 (a call, fresh memory), 2 (anything: all before it is done). -/
def wpSeq (P : Program) (ops : Array Oper) (Q : Exit → Act → World → Prop) (ks : List Nat) : List Nat → Act → World → Prop
  | [], a, w => Q .normal a w
  | i :: l, a, w => match ops[i]? with
    | none => False
    | some o => match ks[i]? with
      | some 0 => ∃ v, YS P ops o v a w ∧ wpSeq P ops Q ks l (a.put o.dst v) w
      | some 1 => if Region.wanted o (yielded ops a.tmps) = true then upS P (fun v w' => wpSeq P ops Q ks l (a.put o.dst v) w') w ((execOp a.eval o).run P w) else wpSeq P ops Q ks l (a.put o.dst undef) w
      | _ => wpOp P ops Q i (wpSeq P ops Q ks l) a w

/-- Each hangs on one that is told before it. -/
def allAfter (ops : Array Oper) : List Nat → List Nat → Bool
  | _, [] => true
  | R, q :: l => (R.any fun m => bd ops q m) && allAfter ops (q :: R) l
def allBefore (ops : Array Oper) : List Nat → List Nat → Bool
  | _, [] => true
  | R, q :: l => (R.any fun m => bd ops m q) && allBefore ops (q :: R) l
def stepOk (ops : Array Oper) (ks : List Nat) (s0 : Nat) (pre : List Nat) (i : Nat) (suf : List Nat) : Bool :=
  match ops[i]? with
  | none => false
  | some o => !pre.contains i && !suf.contains i &&
    (match o.dst with
      | some t => decide (t < s0) && !(o.looksAt ops).contains t && pre.all fun j => dstOf ops j != some t
      | none => true) &&
    (suf.all fun j => match dstOf ops j with
      | some t => !(o.looksAt ops).contains t
      | none => true) &&
    (pre.all fun j => match dstOf ops j with
      | some t => !(o.looksAt ops).contains t || bd ops i j
      | none => true) &&
    (o.after.all fun e => !Region.binds .any e || pre.contains e.on) &&
    (ks[i]? == some 0 || allAfter ops [i] suf) &&
    (ks[i]? == some 0 || ks[i]? == some 1 || allBefore ops [i] pre)
/-- pre: those told already, the last one first. -/
def seqOk (ops : Array Oper) (ks : List Nat) (s0 : Nat) : List Nat → List Nat → Bool
  | _, [] => true
  | pre, i :: suf => stepOk ops ks s0 pre i suf && seqOk ops ks s0 (i :: pre) suf

theorem after_spec {listed : Array Bool} (hc : ∀ i, listed[i]? = some true → ∀ j, bd ops i j = true → listed[j]? = some true) : ∀ (l R : List Nat), allAfter ops R l = true → ∀ q ∈ l, (∀ m, bd ops q m = true → listed[m]? = some true) → ∃ m ∈ R, listed[m]? = some true
  | [], _, _, q, hq, _ => by cases hq
  | x :: l, R, h, q, hq, hm => by
    simp only [allAfter, Bool.and_eq_true, List.any_eq_true] at h
    obtain ⟨⟨m, hmR, hb⟩, h2⟩ := h
    rcases List.mem_cons.1 hq with rfl | hq
    · exact ⟨m, hmR, hm m hb⟩
    · obtain ⟨y, hy, hl⟩ := after_spec hc l (x :: R) h2 q hq hm
      rcases List.mem_cons.1 hy with rfl | hy
      · exact ⟨m, hmR, hc _ hl m hb⟩
      · exact ⟨y, hy, hl⟩
theorem before_spec {D : Nat → Prop} (hc : ∀ i, D i → ∀ j, bd ops i j = true → D j) : ∀ (l R : List Nat), allBefore ops R l = true → (∀ m ∈ R, ∀ j, bd ops m j = true → D j) → ∀ q ∈ l, D q
  | [], _, _, _, q, hq => by cases hq
  | x :: l, R, h, hR, q, hq => by
    simp only [allBefore, Bool.and_eq_true, List.any_eq_true] at h
    obtain ⟨⟨m, hmR, hb⟩, h2⟩ := h
    have hx : D x := hR m hmR x hb
    rcases List.mem_cons.1 hq with rfl | hq
    · exact hx
    · exact before_spec hc l (x :: R) h2 (fun m hm j hj => by
        rcases List.mem_cons.1 hm with rfl | hm
        · exact hc _ hx j hj
        · exact hR m hm j hj) q hq

/-- What a step's check says. -/
structure StepOk (ops : Array Oper) (ks : List Nat) (s0 : Nat) (pre : List Nat) (i : Nat) (suf : List Nat) (o : Oper) : Prop where
  op : ops[i]? = some o
  npre : i ∉ pre
  nsuf : i ∉ suf
  dst : ∀ t, o.dst = some t → t < s0 ∧ t ∉ o.looksAt ops ∧ ∀ j ∈ pre, dstOf ops j ≠ some t
  later : ∀ j ∈ suf, ∀ t, dstOf ops j = some t → t ∉ o.looksAt ops
  early : ∀ j ∈ pre, ∀ t, dstOf ops j = some t → t ∈ o.looksAt ops → bd ops i j = true
  bound : ∀ j, bd ops i j = true → j ∈ pre
  aft : ks[i]? ≠ some 0 → allAfter ops [i] suf = true
  bef : ks[i]? ≠ some 0 → ks[i]? ≠ some 1 → allBefore ops [i] pre = true
theorem stepOk_spec {ks : List Nat} {s0 : Nat} {pre : List Nat} {i : Nat} {suf : List Nat} (h : stepOk ops ks s0 pre i suf = true) : ∃ o, StepOk ops ks s0 pre i suf o := by
  unfold stepOk at h
  cases ho : ops[i]? with
  | none => rw [ho] at h; cases h
  | some o =>
    simp only [ho, Bool.and_eq_true, Bool.not_eq_true', Bool.or_eq_true, beq_iff_eq] at h
    obtain ⟨⟨⟨⟨⟨⟨⟨h1, h2⟩, h3⟩, h4⟩, h5⟩, h6⟩, h7⟩, h8⟩ := h
    refine ⟨o, ho, fun hm => ?_, fun hm => ?_, fun t ht => ?_, fun j hj t ht hl => ?_, fun j hj t ht hl => ?_, fun j hj => ?_, fun hk => h7.resolve_left hk, fun hk0 hk1 => h8.resolve_left (fun h => h.elim hk0 hk1)⟩
    · rw [List.contains_iff_mem.2 hm] at h1; cases h1
    · rw [List.contains_iff_mem.2 hm] at h2; cases h2
    · simp only [ht, Bool.and_eq_true, decide_eq_true_eq, Bool.not_eq_true', List.all_eq_true, bne_iff_ne] at h3
      exact ⟨h3.1.1, fun hl => (by have := h3.1.2; rw [List.contains_iff_mem.2 hl] at this; cases this), h3.2⟩
    · have := (List.all_eq_true.1 h4) j hj
      rw [ht] at this
      simp only [Bool.not_eq_true'] at this
      rw [List.contains_iff_mem.2 hl] at this
      cases this
    · have := (List.all_eq_true.1 h5) j hj
      rw [ht] at this
      simp only [Bool.or_eq_true, Bool.not_eq_true'] at this
      exact this.resolve_left (fun h => by rw [List.contains_iff_mem.2 hl] at h; cases h)
    · obtain ⟨e, he, hb, rfl⟩ := bd_of ho hj
      have := (Array.all_eq_true'.1 h6) e he
      simp only [Bool.or_eq_true, Bool.not_eq_true'] at this
      rcases this with h | h
      · rw [hb] at h; cases h
      · exact List.contains_iff_mem.1 h

/-- Each hangs on such alone as were told before it. -/
def Told (ops : Array Oper) : List Nat → Prop
  | [] => True
  | i :: p => (∀ j, bd ops i j = true → j ∈ p) ∧ Told ops p
theorem told_first {ops : Array Oper} {D : Nat → Prop} : ∀ (p : List Nat), Told ops p → (∃ k ∈ p, ¬ D k) → ∃ i ∈ p, ¬ D i ∧ ∀ j, bd ops i j = true → D j
  | [], _, ⟨k, hk, _⟩ => by cases hk
  | x :: p, ⟨h1, h2⟩, ⟨k, hk, hd⟩ => by
    by_cases hp : ∃ m ∈ p, ¬ D m
    · obtain ⟨i, hi, e1, e2⟩ := told_first p h2 hp
      exact ⟨i, List.mem_cons_of_mem _ hi, e1, e2⟩
    · rcases List.mem_cons.1 hk with rfl | hk
      · exact ⟨k, List.mem_cons_self .., hd, fun j hj => Classical.byContradiction fun hn => hp ⟨j, h1 j hj, hn⟩⟩
      · exact absurd ⟨k, hk, hd⟩ hp

/-- What holds on the way. -/
structure SInv (P : Program) (ops : Array Oper) (ks : List Nat) (s0 : Nat) (pre suf : List Nat) (A : Act) (V : Nat → Value) (listed : Array Bool) (a : Act) (w : World) : Prop where
  size : listed.size = ops.size
  closed : ∀ i, listed[i]? = some true → ∀ j, bd ops i j = true → listed[j]? = some true
  inpre : ∀ i, listed[i]? = some true → i ∈ pre
  done : ∀ i ∈ pre, ks[i]? ≠ some 0 → listed[i]? = some true
  cover : ∀ i, i < ops.size → i ∈ pre ∨ i ∈ suf
  told : Told ops pre
  inops : ∀ i ∈ pre, i < ops.size
  defers : a.defers = A.defers
  tsize : a.tmps.size = A.tmps.size
  asize : s0 ≤ A.tmps.size
  slots : ∀ t, (∀ i ∈ pre, listed[i]? = some false → dstOf ops i ≠ some t) → a.tmps[t]? = A.tmps[t]?
  vals : ∀ i ∈ pre, ∀ t, dstOf ops i = some t → A.tmps[t]? = some (V i)
  distinct : ∀ i ∈ pre, ∀ j ∈ pre, ∀ t, dstOf ops i = some t → dstOf ops j = some t → i = j
  lt : ∀ i ∈ pre, ∀ t, dstOf ops i = some t → t < s0
  pend : ∀ i ∈ pre, listed[i]? = some false → ∃ o, ops[i]? = some o ∧ YS P ops o (V i) A w ∧ (∀ j ∈ pre, ∀ t, dstOf ops j = some t → t ∈ o.looksAt ops → bd ops i j = true) ∧ (∀ j ∈ suf, ∀ t, dstOf ops j = some t → t ∉ o.looksAt ops)
  ok : seqOk ops ks s0 pre suf = true

theorem YS.later {o : Oper} {v : Value} {A : Act} {w w' : World} (h : YS P ops o v A w) (hb : Below w.heap.size w w') : YS P ops o v A w' := by
  rcases h with ⟨h1, h2⟩ | h
  · exact .inl ⟨h1, fun w'' hb' => h2 w'' (hb.trans (hb'.mono hb.size))⟩
  · exact .inr h
theorem YS.agree {o : Oper} {v : Value} {A B : Act} {w : World} (hs : ∀ cs c, o.op ≠ .select cs c) (h : YS P ops o v A w) (ha : ∀ t ∈ o.looksAt ops, A.tmps[t]? = B.tmps[t]?) : YS P ops o v B w := by
  obtain ⟨e1, e2⟩ := same_run hs ha
  rcases h with ⟨h1, h2⟩ | ⟨h1, h2⟩
  · exact .inl ⟨by rw [← e2]; exact h1, fun w' hb => by rw [← e1]; exact h2 w' hb⟩
  · exact .inr ⟨by rw [← e2]; exact h1, h2⟩

section
variable {ks : List Nat} {s0 : Nat} {pre suf : List Nat} {A : Act} {V : Nat → Value} {listed : Array Bool} {a : Act} {w : World} {i : Nat} {o : Oper}
theorem SInv.unlisted (I : SInv P ops ks s0 pre suf A V listed a w) (hi : i < ops.size) (h : i ∉ pre) : listed[i]? = some false := by
  have hl : i < listed.size := by rw [I.size]; exact hi
  rw [Array.getElem?_eq_getElem hl]
  cases hv : listed[i] with
  | false => rfl
  | true => exact absurd (I.inpre i (by rw [Array.getElem?_eq_getElem hl, hv])) h
/-- A read is told. -/
theorem SInv.tell (hsl : ∀ (i : Nat) (o : Oper), ops[i]? = some o → ∀ cs c, o.op ≠ .select cs c) (I : SInv P ops ks s0 pre (i :: suf) A V listed a w) (S : StepOk ops ks s0 pre i suf o) (hk : ks[i]? = some 0) {v : Value} (hy : YS P ops o v A w) :
    SInv P ops ks s0 (i :: pre) suf (A.put o.dst v) (fun k => if k = i then v else V k) listed a w := by
  have his : i < ops.size := (Array.getElem?_eq_some_iff.1 S.op).1
  have hd : dstOf ops i = o.dst := by simp [dstOf, S.op]
  have hun := I.unlisted his S.npre
  have hne : ∀ k ∈ pre, k ≠ i := fun k hk e => S.npre (e ▸ hk)
  refine ⟨I.size, I.closed, fun k hl => List.mem_cons_of_mem _ (I.inpre k hl), fun k hk' hk0 => ?_, fun k hk' => ?_, ⟨S.bound, I.told⟩, fun k hk' => ?_, by rw [put_defers']; exact I.defers, by rw [put_size]; exact I.tsize, by rw [put_size]; exact I.asize, fun t ht => ?_, fun k hk' t hdk => ?_, fun k hk' j hj t hdk hdj => ?_, fun k hk' t hdk => ?_, fun k hk' hl => ?_, ?_⟩
  · rcases List.mem_cons.1 hk' with rfl | hk'
    · exact absurd hk hk0
    · exact I.done k hk' hk0
  · rcases I.cover k hk' with h | h
    · exact .inl (List.mem_cons_of_mem _ h)
    · rcases List.mem_cons.1 h with rfl | h
      · exact .inl (List.mem_cons_self ..)
      · exact .inr h
  · rcases List.mem_cons.1 hk' with rfl | hk'
    · exact his
    · exact I.inops k hk'
  · have h1 := ht i (List.mem_cons_self ..) hun
    rw [hd] at h1
    rw [put_other _ _ h1]
    exact I.slots t fun k hk' hl => ht k (List.mem_cons_of_mem _ hk') hl
  · rcases List.mem_cons.1 hk' with rfl | hk'
    · rw [hd] at hdk
      rw [if_pos rfl]
      exact put_same _ _ hdk (Nat.lt_of_lt_of_le (S.dst t hdk).1 I.asize)
    · rw [if_neg (hne k hk'), put_other _ _ (fun e => (S.dst t e).2.2 k hk' hdk)]
      exact I.vals k hk' t hdk
  · rcases List.mem_cons.1 hk' with rfl | hk2 <;> rcases List.mem_cons.1 hj with rfl | hj2
    · rfl
    · rw [hd] at hdk
      exact absurd hdj ((S.dst t hdk).2.2 j hj2)
    · rw [hd] at hdj
      exact absurd hdk ((S.dst t hdj).2.2 k hk2)
    · exact I.distinct k hk2 j hj2 t hdk hdj
  · rcases List.mem_cons.1 hk' with rfl | hk'
    · rw [hd] at hdk
      exact (S.dst t hdk).1
    · exact I.lt k hk' t hdk
  · rcases List.mem_cons.1 hk' with rfl | hk'
    · refine ⟨o, S.op, ?_, fun j hj t hdj hlk => ?_, S.later⟩
      · rw [if_pos rfl]
        exact hy.agree (hsl _ _ S.op) fun t ht => (put_other _ _ (fun e => (S.dst t e).2.1 ht)).symm
      · rcases List.mem_cons.1 hj with rfl | hj
        · rw [hd] at hdj
          exact absurd hlk (S.dst t hdj).2.1
        · exact S.early j hj t hdj hlk
    · obtain ⟨o', h1, h2, h3, h4⟩ := I.pend k hk' hl
      refine ⟨o', h1, ?_, fun j hj t hdj hlk => ?_, fun j hj => h4 j (List.mem_cons_of_mem _ hj)⟩
      · rw [if_neg (hne k hk')]
        exact h2.agree (hsl _ _ h1) fun t ht => (put_other _ _ (fun e => h4 i (List.mem_cons_self ..) t (by rw [hd]; exact e) ht)).symm
      · rcases List.mem_cons.1 hj with rfl | hj
        · exact absurd hlk (h4 _ (List.mem_cons_self ..) t hdj)
        · exact h3 j hj t hdj hlk
  · have := I.ok
    simp only [seqOk, Bool.and_eq_true] at this
    exact this.2

/-- What an operation looks at, when it may come up, is the same in both frames. -/
theorem SInv.agree (I : SInv P ops ks s0 pre suf A V listed a w) (hw : ∀ j, bd ops i j = true → listed[j]? = some true)
    (he : ∀ j ∈ pre, ∀ t, dstOf ops j = some t → t ∈ o.looksAt ops → bd ops i j = true) : ∀ t ∈ o.looksAt ops, A.tmps[t]? = a.tmps[t]? := by
  intro t ht
  refine (I.slots t fun k hk hl hdk => ?_).symm
  have := hw k (he k hk t hdk ht)
  rw [hl] at this
  cases this

/-- A read comes up. -/
theorem SInv.read (I : SInv P ops ks s0 pre suf A V listed a w) (ho : ops[i]? = some o) (hi : i ∈ pre) (hun : listed[i]? = some false) (hw : ∀ j, bd ops i j = true → listed[j]? = some true) :
    SInv P ops ks s0 pre suf A V (listed.setIfInBounds i true) (a.put o.dst (V i)) w := by
  have hd : dstOf ops i = o.dst := by simp [dstOf, ho]
  have hils : i < listed.size := by rw [I.size]; exact I.inops i hi
  refine ⟨by simpa using I.size, fun k hk j hb => ?_, fun k hk => ?_, fun k hk h0 => set_keep (I.done k hk h0), I.cover, I.told, I.inops, by rw [put_defers']; exact I.defers, by rw [put_size]; exact I.tsize, I.asize, fun t ht => ?_, I.vals, I.distinct, I.lt, fun k hk hl => ?_, I.ok⟩
  · rcases set_get _ _ _ hk with rfl | hk
    · exact set_keep (hw j hb)
    · exact set_keep (I.closed k hk j hb)
  · rcases set_get _ _ _ hk with rfl | hk
    · exact hi
    · exact I.inpre k hk
  · by_cases e : o.dst = some t
    · rw [put_same _ _ e (by rw [I.tsize]; exact Nat.lt_of_lt_of_le (I.lt i hi t (by rw [hd]; exact e)) I.asize)]
      exact (I.vals i hi t (by rw [hd]; exact e)).symm
    · rw [put_other _ _ e]
      refine I.slots t fun k hk hl hdk => ?_
      by_cases hki : k = i
      · subst hki
        rw [hd] at hdk
        exact e hdk
      · exact ht k hk (by rw [Array.getElem?_setIfInBounds_ne (Ne.symm hki)]; exact hl) hdk
  · have hl' : listed[k]? = some false := by
      by_cases hki : i = k
      · subst hki
        rw [set_self _ _ hils] at hl
        cases hl
      · rw [Array.getElem?_setIfInBounds_ne hki] at hl
        exact hl
    exact I.pend k hk hl'

/-- An operation that changes the world comes up. -/
theorem SInv.call (hsl : ∀ (i : Nat) (o : Oper), ops[i]? = some o → ∀ cs c, o.op ≠ .select cs c) (I : SInv P ops ks s0 pre (i :: suf) A V listed a w) (S : StepOk ops ks s0 pre i suf o) (hw : ∀ j, bd ops i j = true → listed[j]? = some true)
    {v : Value} {A' a' : Act} (h1 : A'.tmps = (A.put o.dst v).tmps) (h2 : a'.tmps = (a.put o.dst v).tmps) (h3 : a'.defers = A'.defers) {w' : World} (hb : Below w.heap.size w w' ∨ ∀ k ∈ pre, listed[k]? = some true) :
    SInv P ops ks s0 (i :: pre) suf A' (fun k => if k = i then v else V k) (listed.setIfInBounds i true) a' w' := by
  have his : i < ops.size := (Array.getElem?_eq_some_iff.1 S.op).1
  have hd : dstOf ops i = o.dst := by simp [dstOf, S.op]
  have hun := I.unlisted his S.npre
  have hils : i < listed.size := by rw [I.size]; exact his
  have hne : ∀ k ∈ pre, k ≠ i := fun k hk e => S.npre (e ▸ hk)
  have sz : ∀ (B : Act), (B.put o.dst v).tmps.size = B.tmps.size := fun B => put_size B o.dst v
  refine ⟨by simpa using I.size, fun k hk j hb => ?_, fun k hl => ?_, fun k hk' hk0 => ?_, fun k hk' => ?_, ⟨S.bound, I.told⟩, fun k hk' => ?_, h3, by rw [h1, h2, sz, sz]; exact I.tsize, by rw [h1, sz]; exact I.asize, fun t ht => ?_, fun k hk' t hdk => ?_, fun k hk' j hj t hdk hdj => ?_, fun k hk' t hdk => ?_, fun k hk' hl => ?_, ?_⟩
  · rcases set_get _ _ _ hk with rfl | hk
    · exact set_keep (hw j hb)
    · exact set_keep (I.closed k hk j hb)
  · rcases set_get _ _ _ hl with rfl | hl
    · exact List.mem_cons_self ..
    · exact List.mem_cons_of_mem _ (I.inpre k hl)
  · rcases List.mem_cons.1 hk' with rfl | hk'
    · exact set_self _ _ hils
    · exact set_keep (I.done k hk' hk0)
  · rcases I.cover k hk' with h | h
    · exact .inl (List.mem_cons_of_mem _ h)
    · rcases List.mem_cons.1 h with rfl | h
      · exact .inl (List.mem_cons_self ..)
      · exact .inr h
  · rcases List.mem_cons.1 hk' with rfl | hk'
    · exact his
    · exact I.inops k hk'
  · rw [h1, h2]
    by_cases e : o.dst = some t
    · have hlt := Nat.lt_of_lt_of_le (S.dst t e).1 I.asize
      rw [put_same _ _ e (by rw [I.tsize]; exact hlt), put_same _ _ e hlt]
    · rw [put_other _ _ e, put_other _ _ e]
      refine I.slots t fun k hk hl => ht k (List.mem_cons_of_mem _ hk) ?_
      rw [Array.getElem?_setIfInBounds_ne (Ne.symm (hne k hk))]
      exact hl
  · rw [h1]
    rcases List.mem_cons.1 hk' with rfl | hk'
    · rw [hd] at hdk
      rw [if_pos rfl]
      exact put_same _ _ hdk (Nat.lt_of_lt_of_le (S.dst t hdk).1 I.asize)
    · rw [if_neg (hne k hk'), put_other _ _ (fun e => (S.dst t e).2.2 k hk' hdk)]
      exact I.vals k hk' t hdk
  · rcases List.mem_cons.1 hk' with rfl | hk2 <;> rcases List.mem_cons.1 hj with rfl | hj2
    · rfl
    · rw [hd] at hdk
      exact absurd hdj ((S.dst t hdk).2.2 j hj2)
    · rw [hd] at hdj
      exact absurd hdk ((S.dst t hdj).2.2 k hk2)
    · exact I.distinct k hk2 j hj2 t hdk hdj
  · rcases List.mem_cons.1 hk' with rfl | hk'
    · rw [hd] at hdk
      exact (S.dst t hdk).1
    · exact I.lt k hk' t hdk
  · rcases List.mem_cons.1 hk' with rfl | hk'
    · rw [set_self _ _ hils] at hl
      cases hl
    · rw [Array.getElem?_setIfInBounds_ne (Ne.symm (hne k hk'))] at hl
      rcases hb with hb | hb
      · obtain ⟨o', e1, e2, e3, e4⟩ := I.pend k hk' hl
        refine ⟨o', e1, ?_, fun j hj t hdj hlk => ?_, fun j hj => e4 j (List.mem_cons_of_mem _ hj)⟩
        · rw [if_neg (hne k hk')]
          refine (e2.later hb).agree (hsl _ _ e1) fun t ht => ?_
          rw [h1]
          exact (put_other _ _ (fun e => e4 i (List.mem_cons_self ..) t (by rw [hd]; exact e) ht)).symm
        · rcases List.mem_cons.1 hj with rfl | hj
          · exact absurd hlk (e4 _ (List.mem_cons_self ..) t hdj)
          · exact e3 j hj t hdj hlk
      · rw [hb k hk'] at hl
        cases hl
  · have := I.ok
    simp only [seqOk, Bool.and_eq_true] at this
    exact this.2

theorem upon_mono {K K' : Act → World → Prop} {r : Result Next} (h : ∀ (a' : Act) (v : Value) w', a'.tmps = (a.put o.dst v).tmps → K a' w' → K' a' w') (hh : o.upon P a K Q r) : o.upon P a K' Q r := by
  cases r with
  | ok n w' =>
    cases n <;> simp only [Oper.upon] at hh ⊢ <;>
      first
        | exact h _ undef _ rfl hh
        | exact h _ _ _ rfl hh
        | exact h _ undef _ (by cases o.dst <;> rfl) hh
        | exact Calls.mono hh (fun e w'' he => by cases e <;> first | exact h _ _ _ rfl he | exact he)
        | exact Rows.mono hh (fun _ _ he => h _ _ _ rfl he)
  | halt x w' => cases x <;> simp only [Oper.upon] at hh ⊢ <;> exact hh
end


section
variable {ks : List Nat} {s0 : Nat} {pre suf : List Nat} {A : Act} {V : Nat → Value} {listed : Array Bool} {a : Act} {w : World} {i : Nat} {o : Oper}
theorem act_eq {a b : Act} (h1 : a.tmps = b.tmps) (h2 : a.defers = b.defers) : a = b := by
  cases a
  cases b
  simp only at h1 h2
  subst h1 h2
  rfl
theorem SInv.same (I : SInv P ops ks s0 pre suf A V listed a w) (h : ∀ k ∈ pre, listed[k]? = some true) : a = A :=
  act_eq (Array.ext_getElem? fun t => I.slots t fun k hk hl => by rw [h k hk] at hl; cases hl) I.defers
theorem SInv.head (I : SInv P ops ks s0 pre (i :: suf) A V listed a w) : ∃ o, StepOk ops ks s0 pre i suf o :=
  stepOk_spec (by have := I.ok; simp only [seqOk, Bool.and_eq_true] at this; exact this.1)
/-- Nothing may come up any more: it is done. -/
theorem SInv.fin (I : SInv P ops ks s0 pre suf A V listed a w) (hr : Region.ready .any ops listed = []) (h : wpSeq P ops Q ks suf A w) : Q .normal a w := by
  have hpre : ∀ k ∈ pre, listed[k]? = some true := fun k hk => Classical.byContradiction fun hn => by
    obtain ⟨m, hm, h1, h2⟩ := told_first (D := fun k => listed[k]? = some true) pre I.told ⟨k, hk, hn⟩
    have hlt := I.inops m hm
    have hf : listed[m]? = some false := by
      have hl : m < listed.size := by rw [I.size]; exact hlt
      rw [Array.getElem?_eq_getElem hl] at h1 ⊢
      cases hv : listed[m] with
      | false => rfl
      | true => exact absurd (by rw [hv]) h1
    have := mk_ready (Array.getElem?_eq_getElem hlt) hf h2
    rw [hr] at this
    cases this
  cases suf with
  | nil => rw [I.same hpre]; exact h
  | cons i suf =>
    obtain ⟨o, S⟩ := I.head
    have := mk_ready S.op (I.unlisted (Array.getElem?_eq_some_iff.1 S.op).1 S.npre) fun j hj => hpre j (S.bound j hj)
    rw [hr] at this
    cases this
end

/-- All orders at once. -/
theorem seq_any {ks : List Nat} {s0 : Nat} (hsl : ∀ (i : Nat) (o : Oper), ops[i]? = some o → ∀ cs c, o.op ≠ .select cs c) : ∀ (fuel : Nat) (suf pre : List Nat) (A : Act) (V : Nat → Value) (listed : Array Bool) (a : Act) (w : World),
    SInv P ops ks s0 pre suf A V listed a w → cnt listed + fuel = ops.size → wpSeq P ops Q ks suf A w → wpAny P .any ops Q fuel listed a w := by
  intro fuel
  induction fuel with
  | zero =>
    intro suf pre A V listed a w I hc h
    have hr : Region.ready .any ops listed = [] := by
      refine List.eq_nil_iff_forall_not_mem.2 fun i hi => ?_
      obtain ⟨hf, ⟨o, ho⟩, _⟩ := ready_spec hi
      have := cnt_full (l := listed) (by rw [I.size]; omega) (i := i) (by rw [I.size]; exact (Array.getElem?_eq_some_iff.1 ho).1)
      rw [hf] at this
      cases this
    exact ⟨hr, I.fin hr h⟩
  | succ fuel ihf =>
    intro suf
    induction suf with
    | nil =>
      intro pre A V listed a w I hc h
      refine ⟨fun hr => I.fin hr h, fun i hi => ?_⟩
      obtain ⟨hf, ⟨o, ho⟩, hw⟩ := ready_spec hi
      have hip : i ∈ pre := (I.cover i (Array.getElem?_eq_some_iff.1 ho).1).resolve_right (by simp)
      obtain ⟨o', ho', hy, he, _⟩ := I.pend i hip hf
      rw [ho] at ho'
      injection ho' with ho'
      subst ho'
      have next := ihf _ _ _ _ _ _ _ (I.read ho hip hf hw) (by rw [cnt_set hf]; omega) h
      unfold wpOp
      simp only [ho]
      rcases hy.agree (hsl i o ho) (I.agree hw he) with ⟨h1, h2⟩ | ⟨h1, h2⟩
      · rw [if_pos h1]
        refine .inl ?_
        unfold Oper.wp
        rw [h2 w (Below.refl _ _)]
        exact next
      · rw [if_neg (by rw [h1]; simp), ← h2]
        exact next
    | cons p suf ih =>
      intro pre A V listed a w I hc h
      obtain ⟨op, S⟩ := I.head
      by_cases hk : ks[p]? = some 0
      · simp only [wpSeq, S.op, hk] at h
        obtain ⟨v, hy, h⟩ := h
        exact ih _ _ _ _ _ _ (I.tell hsl S hk hy) hc h
      · refine ⟨fun hr => I.fin hr h, fun i hi => ?_⟩
        obtain ⟨hf, ⟨o, ho⟩, hw⟩ := ready_spec hi
        have hpn : listed[p]? ≠ some true := fun hl => S.npre (I.inpre p hl)
        rcases I.cover i (Array.getElem?_eq_some_iff.1 ho).1 with hip | his
        · obtain ⟨o', ho', hy, he, _⟩ := I.pend i hip hf
          rw [ho] at ho'
          injection ho' with ho'
          subst ho'
          have next := ihf _ _ _ _ _ _ _ (I.read ho hip hf hw) (by rw [cnt_set hf]; omega) h
          unfold wpOp
          simp only [ho]
          rcases hy.agree (hsl i o ho) (I.agree hw he) with ⟨h1, h2⟩ | ⟨h1, h2⟩
          · rw [if_pos h1]
            refine .inl ?_
            unfold Oper.wp
            rw [h2 w (Below.refl _ _)]
            exact next
          · rw [if_neg (by rw [h1]; simp), ← h2]
            exact next
        · rcases List.mem_cons.1 his with rfl | his
          · rw [S.op] at ho
            injection ho with ho
            subst ho
            by_cases hk1 : ks[i]? = some 1
            · obtain ⟨r1, r2⟩ := same_run (hsl i op S.op) (I.agree hw S.early)
              unfold wpOp
              simp only [S.op]
              simp only [wpSeq, S.op, hk1] at h
              rw [r2] at h
              by_cases hwa : Region.wanted op (yielded ops a.tmps) = true
              · rw [if_pos hwa] at h ⊢
                refine .inl ?_
                unfold Oper.wp
                rw [r1] at h
                generalize (execOp a.eval op).run P w = r at h
                cases r with
                | ok n w' =>
                  cases n <;> simp only [upS] at h <;> simp only [Oper.upon]
                  case value u => exact ihf _ _ _ _ _ _ _ (I.call hsl S hw rfl rfl (by rw [put_defers', put_defers']; exact I.defers) (.inl h.1)) (by rw [cnt_set hf]; omega) h.2
                  case enter f args =>
                    obtain ⟨e1, hcall⟩ := h
                    rw [e1]
                    refine hcall.mono fun e w'' he => ?_
                    obtain ⟨v, rfl, hb, hn⟩ := he
                    exact ihf _ _ _ _ _ _ _ (I.call hsl S hw rfl rfl (by rw [put_defers', put_defers']; exact I.defers) (.inl hb)) (by rw [cnt_set hf]; omega) hn
                | halt x w' => simp only [upS] at h
              · rw [if_neg hwa] at h ⊢
                exact ihf _ _ _ _ _ _ _ (I.call hsl S hw rfl rfl (by rw [put_defers', put_defers']; exact I.defers) (.inl (Below.refl _ _))) (by rw [cnt_set hf]; omega) h
            · have hall : ∀ k ∈ pre, listed[k]? = some true := before_spec (D := fun k => listed[k]? = some true) (fun k hl j hb => I.closed k hl j hb) pre [i] (S.bef hk hk1) fun m hm j hb => by
                rw [List.mem_singleton] at hm
                subst hm
                exact hw j hb
              have heq := I.same hall
              have hh : wpOp P ops Q i (wpSeq P ops Q ks suf) A w := by
                simp only [wpSeq, S.op] at h
                exact h
              rw [heq]
              unfold wpOp at hh ⊢
              simp only [S.op] at hh ⊢
              have I2 := I
              rw [heq] at I2
              by_cases hwa : Region.wanted op (yielded ops A.tmps) = true
              · rw [if_pos hwa] at hh ⊢
                rcases hh with hh | hh
                · exact .inl (upon_mono (fun a' v w' htm hn => ihf _ _ _ _ _ _ _ (I2.call hsl S hw (v := v) htm htm rfl (.inr hall)) (by rw [cnt_set hf]; omega) hn) hh)
                · exact .inr hh
              · rw [if_neg hwa] at hh ⊢
                exact ihf _ _ _ _ _ _ _ (I2.call hsl S hw (v := undef) rfl rfl rfl (.inr hall)) (by rw [cnt_set hf]; omega) hh
          · exfalso
            obtain ⟨m, hm, hl⟩ := after_spec I.closed suf [p] (S.aft hk) i his hw
            rw [List.mem_singleton] at hm
            subst hm
            exact hpn hl

/-- The region, by one walk in the given order. -/
theorem seq_region {id : Nat} {l : List Oper} {a : Act} {w : World} (ord ks : List Nat) (hm : P.follows .mixedOrders = true) (s0 : Nat) (h0 : s0 = a.tmps.size)
    (hchk : (Region.noSelect l.toArray && (List.range l.length).all ord.contains && seqOk l.toArray ks s0 [] ord) = true)
    (h : wpSeq P l.toArray Q ks ord a { w with drawn := w.drawn + 1 }) : (Code.region id l.toArray true).wp P Q a w := by
  simp only [Bool.and_eq_true, List.all_eq_true, List.mem_range] at hchk
  obtain ⟨⟨h1, h2⟩, h3⟩ := hchk
  refine wp_region_any hm ?_
  have hf : ∀ i : Nat, (Array.replicate l.toArray.size false)[i]? ≠ some true := fun i h => by
    obtain ⟨h1, h2⟩ := Array.getElem?_eq_some_iff.1 h
    simp at h2
  refine seq_any (ks := ks) (s0 := s0) (fun i o ho cs c => Region.noSelect_spec h1 i o cs c ho) _ ord [] a (fun _ => undef) _ a _ ⟨by simp, fun i hl => absurd hl (hf i), fun i hl => absurd hl (hf i), fun i hi => (by cases hi), fun i hi => .inr (List.contains_iff_mem.1 (h2 i (by simpa using hi))), trivial, fun i hi => (by cases hi), rfl, rfl, by omega, fun _ _ => rfl, fun i hi => (by cases hi), fun i hi => (by cases hi), fun i hi => (by cases hi), fun i hi => (by cases hi), h3⟩ ?_ h
  have hz : cnt (Array.replicate l.length false) = 0 := by
    unfold cnt
    rw [Array.toList_replicate, List.count_replicate]
    simp
  simp only [List.size_toArray]
  rw [hz, Nat.zero_add]

/-! ### The steps of the walk -/
section
variable {ks l : List Nat} {i : Nat} {o : Oper} {a : Act} {w : World}
theorem s_nil (h : Q .normal a w) : wpSeq P ops Q ks [] a w := h
theorem s_norm {a' : Act} (ha : a = a') (h : wpSeq P ops Q ks l a' w) : wpSeq P ops Q ks l a w := by
  subst ha
  exact h
theorem s_read {v : Value} (ho : ops[i]? = some o) (hk : ks[i]? = some 0) (hw : Region.wanted o (yielded ops a.tmps) = true) (h : ∀ w', Below w.heap.size w w' → (execOp a.eval o).run P w' = .ok (.value v) w') (hn : wpSeq P ops Q ks l (a.put o.dst v) w) : wpSeq P ops Q ks (i :: l) a w := by
  simp only [wpSeq, ho, hk]
  exact ⟨v, .inl ⟨hw, h⟩, hn⟩
theorem s_skip (ho : ops[i]? = some o) (hk : ks[i]? = some 0) (hw : Region.wanted o (yielded ops a.tmps) = false) (hn : wpSeq P ops Q ks l (a.put o.dst undef) w) : wpSeq P ops Q ks (i :: l) a w := by
  simp only [wpSeq, ho, hk]
  exact ⟨undef, .inr ⟨hw, rfl⟩, hn⟩
theorem s_skip1 (ho : ops[i]? = some o) (hk : ks[i]? = some 1) (hw : Region.wanted o (yielded ops a.tmps) = false) (hn : wpSeq P ops Q ks l (a.put o.dst undef) w) : wpSeq P ops Q ks (i :: l) a w := by
  simp only [wpSeq, ho, hk]
  rw [if_neg (by rw [hw]; simp)]
  exact hn
theorem s_any (ho : ops[i]? = some o) (hk : ks[i]? = some 2) (hn : wpOp P ops Q i (wpSeq P ops Q ks l) a w) : wpSeq P ops Q ks (i :: l) a w := by
  simp only [wpSeq, ho, hk]
  exact hn
theorem s_call {f : FuncId} {fn : Func} {as : Array Operand} {ts : Array TypeId} {args : Array Value} {R : Value → World → Prop} (hc : Calls P f args w fun e w' => ∃ v, e = .returned v ∧ Below w.heap.size w w' ∧ R v w') (hf : P.funcs[f]? = some fn) (hname : (fn.name == "runtime.NumGoroutine") = false) (hb : fn.body.isSome = true)
    (ho : ops[i]? = some o) (hk : ks[i]? = some 1) (hop : o.op = .call { callee := .value (.func f), args := as, argTypes := ts }) (hw : Region.wanted o (yielded ops a.tmps) = true) (hargs : as.map a.eval = args) (hn : ∀ v w', Below w.heap.size w w' → R v w' → wpSeq P ops Q ks l (a.put o.dst v) w') : wpSeq P ops Q ks (i :: l) a w := by
  simp only [wpSeq, ho, hk]
  rw [if_pos hw]
  have h1 : fn.name ≠ "runtime.NumGoroutine" := by simpa using hname
  obtain ⟨c, hc'⟩ := Option.isSome_iff_exists.1 hb
  have he : (callFunc f args).run P w = .ok (.enter f args) w := by simp [callFunc, hf, h1, hc']
  have hrun : (execOp a.eval o).run P w = .ok (.enter f args) w := by
    unfold execOp
    simp [hop, resolve, Deferred.ofValue, invoke, Act.eval, hargs, he]
  rw [hrun]
  exact ⟨rfl, hc.mono fun e w' ⟨v, h1, h2, h3⟩ => ⟨v, h1, h2, hn v w' h2 h3⟩⟩
end
end
end Go.Proofs.Yteaipeejhippiaa
