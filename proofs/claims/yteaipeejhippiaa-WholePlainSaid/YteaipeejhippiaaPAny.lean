/- A region that draws its order, whose operations read, call and make fresh memory, each leaving what was there: one walk, operation by operation, serves every order. -/
import Derived.Test.YteaipeejhippiaaSeq
namespace Go.Proofs.Yteaipeejhippiaa
open Go.RowKit
section
variable {P : Program} {ops : Array Oper} {Q : Exit → Act → World → Prop}

/-- The operation yields a value that meets R, and leaves what was there. -/
def Makes (P : Program) (o : Oper) (a : Act) (w : World) (R : Value → World → Prop) : Prop :=
  Region.wanted o (yielded ops a.tmps) = true ∧ match (execOp a.eval o).run P w with
    | .ok (.value u) w' => Below w.heap.size w w' ∧ R u w'
    | .ok (.enter f args) w' => w' = w ∧ Calls P f args w fun e w'' => ∃ u, e = .returned u ∧ Below w.heap.size w w'' ∧ R u w''
    | _ => False
/-- What holds on the way. -/
structure AInv (ops : Array Oper) (S : Nat → (Nat → Value) → Value → World → Prop) (a0 : Act) (w0 : World) (V : Nat → Value) (listed : Array Bool) (a : Act) (w : World) : Prop where
  size : listed.size = ops.size
  closed : ∀ i, listed[i]? = some true → ∀ j, bd ops i j = true → listed[j]? = some true
  below : Below w0.heap.size w0 w
  defers : a.defers = a0.defers
  tsize : a.tmps.size = a0.tmps.size
  old : ∀ t, (∀ i, listed[i]? = some true → dstOf ops i ≠ some t) → a.tmps[t]? = a0.tmps[t]?
  new : ∀ i t, listed[i]? = some true → dstOf ops i = some t → a.tmps[t]? = some (V i)
  spec : ∀ i, listed[i]? = some true → S i V (V i) w
/-- The conditions on the region's text: each operation has a slot of its own, and waits for earlier ones alone. -/
def anyOk (ops : Array Oper) (s0 : Nat) : Bool :=
  (List.range ops.size).all fun i => match ops[i]? with
    | some o => (match o.dst with
      | some t => decide (t < s0) && (List.range ops.size).all fun j => j == i || dstOf ops j != some t
      | none => false) && o.after.all fun e => !Region.binds .any e || decide (e.on < i)
    | none => false
theorem anyOk_spec {s0 : Nat} (h : anyOk ops s0 = true) {i : Nat} {o : Oper} (ho : ops[i]? = some o) : (∃ t, o.dst = some t ∧ t < s0 ∧ ∀ j, j < ops.size → j ≠ i → dstOf ops j ≠ some t) ∧ ∀ j, bd ops i j = true → j < i := by
  have hi : i < ops.size := (Array.getElem?_eq_some_iff.1 ho).1
  simp only [anyOk, List.all_eq_true, List.mem_range] at h
  have h1 := h i hi
  rw [ho] at h1
  simp only [Bool.and_eq_true] at h1
  obtain ⟨h1, h2⟩ := h1
  refine ⟨?_, fun j hj => ?_⟩
  · cases hd : o.dst with
    | none => rw [hd] at h1; cases h1
    | some t =>
      rw [hd] at h1
      simp only [Bool.and_eq_true, decide_eq_true_eq, List.all_eq_true, List.mem_range, Bool.or_eq_true, beq_iff_eq, bne_iff_ne] at h1
      exact ⟨t, rfl, h1.1, fun j hj hji => (h1.2 j hj).resolve_left hji⟩
  · obtain ⟨e, he, hb, rfl⟩ := bd_of ho hj
    have h3 := Array.all_eq_true'.1 h2 e he
    simpa [hb] using h3
theorem AInv.step {S : Nat → (Nat → Value) → Value → World → Prop} {a0 : Act} {w0 : World} {V : Nat → Value} {listed : Array Bool} {a : Act} {w : World} {s0 : Nat} (I : AInv ops S a0 w0 V listed a w) (hok : anyOk ops s0 = true) (h0 : s0 = a0.tmps.size)
    (hst : ∀ i V v w w', Below w.heap.size w w' → S i V v w → S i V v w') (hcg : ∀ i V V', (∀ j, bd ops i j = true → V j = V' j) → ∀ v w, S i V v w → S i V' v w)
    {i : Nat} {o : Oper} (ho : ops[i]? = some o) (hf : listed[i]? = some false) (hw : ∀ j, bd ops i j = true → listed[j]? = some true) {v : Value} {w' : World} (hb : Below w.heap.size w w') (hv : S i V v w') :
    AInv ops S a0 w0 (fun j => if j = i then v else V j) (listed.setIfInBounds i true) (a.put o.dst v) w' := by
  obtain ⟨⟨t0, hd, ht0, hdis⟩, hlt⟩ := anyOk_spec hok ho
  have hdi : dstOf ops i = some t0 := by simp [dstOf, ho, hd]
  have hil : i < listed.size := (Array.getElem?_eq_some_iff.1 hf).1
  have hne : ∀ j, listed[j]? = some true → j ≠ i := fun j hj e => by rw [e, hf] at hj; cases hj
  have hdj : ∀ j, listed[j]? = some true → dstOf ops j ≠ some t0 := fun j hj => hdis j (by rw [← I.size]; exact (Array.getElem?_eq_some_iff.1 hj).1) (hne j hj)
  have hcong : ∀ j, (listed[j]? = some true ∨ j = i) → ∀ u w, S j V u w → S j (fun j => if j = i then v else V j) u w := fun j hj => hcg j V _ fun k hk => by
    have : k ≠ i := by
      rcases hj with hj | rfl
      · exact hne k (I.closed j hj k hk)
      · have := hlt k hk; omega
    rw [if_neg this]
  refine ⟨by simpa using I.size, fun j hj k hk => ?_, I.below.trans (hb.mono I.below.size), by rw [put_defers']; exact I.defers, by rw [put_size]; exact I.tsize, fun t ht => ?_, fun j t hj hdt => ?_, fun j hj => ?_⟩
  · rcases set_get _ _ _ hj with rfl | hj
    · exact set_keep (hw k hk)
    · exact set_keep (I.closed j hj k hk)
  · rw [put_other _ _ (by rw [hd]; intro e; exact ht i (set_self _ _ hil) (by rw [hdi, e]))]
    exact I.old t fun j hj => ht j (set_keep hj)
  · rcases set_get _ _ _ hj with rfl | hj
    · rw [if_pos rfl, put_same _ _ (by rw [hd, ← hdi]; exact hdt)]
      rw [hdi] at hdt
      injection hdt with hdt
      rw [I.tsize, ← h0, ← hdt]
      exact ht0
    · rw [if_neg (hne j hj), put_other _ _ (by rw [hd]; intro e; exact hdj j hj (by rw [hdt, e]))]
      exact I.new j t hj hdt
  · rcases set_get _ _ _ hj with rfl | hj
    · simp only [if_pos]
      exact hcong _ (.inr rfl) _ _ hv
    · rw [if_neg (hne j hj)]
      exact hcong j (.inl hj) _ _ (hst _ _ _ _ _ hb (I.spec j hj))
/-- The frame behind the region: the values laid in the order of the text. -/
def laidAll (ops : Array Oper) (V : Nat → Value) (a : Act) : Nat → Act
  | 0 => a
  | n + 1 => (laidAll ops V a n).put (dstOf ops n) (V n)
theorem laidAll_defers (V : Nat → Value) (a : Act) : ∀ n, (laidAll ops V a n).defers = a.defers
  | 0 => rfl
  | n + 1 => by rw [laidAll, put_defers', laidAll_defers]
theorem laidAll_size (V : Nat → Value) (a : Act) : ∀ n, (laidAll ops V a n).tmps.size = a.tmps.size
  | 0 => rfl
  | n + 1 => by rw [laidAll, put_size, laidAll_size]
theorem laidAll_old (V : Nat → Value) (a : Act) {t : Tmp} : ∀ n, (∀ i, i < n → dstOf ops i ≠ some t) → (laidAll ops V a n).tmps[t]? = a.tmps[t]?
  | 0, _ => rfl
  | n + 1, h => by rw [laidAll, put_other _ _ (h n (by omega)), laidAll_old V a n fun i hi => h i (by omega)]
theorem laidAll_new {s0 : Nat} (hok : anyOk ops s0 = true) (V : Nat → Value) (a : Act) (h0 : s0 = a.tmps.size) {i : Nat} {t : Tmp} (hd : dstOf ops i = some t) (hi : i < ops.size) : ∀ n, i < n → n ≤ ops.size → (laidAll ops V a n).tmps[t]? = some (V i)
  | 0, h, _ => by omega
  | n + 1, h, hn => by
    obtain ⟨⟨t', hd', ht, hdis⟩, _⟩ := anyOk_spec hok (Array.getElem?_eq_getElem hi)
    have e : t' = t := by
      have : dstOf ops i = some t' := by simp [dstOf, Array.getElem?_eq_getElem hi, hd']
      rw [this] at hd
      injection hd
    subst e
    rw [laidAll]
    by_cases e : i = n
    · subst e
      exact put_same _ _ hd (by rw [laidAll_size, ← h0]; exact ht)
    · rw [put_other _ _ (hdis n (by omega) (fun e' => e e'.symm))]
      exact laidAll_new hok V a h0 hd hi n (by omega) (by omega)
theorem all_listed {s0 : Nat} (hok : anyOk ops s0 = true) {listed : Array Bool} (hs : listed.size = ops.size) (hr : Region.ready .any ops listed = []) : ∀ i, i < ops.size → listed[i]? = some true := by
  intro i
  induction i using Nat.strongRecOn with
  | _ i ih =>
    intro hi
    have hl : i < listed.size := by omega
    have hc : listed[i]? = some true ∨ listed[i]? = some false := by
      rw [Array.getElem?_eq_getElem hl]
      cases listed[i] <;> simp
    refine hc.resolve_right fun hf => ?_
    have := mk_ready (Array.getElem?_eq_getElem hi) hf fun j hj => by
      have h1 := (anyOk_spec hok (Array.getElem?_eq_getElem hi)).2 j hj
      exact ih j h1 (by omega)
    rw [hr] at this
    cases this
theorem any_any (S : Nat → (Nat → Value) → Value → World → Prop) (a0 : Act) (w0 : World) (s0 : Nat) (hok : anyOk ops s0 = true) (h0 : s0 = a0.tmps.size)
    (hst : ∀ i V v w w', Below w.heap.size w w' → S i V v w → S i V v w') (hcg : ∀ i V V', (∀ j, bd ops i j = true → V j = V' j) → ∀ v w, S i V v w → S i V' v w)
    (hstep : ∀ i o, ops[i]? = some o → ∀ V a w, Below w0.heap.size w0 w → (∀ j t, bd ops i j = true → dstOf ops j = some t → a.tmps[t]? = some (V j) ∧ S j V (V j) w) → (∀ t, (∀ j, j < ops.size → dstOf ops j ≠ some t) → a.tmps[t]? = a0.tmps[t]?) → Makes (ops := ops) P o a w (S i V))
    (h : ∀ V w', Below w0.heap.size w0 w' → (∀ i, i < ops.size → S i V (V i) w') → Q .normal (laidAll ops V a0 ops.size) w') :
    ∀ (fuel : Nat) (V : Nat → Value) (listed : Array Bool) (a : Act) (w : World), AInv ops S a0 w0 V listed a w → cnt listed + fuel = ops.size → wpAny P .any ops Q fuel listed a w := by
  have fin : ∀ (V : Nat → Value) (listed : Array Bool) (a : Act) (w : World), AInv ops S a0 w0 V listed a w → Region.ready .any ops listed = [] → Q .normal a w := fun V listed a w I hr => by
    have hl := all_listed hok I.size hr
    have e : a = laidAll ops V a0 ops.size := by
      refine act_eq (Array.ext_getElem? fun t => ?_) (by rw [laidAll_defers]; exact I.defers)
      by_cases ht : ∃ i, i < ops.size ∧ dstOf ops i = some t
      · obtain ⟨i, hi, hd⟩ := ht
        rw [I.new i t (hl i hi) hd, laidAll_new hok V a0 h0 hd hi _ hi (Nat.le_refl _)]
      · have hn : ∀ i, i < ops.size → dstOf ops i ≠ some t := fun i hi hd => ht ⟨i, hi, hd⟩
        rw [I.old t fun i hi => hn i (by rw [← I.size]; exact (Array.getElem?_eq_some_iff.1 hi).1), laidAll_old V a0 _ hn]
    rw [e]
    exact h V w I.below fun i hi => I.spec i (hl i hi)
  intro fuel
  induction fuel with
  | zero =>
    intro V listed a w I hc
    have hr : Region.ready .any ops listed = [] := by
      refine List.eq_nil_iff_forall_not_mem.2 fun i hi => ?_
      obtain ⟨hf, ⟨o, ho⟩, _⟩ := ready_spec hi
      have := cnt_full (l := listed) (by rw [I.size]; omega) (i := i) (by rw [I.size]; exact (Array.getElem?_eq_some_iff.1 ho).1)
      rw [hf] at this
      cases this
    exact ⟨hr, fin V listed a w I hr⟩
  | succ fuel ih =>
    intro V listed a w I hc
    refine ⟨fin V listed a w I, fun i hi => ?_⟩
    obtain ⟨hf, ⟨o, ho⟩, hw⟩ := ready_spec hi
    have hm := hstep i o ho V a w I.below (fun j t hj hd => ⟨I.new j t (hw j hj) hd, I.spec j (hw j hj)⟩) (fun t ht => I.old t fun j hj => ht j (by rw [← I.size]; exact (Array.getElem?_eq_some_iff.1 hj).1))
    have next : ∀ v w', Below w.heap.size w w' → S i V v w' → wpAny P .any ops Q fuel (listed.setIfInBounds i true) (a.put o.dst v) w' := fun v w' hb hv =>
      ih _ _ _ _ (I.step hok h0 hst hcg ho hf hw hb hv) (by rw [cnt_set hf]; omega)
    unfold wpOp
    simp only [ho]
    rw [if_pos hm.1]
    refine .inl ?_
    have hm2 := hm.2
    unfold Oper.wp
    generalize (execOp a.eval o).run P w = r at hm2
    cases r with
    | ok n w' =>
      cases n <;> simp only at hm2 <;> simp only [Oper.upon]
      case value u => exact next u w' hm2.1 hm2.2
      case enter f args =>
        obtain ⟨e1, hcall⟩ := hm2
        rw [e1]
        refine hcall.mono fun e w'' he => ?_
        obtain ⟨u, rfl, h1, h2⟩ := he
        exact next u w'' h1 h2
    | halt x w' => simp only at hm2
/-- The region, operation by operation. -/
theorem any_reg {id : Nat} {l : List Oper} {a : Act} {w : World} (S : Nat → (Nat → Value) → Value → World → Prop) (hm : P.follows .mixedOrders = true) (s0 : Nat) (hok : anyOk l.toArray s0 = true) (h0 : s0 = a.tmps.size)
    (hst : ∀ i V v w w', Below w.heap.size w w' → S i V v w → S i V v w') (hcg : ∀ i V V', (∀ j, bd l.toArray i j = true → V j = V' j) → ∀ v w, S i V v w → S i V' v w)
    (hstep : ∀ i o, l.toArray[i]? = some o → ∀ V b w1, Below w.heap.size w w1 → (∀ j t, bd l.toArray i j = true → dstOf l.toArray j = some t → b.tmps[t]? = some (V j) ∧ S j V (V j) w1) → (∀ t, (∀ j, j < l.toArray.size → dstOf l.toArray j ≠ some t) → b.tmps[t]? = a.tmps[t]?) → Makes (ops := l.toArray) P o b w1 (S i V))
    (h : ∀ V w', Below w.heap.size w w' → (∀ i, i < l.toArray.size → S i V (V i) w') → Q .normal (laidAll l.toArray V a l.toArray.size) w') : (Code.region id l.toArray true).wp P Q a w := by
  refine wp_region_any hm ?_
  have hf : ∀ i : Nat, (Array.replicate l.toArray.size false)[i]? ≠ some true := fun i h => by
    obtain ⟨h1, h2⟩ := Array.getElem?_eq_some_iff.1 h
    simp at h2
  have hd : Below w.heap.size w { w with drawn := w.drawn + 1 } := ⟨rfl, rfl, rfl, Nat.le_refl _, fun _ _ => rfl⟩
  refine any_any S a w s0 hok h0 hst hcg hstep h _ (fun _ => undef) _ a _ ⟨by simp, fun i hl => absurd hl (hf i), hd, rfl, rfl, fun _ _ => rfl, fun i _ hl => absurd hl (hf i), fun i hl => absurd hl (hf i)⟩ ?_
  have hz : cnt (Array.replicate l.length false) = 0 := by
    unfold cnt
    rw [Array.toList_replicate, List.count_replicate]
    simp
  simp only [List.size_toArray]
  rw [hz, Nat.zero_add]
end
end Go.Proofs.Yteaipeejhippiaa
