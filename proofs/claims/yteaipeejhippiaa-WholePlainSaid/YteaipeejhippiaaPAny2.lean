/- The same for a region that makes blocks which are to be told apart. -/
import Derived.Test.YteaipeejhippiaaPAny
namespace Go.Proofs.Yteaipeejhippiaa
open Go.RowKit
section
variable {P : Program} {ops : Array Oper} {Q : Exit → Act → World → Prop}
/-- What holds on the way; K tells which operations make a block, Bl a value's block. -/
structure BInv (ops : Array Oper) (S : Nat → (Nat → Value) → Value → World → Prop) (K : Nat → Bool) (Bl : Value → Option Nat) (a0 : Act) (w0 : World) (V : Nat → Value) (listed : Array Bool) (a : Act) (w : World) : Prop where
  inv : AInv ops S a0 w0 V listed a w
  lt : ∀ i, listed[i]? = some true → K i = true → ∃ b, Bl (V i) = some b ∧ b < w.heap.size
  apart : ∀ i j, listed[i]? = some true → listed[j]? = some true → K i = true → K j = true → i ≠ j → Bl (V i) ≠ Bl (V j)
/-- A fresh block. -/
def Anew (Bl : Value → Option Nat) (w : World) (v : Value) (w' : World) : Prop := ∃ b, Bl v = some b ∧ w.heap.size ≤ b ∧ b < w'.heap.size
theorem BInv.step {S : Nat → (Nat → Value) → Value → World → Prop} {K : Nat → Bool} {Bl : Value → Option Nat} {a0 : Act} {w0 : World} {V : Nat → Value} {listed : Array Bool} {a : Act} {w : World} {s0 : Nat} (I : BInv ops S K Bl a0 w0 V listed a w) (hok : anyOk ops s0 = true) (h0 : s0 = a0.tmps.size)
    (hst : ∀ i V v w w', Below w.heap.size w w' → S i V v w → S i V v w') (hcg : ∀ i V V', (∀ j, bd ops i j = true → V j = V' j) → ∀ v w, S i V v w → S i V' v w)
    {i : Nat} {o : Oper} (ho : ops[i]? = some o) (hf : listed[i]? = some false) (hw : ∀ j, bd ops i j = true → listed[j]? = some true) {v : Value} {w' : World} (hb : Below w.heap.size w w') (hv : S i V v w') (hn : K i = true → Anew Bl w v w') :
    BInv ops S K Bl a0 w0 (fun j => if j = i then v else V j) (listed.setIfInBounds i true) (a.put o.dst v) w' := by
  have hne : ∀ j, listed[j]? = some true → j ≠ i := fun j hj e => by rw [e, hf] at hj; cases hj
  refine ⟨I.inv.step hok h0 hst hcg ho hf hw hb hv, fun j hj hK => ?_, fun j k hj hk hKj hKk hjk => ?_⟩
  · rcases set_get _ _ _ hj with rfl | hj
    · rw [if_pos rfl]
      obtain ⟨b, h1, _, h2⟩ := hn hK
      exact ⟨b, h1, h2⟩
    · rw [if_neg (hne j hj)]
      obtain ⟨b, h1, h2⟩ := I.lt j hj hK
      exact ⟨b, h1, Nat.lt_of_lt_of_le h2 hb.size⟩
  · rcases set_get _ _ _ hj with rfl | hj2
    · rcases set_get _ _ _ hk with rfl | hk2
      · exact absurd rfl hjk
      · rw [if_pos rfl, if_neg (hne k hk2)]
        obtain ⟨b, h1, h2, _⟩ := hn hKj
        obtain ⟨b', h3, h4⟩ := I.lt k hk2 hKk
        rw [h1, h3]
        intro e
        injection e with e
        omega
    · rcases set_get _ _ _ hk with rfl | hk2
      · rw [if_pos rfl, if_neg (hne j hj2)]
        obtain ⟨b, h1, h2, _⟩ := hn hKk
        obtain ⟨b', h3, h4⟩ := I.lt j hj2 hKj
        rw [h1, h3]
        intro e
        injection e with e
        omega
      · rw [if_neg (hne j hj2), if_neg (hne k hk2)]
        exact I.apart j k hj2 hk2 hKj hKk hjk
theorem any_any2 (S : Nat → (Nat → Value) → Value → World → Prop) (K : Nat → Bool) (Bl : Value → Option Nat) (a0 : Act) (w0 : World) (s0 : Nat) (hok : anyOk ops s0 = true) (h0 : s0 = a0.tmps.size)
    (hst : ∀ i V v w w', Below w.heap.size w w' → S i V v w → S i V v w') (hcg : ∀ i V V', (∀ j, bd ops i j = true → V j = V' j) → ∀ v w, S i V v w → S i V' v w)
    (hstep : ∀ i o, ops[i]? = some o → ∀ V a w, Below w0.heap.size w0 w → (∀ j t, bd ops i j = true → dstOf ops j = some t → a.tmps[t]? = some (V j) ∧ S j V (V j) w) → (∀ t, (∀ j, j < ops.size → dstOf ops j ≠ some t) → a.tmps[t]? = a0.tmps[t]?) → Makes (ops := ops) P o a w (fun v w' => S i V v w' ∧ (K i = true → Anew Bl w v w')))
    (h : ∀ V w', Below w0.heap.size w0 w' → (∀ i, i < ops.size → S i V (V i) w') → (∀ i j, i < ops.size → j < ops.size → K i = true → K j = true → i ≠ j → Bl (V i) ≠ Bl (V j)) → Q .normal (laidAll ops V a0 ops.size) w') :
    ∀ (fuel : Nat) (V : Nat → Value) (listed : Array Bool) (a : Act) (w : World), BInv ops S K Bl a0 w0 V listed a w → cnt listed + fuel = ops.size → wpAny P .any ops Q fuel listed a w := by
  have fin : ∀ (V : Nat → Value) (listed : Array Bool) (a : Act) (w : World), BInv ops S K Bl a0 w0 V listed a w → Region.ready .any ops listed = [] → Q .normal a w := fun V listed a w I hr => by
    have hl := all_listed hok I.inv.size hr
    have e : a = laidAll ops V a0 ops.size := by
      refine act_eq (Array.ext_getElem? fun t => ?_) (by rw [laidAll_defers]; exact I.inv.defers)
      by_cases ht : ∃ i, i < ops.size ∧ dstOf ops i = some t
      · obtain ⟨i, hi, hd⟩ := ht
        rw [I.inv.new i t (hl i hi) hd, laidAll_new hok V a0 h0 hd hi _ hi (Nat.le_refl _)]
      · have hn : ∀ i, i < ops.size → dstOf ops i ≠ some t := fun i hi hd => ht ⟨i, hi, hd⟩
        rw [I.inv.old t fun i hi => hn i (by rw [← I.inv.size]; exact (Array.getElem?_eq_some_iff.1 hi).1), laidAll_old V a0 _ hn]
    rw [e]
    exact h V w I.inv.below (fun i hi => I.inv.spec i (hl i hi)) fun i j hi hj => I.apart i j (hl i hi) (hl j hj)
  intro fuel
  induction fuel with
  | zero =>
    intro V listed a w I hc
    have hr : Region.ready .any ops listed = [] := by
      refine List.eq_nil_iff_forall_not_mem.2 fun i hi => ?_
      obtain ⟨hf, ⟨o, ho⟩, _⟩ := ready_spec hi
      have := cnt_full (l := listed) (by rw [I.inv.size]; omega) (i := i) (by rw [I.inv.size]; exact (Array.getElem?_eq_some_iff.1 ho).1)
      rw [hf] at this
      cases this
    exact ⟨hr, fin V listed a w I hr⟩
  | succ fuel ih =>
    intro V listed a w I hc
    refine ⟨fin V listed a w I, fun i hi => ?_⟩
    obtain ⟨hf, ⟨o, ho⟩, hw⟩ := ready_spec hi
    have hm := hstep i o ho V a w I.inv.below (fun j t hj hd => ⟨I.inv.new j t (hw j hj) hd, I.inv.spec j (hw j hj)⟩) (fun t ht => I.inv.old t fun j hj => ht j (by rw [← I.inv.size]; exact (Array.getElem?_eq_some_iff.1 hj).1))
    have next : ∀ v w', Below w.heap.size w w' → S i V v w' ∧ (K i = true → Anew Bl w v w') → wpAny P .any ops Q fuel (listed.setIfInBounds i true) (a.put o.dst v) w' := fun v w' hb hv =>
      ih _ _ _ _ (I.step hok h0 hst hcg ho hf hw hb hv.1 hv.2) (by rw [cnt_set hf]; omega)
    unfold wpOp
    simp only [ho]
    rw [if_pos hm.1]
    refine .inl ?_
    have hm2 := hm.2
    unfold Oper.wp
    generalize (execOp a.eval o).run P w = r at hm2
    cases r with
    | ok n w' =>
      cases n <;> simp only at hm2 <;> simp only [Oper.upon]
      case value u => exact next u w' hm2.1 hm2.2
      case enter f args =>
        obtain ⟨e1, hcall⟩ := hm2
        rw [e1]
        refine hcall.mono fun e w'' he => ?_
        obtain ⟨u, rfl, h1, h2⟩ := he
        exact next u w'' h1 h2
    | halt x w' => simp only at hm2
/-- The region, operation by operation. -/
theorem any_reg2 {id : Nat} {l : List Oper} {a : Act} {w : World} (S : Nat → (Nat → Value) → Value → World → Prop) (K : Nat → Bool) (Bl : Value → Option Nat) (hm : P.follows .mixedOrders = true) (s0 : Nat) (hok : anyOk l.toArray s0 = true) (h0 : s0 = a.tmps.size)
    (hst : ∀ i V v w w', Below w.heap.size w w' → S i V v w → S i V v w') (hcg : ∀ i V V', (∀ j, bd l.toArray i j = true → V j = V' j) → ∀ v w, S i V v w → S i V' v w)
    (hstep : ∀ i o, l.toArray[i]? = some o → ∀ V b w1, Below w.heap.size w w1 → (∀ j t, bd l.toArray i j = true → dstOf l.toArray j = some t → b.tmps[t]? = some (V j) ∧ S j V (V j) w1) → (∀ t, (∀ j, j < l.toArray.size → dstOf l.toArray j ≠ some t) → b.tmps[t]? = a.tmps[t]?) → Makes (ops := l.toArray) P o b w1 (fun v w' => S i V v w' ∧ (K i = true → Anew Bl w1 v w')))
    (h : ∀ V w', Below w.heap.size w w' → (∀ i, i < l.toArray.size → S i V (V i) w') → (∀ i j, i < l.toArray.size → j < l.toArray.size → K i = true → K j = true → i ≠ j → Bl (V i) ≠ Bl (V j)) → Q .normal (laidAll l.toArray V a l.toArray.size) w') : (Code.region id l.toArray true).wp P Q a w := by
  refine wp_region_any hm ?_
  have hf : ∀ i : Nat, (Array.replicate l.toArray.size false)[i]? ≠ some true := fun i h => by
    obtain ⟨h1, h2⟩ := Array.getElem?_eq_some_iff.1 h
    simp at h2
  have hd : Below w.heap.size w { w with drawn := w.drawn + 1 } := ⟨rfl, rfl, rfl, Nat.le_refl _, fun _ _ => rfl⟩
  refine any_any2 S K Bl a w s0 hok h0 hst hcg hstep h _ (fun _ => undef) _ a _ ⟨⟨by simp, fun i hl => absurd hl (hf i), hd, rfl, rfl, fun _ _ => rfl, fun i _ hl => absurd hl (hf i), fun i hl => absurd hl (hf i)⟩, fun i hl => absurd hl (hf i), fun i _ hl => absurd hl (hf i)⟩ ?_
  have hz : cnt (Array.replicate l.length false) = 0 := by
    unfold cnt
    rw [Array.toList_replicate, List.count_replicate]
    simp
  simp only [List.size_toArray]
  rw [hz, Nat.zero_add]
end
end Go.Proofs.Yteaipeejhippiaa
