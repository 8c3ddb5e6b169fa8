/- Small laws on memory for the walks of this seat: a cell behind a store; what lies below stays; the steps of a region that draws its order, in a class of worlds. -/
import Derived.Below
import Derived.WalkKit
import Derived.Deep.Quiet
import Derived.Deep.Draws
namespace Go.Proofs.Yteaipeejhippiaa
open Go.RowKit

/-- A cell behind a store into it. -/
theorem cell_set_self (w : World) (a : Addr) (v : Value) : (w.setCell a v).cell? a = (w.cell? a).map fun _ => v := by
  cases h : w.cell? a with
  | some u => simp [World.cell?_setCell_same _ _ _ h]
  | none =>
    unfold World.cell? at h ⊢
    simp only [World.setCell, Array.getElem?_modify, ↓reduceIte, Option.map_none]
    cases hb : w.heap[a.block]? with
    | none => rfl
    | some o =>
      cases o with
      | cells c e f =>
        rw [hb] at h
        simp only [Option.map_some] at h ⊢
        split at h
        · rename_i hs
          simp [hs]
        · rename_i hs
          simp only [hs, Bool.false_eq_true, ↓reduceIte]
          have : c.size ≤ a.off := by
            rcases Nat.lt_or_ge a.off c.size with h' | h'
            · rw [Array.getElem?_eq_getElem h'] at h; cases h
            · exact h'
          rw [Array.getElem?_eq_none (by simpa using this)]
      | _ => rfl

theorem bcell {W w1 : World} (hb : Below W.heap.size W w1) : (∀ b o, b < W.heap.size → w1.cell? ⟨b, o, none⟩ = W.cell? ⟨b, o, none⟩) ∧ (∀ b o, b < W.heap.size → w1.frozen? ⟨b, o, none⟩ = W.frozen? ⟨b, o, none⟩) :=
  ⟨fun b o h => hb.cell (p := ⟨b, o, none⟩) h, fun b o h => hb.frozen (p := ⟨b, o, none⟩) h⟩
/-- The same for an address of whatever form. -/
theorem bcell' {W w1 : World} (hb : Below W.heap.size W w1) : (∀ a : Addr, a.block < W.heap.size → w1.cell? a = W.cell? a) ∧ (∀ a : Addr, a.block < W.heap.size → w1.frozen? a = W.frozen? a) :=
  ⟨fun _ h => hb.cell h, fun _ h => hb.frozen h⟩

theorem size_lt {W w1 : World} {B n : Nat} (hb : Below B W w1) (h : n < W.heap.size) : n < w1.heap.size := Nat.lt_of_lt_of_le h hb.size

theorem below_drewN {B : Nat} {a w : World} (h : Below B a w) (n : Nat) : Below B a (w.drewN n) := ⟨h.os, h.tape, h.output, h.size, h.block⟩
theorem num_step (k : Nat) : Value.int .i64 ((k : Int) + 1) = .int .i64 ((k + 1 : Nat) : Int) := by rw [Int.natCast_add]; rfl

/-! ### A block of cells, known whole -/
/-- Block B holds the cells xs, of which none is frozen. -/
def Row (w : World) (B : Nat) (xs : Array Value) : Prop := (∀ o, w.cell? ⟨B, o, none⟩ = xs[o]?) ∧ (∀ o, w.frozen? ⟨B, o, none⟩ = false) ∧ B < w.heap.size
theorem Row.new (w : World) (xs : Array Value) (t : TypeId) : Row (w.alloc (.cells xs t)) w.heap.size xs :=
  ⟨fun o => World.cell?_alloc_new w xs t o, fun o => World.frozen?_alloc_new w xs t o, by simp⟩
theorem Row.new' (w : World) {B : Nat} (xs : Array Value) (t : TypeId) (hB : B = w.heap.size) : Row (w.alloc (.cells xs t)) B xs := by
  subst hB
  exact Row.new w xs t
theorem Row.alloc {w : World} {B : Nat} {xs : Array Value} (h : Row w B xs) (o : Obj) : Row (w.alloc o) B xs :=
  ⟨fun i => (World.cell?_alloc_lt w o ⟨B, i, none⟩ h.2.2).trans (h.1 i), fun i => (World.frozen?_alloc_old w o ⟨B, i, none⟩ (by have := h.2.2; simp; omega)).trans (h.2.1 i), by have := h.2.2; simp; omega⟩
theorem Row.drew {w : World} {B : Nat} {xs : Array Value} (h : Row w B xs) : Row w.drew B xs := h
theorem Row.drewN {w : World} {B : Nat} {xs : Array Value} (h : Row w B xs) (n : Nat) : Row (w.drewN n) B xs := h
theorem Row.below {W w1 : World} {B C : Nat} {xs : Array Value} (h : Row W B xs) (hb : Below C W w1) (hB : B < C) : Row w1 B xs :=
  ⟨fun o => (hb.cell (p := ⟨B, o, none⟩) hB).trans (h.1 o), fun o => (hb.frozen (p := ⟨B, o, none⟩) hB).trans (h.2.1 o), Nat.lt_of_lt_of_le h.2.2 hb.size⟩
theorem Row.later {W w1 : World} {B : Nat} {xs : Array Value} (h : Row W B xs) (hb : Below W.heap.size W w1) : Row w1 B xs := h.below hb h.2.2
theorem frozen_set (w : World) (a b : Addr) (v : Value) : (w.setCell a v).frozen? b = w.frozen? b := World.frozen?_setCell w a b v
theorem Row.far {w : World} {B : Nat} {xs : Array Value} (h : Row w B xs) {a : Addr} (ha : a.block ≠ B) (v : Value) : Row (w.setCell a v) B xs :=
  ⟨fun o => (World.cell?_setCell_other w a ⟨B, o, none⟩ v (fun e => ha (by rw [e]))).trans (h.1 o), fun o => (frozen_set w a _ v).trans (h.2.1 o), by have := h.2.2; simpa [World.setCell] using this⟩
theorem Row.set {w : World} {B : Nat} {xs : Array Value} (h : Row w B xs) (k : Nat) (v : Value) : Row (w.setCell ⟨B, k, none⟩ v) B (xs.setIfInBounds k v) := by
  refine ⟨fun o => ?_, fun o => (frozen_set w _ _ v).trans (h.2.1 o), by have := h.2.2; simpa [World.setCell] using this⟩
  by_cases e : k = o
  · subst e
    rw [cell_set_self, h.1, Array.getElem?_setIfInBounds_self]
    by_cases hk : k < xs.size
    · rw [Array.getElem?_eq_getElem hk]; simp [hk]
    · rw [Array.getElem?_eq_none (by omega)]; simp [hk]
  · rw [World.cell?_setCell_other w _ _ v (fun e' => e (by injection e')), h.1, Array.getElem?_setIfInBounds_ne e]

/-! ### A region that draws its order: its operations in the order of the text, each in whatever world of a class -/
section
variable {P : Program} {ops : Array Oper} {C : World → Prop} {Q : Act → Prop} {rest : List Oper} {o : Oper} {a : Act}
theorem q_pure {v : Value} (hw : Region.wanted o (yielded ops a.tmps) = true) (h : ∀ w, C w → (execOp a.eval o).run P w = .ok (.value v) w) (hn : wpQuiet P ops C Q rest (a.put o.dst v)) : wpQuiet P ops C Q (o :: rest) a := by
  unfold wpQuiet
  rw [if_pos hw]
  refine ⟨v, fun w hC => ?_, hn⟩
  unfold Oper.quietAt
  rw [h w hC]
  exact ⟨rfl, rfl⟩
theorem q_skip (hw : Region.wanted o (yielded ops a.tmps) = false) (hn : wpQuiet P ops C Q rest (a.put o.dst undef)) : wpQuiet P ops C Q (o :: rest) a := by
  unfold wpQuiet
  rw [hw, if_neg (by simp)]
  exact hn
theorem q_call {f : FuncId} {fn : Func} {as : Array Operand} {ts : Array TypeId} {v : Value} (args : Array Value) (hop : o.op = .call { callee := .value (.func f), args := as, argTypes := ts }) (hf : P.funcs[f]? = some fn) (hname : (fn.name == "runtime.NumGoroutine") = false) (hb : fn.body.isSome = true)
    (hw : Region.wanted o (yielded ops a.tmps) = true) (hargs : as.map a.eval = args)
    (hc : ∀ w, C w → Calls P f args w fun e w' => e = .returned v ∧ C w') (hn : wpQuiet P ops C Q rest (a.put o.dst v)) : wpQuiet P ops C Q (o :: rest) a := by
  unfold wpQuiet
  rw [if_pos hw]
  refine ⟨v, fun w hC => ?_, hn⟩
  unfold Oper.quietAt
  have h1 : fn.name ≠ "runtime.NumGoroutine" := by simpa using hname
  obtain ⟨c, hc'⟩ := Option.isSome_iff_exists.1 hb
  have he : (callFunc f args).run P w = .ok (.enter f args) w := by simp [callFunc, hf, h1, hc']
  have hrun : (execOp a.eval o).run P w = .ok (.enter f args) w := by
    unfold execOp
    simp [hop, resolve, Deferred.ofValue, invoke, Act.eval, hargs, he]
  rw [hrun]
  exact ⟨rfl, hc w hC⟩
theorem q_callB {W : World} {f : FuncId} {fn : Func} {as : Array Operand} {ts : Array TypeId} {v : Value} {args : Array Value} (hc : ∀ w, Below W.heap.size W w → Calls P f args w fun e w' => e = .returned v ∧ Below w.heap.size w w') (hf : P.funcs[f]? = some fn) (hname : (fn.name == "runtime.NumGoroutine") = false) (hb : fn.body.isSome = true)
    (hop : o.op = .call { callee := .value (.func f), args := as, argTypes := ts }) (hw : Region.wanted o (yielded ops a.tmps) = true) (hargs : as.map a.eval = args) (hn : wpQuiet P ops (Below W.heap.size W) Q rest (a.put o.dst v)) : wpQuiet P ops (Below W.heap.size W) Q (o :: rest) a :=
  q_call args hop hf hname hb hw hargs (fun w hC => (hc w hC).mono fun _ _ hh => ⟨hh.1, hC.trans (hh.2.mono hC.size)⟩) hn
theorem q_norm {a' : Act} {l : List Oper} (ha : a = a') (h : wpQuiet P ops C Q l a') : wpQuiet P ops C Q l a := by
  subst ha
  exact h
end

/-- The region, at the class 'below W's blocks as W'. -/
theorem q_region {P : Program} {id : Nat} {Q : Exit → Act → World → Prop} {a : Act} {W : World} {l : List Oper} (hm : P.follows .mixedOrders = true) (hB : Region.lexB .any l.toArray = true)
    (h : wpQuiet P l.toArray (Below W.heap.size W) (fun a' => ∀ w', Below W.heap.size W w' → Q .normal a' w') l a) : (Code.region id l.toArray true).wp P Q a W :=
  wp_region_quiet (C := Below W.heap.size W) hm hB ⟨rfl, rfl, rfl, Nat.le_refl _, fun _ _ => rfl⟩ (by simpa using h)
end Go.Proofs.Yteaipeejhippiaa
