/- Small functions of the queue's seat: which item is less; the same item; a new queue; how many wait. -/
import Derived.Test.YteaipeejhippiaaProg
import Derived.Test.YteaipeejhippiaaSeq
import Derived.WalkKit
import Derived.WalkSpells
import Derived.Below
import Derived.KernelRfl
import Derived.Lib.Hide
import Derived.LoopTactic
import Derived.Outline
namespace Go.Proofs.Yteaipeejhippiaa
open Go.RowKit
attribute [local go_sem] cell_set_self

structure Item where
  cost : Int
  hops : Int
  node : Int
  deriving DecidableEq
def itemRow (x : Item) : Array Value := #[.int .i64 x.cost, .int .i64 x.hops, .int .i64 x.node]
def Less (a b : Item) : Prop := a.cost < b.cost ∨ (a.cost = b.cost ∧ (a.hops < b.hops ∨ (a.hops = b.hops ∧ a.node < b.node)))
instance (a b : Item) : Decidable (Less a b) := by unfold Less; infer_instance
def lessB (a b : Item) : Bool := decide (Less a b)
theorem Less.irrefl (a : Item) : ¬ Less a a := by unfold Less; omega
theorem Less.trans {a b c : Item} (h : Less a b) (k : Less b c) : Less a c := by unfold Less at *; omega
theorem Less.tri (a b : Item) : Less a b ∨ a = b ∨ Less b a := by
  obtain ⟨a1, a2, a3⟩ := a
  obtain ⟨b1, b2, b3⟩ := b
  unfold Less
  simp only [Item.mk.injEq]
  omega
theorem Less.asymm {a b : Item} (h : Less a b) : ¬ Less b a := fun k => Less.irrefl _ (h.trans k)
theorem eq_of_not {a b : Item} (h : ¬ Less a b) (k : ¬ Less b a) : a = b := by
  rcases Less.tri a b with e | e | e
  · exact absurd e h
  · exact e
  · exact absurd e k

set_option maxHeartbeats 4000000 in
theorem Less_calls (a b : Item) (w : World) : Calls Try.prog 93 #[.agg #[.int .i64 a.cost, .int .i64 a.hops, .int .i64 a.node], .agg #[.int .i64 b.cost, .int .i64 b.hops, .int .i64 b.node]] w fun e w' => e = .returned (.bool (lessB a b)) ∧ Below w.heap.size w w' := by
  have hb : ∀ r : Bool, (r = true ↔ Less a b) → r = lessB a b := fun r h => by rw [Bool.eq_iff_iff, h, lessB, decide_eq_true_iff]
  have HB := Lib.hid hb
  clear hb
  obtain ⟨a1, a2, a3⟩ := a
  obtain ⟨b1, b2, b3⟩ := b
  unfold Less at HB
  simp only at HB ⊢
  by_cases e1 : a1 = b1
  · subst e1
    by_cases e2 : a2 = b2
    · subst e2
      by_cases c3 : a3 < b3
      all_goals
        go_enter Try.func93, Try.ntmps93
        go_wp2
        go_ret
        exact ⟨congrArg (fun b => Ending.returned (.bool b)) (HB.out _ (by simp <;> omega)), (by repeat (first | (with_reducible exact Below.refl _ _) | (with_reducible assumption) | ((with_reducible refine Below.setCell ?_ ?_ _); rotate_left; (first | omega | (simp <;> omega))) | ((with_reducible refine Below.alloc ?_ ?_ _); rotate_left; (first | omega | (simp <;> omega))) | ((with_reducible refine Below.drew ?_)) | ((with_reducible refine below_drewN ?_ _)) | ((with_reducible refine Below.trans ?_ (Below.mono (by with_reducible assumption) ?_)); rotate_left; (first | omega | (simp <;> omega)))))⟩
    · have d2 : (a2 != b2) = true := by simpa using e2
      by_cases c2 : a2 < b2
      all_goals
        go_enter Try.func93, Try.ntmps93
        go_wp2
        go_ret
        exact ⟨congrArg (fun b => Ending.returned (.bool b)) (HB.out _ (by simp <;> omega)), (by repeat (first | (with_reducible exact Below.refl _ _) | (with_reducible assumption) | ((with_reducible refine Below.setCell ?_ ?_ _); rotate_left; (first | omega | (simp <;> omega))) | ((with_reducible refine Below.alloc ?_ ?_ _); rotate_left; (first | omega | (simp <;> omega))) | ((with_reducible refine Below.drew ?_)) | ((with_reducible refine below_drewN ?_ _)) | ((with_reducible refine Below.trans ?_ (Below.mono (by with_reducible assumption) ?_)); rotate_left; (first | omega | (simp <;> omega)))))⟩
  · have d1 : (a1 != b1) = true := by simpa using e1
    by_cases c1 : a1 < b1
    all_goals
      go_enter Try.func93, Try.ntmps93
      go_wp2
      go_ret
      exact ⟨congrArg (fun b => Ending.returned (.bool b)) (HB.out _ (by simp <;> omega)), (by repeat (first | (with_reducible exact Below.refl _ _) | (with_reducible assumption) | ((with_reducible refine Below.setCell ?_ ?_ _); rotate_left; (first | omega | (simp <;> omega))) | ((with_reducible refine Below.alloc ?_ ?_ _); rotate_left; (first | omega | (simp <;> omega))) | ((with_reducible refine Below.drew ?_)) | ((with_reducible refine below_drewN ?_ _)) | ((with_reducible refine Below.trans ?_ (Below.mono (by with_reducible assumption) ?_)); rotate_left; (first | omega | (simp <;> omega)))))⟩
end Go.Proofs.Yteaipeejhippiaa
