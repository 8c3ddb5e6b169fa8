/- The document's Less; the same item told to and fro. -/
import Derived.Test.YtclcmkpggigdgaaQSmall
namespace Go.Proofs.Ytclcmkpggigdgaa
open Go.RowKit
attribute [local go_sem] cell_set_self

set_option maxHeartbeats 4000000 in
theorem RLess_calls (a b : Item) (w : World) : Calls Try.prog 10 #[.agg #[.int .i64 a.cost, .int .i64 a.hops, .int .i64 a.node], .agg #[.int .i64 b.cost, .int .i64 b.hops, .int .i64 b.node]] w fun e w' => e = .returned (.bool (lessB a b)) ∧ Below w.heap.size w w' := by
  have hb : ∀ r : Bool, (r = true ↔ Less a b) → r = lessB a b := fun r h => by rw [Bool.eq_iff_iff, h, lessB, decide_eq_true_iff]
  have HB := Lib.hid hb
  clear hb
  obtain ⟨a1, a2, a3⟩ := a
  obtain ⟨b1, b2, b3⟩ := b
  unfold Less at HB
  simp only at HB ⊢
  by_cases e1 : a1 = b1
  · subst e1
    by_cases e2 : a2 = b2
    · subst e2
      by_cases c3 : a3 < b3
      all_goals
        go_enter Try.func10, Try.ntmps10
        go_wp2
        go_ret
        exact ⟨congrArg (fun b => Ending.returned (.bool b)) (HB.out _ (by simp <;> omega)), (by repeat (first | (with_reducible exact Below.refl _ _) | (with_reducible assumption) | ((with_reducible refine Below.setCell ?_ ?_ _); rotate_left; (first | omega | (simp <;> omega))) | ((with_reducible refine Below.alloc ?_ ?_ _); rotate_left; (first | omega | (simp <;> omega))) | ((with_reducible refine Below.drew ?_)) | ((with_reducible refine below_drewN ?_ _)) | ((with_reducible refine Below.trans ?_ (Below.mono (by with_reducible assumption) ?_)); rotate_left; (first | omega | (simp <;> omega)))))⟩
    · have d2 : (a2 != b2) = true := by simpa using e2
      by_cases c2 : a2 < b2
      all_goals
        go_enter Try.func10, Try.ntmps10
        go_wp2
        go_ret
        exact ⟨congrArg (fun b => Ending.returned (.bool b)) (HB.out _ (by simp <;> omega)), (by repeat (first | (with_reducible exact Below.refl _ _) | (with_reducible assumption) | ((with_reducible refine Below.setCell ?_ ?_ _); rotate_left; (first | omega | (simp <;> omega))) | ((with_reducible refine Below.alloc ?_ ?_ _); rotate_left; (first | omega | (simp <;> omega))) | ((with_reducible refine Below.drew ?_)) | ((with_reducible refine below_drewN ?_ _)) | ((with_reducible refine Below.trans ?_ (Below.mono (by with_reducible assumption) ?_)); rotate_left; (first | omega | (simp <;> omega)))))⟩
  · have d1 : (a1 != b1) = true := by simpa using e1
    by_cases c1 : a1 < b1
    all_goals
      go_enter Try.func10, Try.ntmps10
      go_wp2
      go_ret
      exact ⟨congrArg (fun b => Ending.returned (.bool b)) (HB.out _ (by simp <;> omega)), (by repeat (first | (with_reducible exact Below.refl _ _) | (with_reducible assumption) | ((with_reducible refine Below.setCell ?_ ?_ _); rotate_left; (first | omega | (simp <;> omega))) | ((with_reducible refine Below.alloc ?_ ?_ _); rotate_left; (first | omega | (simp <;> omega))) | ((with_reducible refine Below.drew ?_)) | ((with_reducible refine below_drewN ?_ _)) | ((with_reducible refine Below.trans ?_ (Below.mono (by with_reducible assumption) ?_)); rotate_left; (first | omega | (simp <;> omega)))))⟩

set_option maxHeartbeats 4000000 in
theorem theirs_calls (a : Item) (w : World) : Calls Try.prog 9 #[.agg #[.int .i64 a.cost, .int .i64 a.hops, .int .i64 a.node]] w fun e w' => e = .returned (.agg #[.int .i64 a.cost, .int .i64 a.hops, .int .i64 a.node]) ∧ Below w.heap.size w w' := by
  go_enter Try.func9, Try.ntmps9
  go_wp2
  exact bodyPost_ret (v := .agg #[.int .i64 a.cost, .int .i64 a.hops, .int .i64 a.node]) (by simp [results, Try.results9, go_sem]) rfl ⟨rfl, (by repeat (first | (with_reducible exact Below.refl _ _) | (with_reducible assumption) | ((with_reducible refine Below.setCell ?_ ?_ _); rotate_left; (first | omega | (simp <;> omega))) | ((with_reducible refine Below.alloc ?_ ?_ _); rotate_left; (first | omega | (simp <;> omega))) | ((with_reducible refine Below.drew ?_)) | ((with_reducible refine below_drewN ?_ _)) | ((with_reducible refine Below.trans ?_ (Below.mono (by with_reducible assumption) ?_)); rotate_left; (first | omega | (simp <;> omega)))))⟩
set_option maxHeartbeats 4000000 in
theorem ours_calls (a : Item) (w : World) : Calls Try.prog 15 #[.agg #[.int .i64 a.cost, .int .i64 a.hops, .int .i64 a.node]] w fun e w' => e = .returned (.agg #[.int .i64 a.cost, .int .i64 a.hops, .int .i64 a.node]) ∧ Below w.heap.size w w' := by
  go_enter Try.func15, Try.ntmps15
  go_wp2
  exact bodyPost_ret (v := .agg #[.int .i64 a.cost, .int .i64 a.hops, .int .i64 a.node]) (by simp [results, Try.results15, go_sem]) rfl ⟨rfl, (by repeat (first | (with_reducible exact Below.refl _ _) | (with_reducible assumption) | ((with_reducible refine Below.setCell ?_ ?_ _); rotate_left; (first | omega | (simp <;> omega))) | ((with_reducible refine Below.alloc ?_ ?_ _); rotate_left; (first | omega | (simp <;> omega))) | ((with_reducible refine Below.drew ?_)) | ((with_reducible refine below_drewN ?_ _)) | ((with_reducible refine Below.trans ?_ (Below.mono (by with_reducible assumption) ?_)); rotate_left; (first | omega | (simp <;> omega)))))⟩
end Go.Proofs.Ytclcmkpggigdgaa
