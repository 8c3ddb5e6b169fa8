/- Which of any two items is less is told as the document says. The walk of the law. -/
import Derived.Test.YtclcmkpggigdgaaQAlive
namespace Go.Proofs.Ytclcmkpggigdgaa
open Go.RowKit
attribute [local go_sem] cell_set_self

set_option maxRecDepth 1000000 in
set_option maxHeartbeats 8000000 in
theorem QueueLess_walk (a b : Item) (w : World) : Calls Try.prog 3 #[.agg #[.int .i64 a.cost, .int .i64 a.hops, .int .i64 a.node], .agg #[.int .i64 b.cost, .int .i64 b.hops, .int .i64 b.node]] w fun e w' => e = .returned (.bool true) ∧ Below w.heap.size w w' := by
  have H1 := Lib.hid fun w => theirs_calls a w
  have H2 := Lib.hid fun w => theirs_calls b w
  have H3 := Lib.hid fun w => Less_calls a b w
  have H4 := Lib.hid fun w => RLess_calls a b w
  have H5 := Lib.hid alive_calls
  generalize lessB a b = r at *
  cases r
  all_goals
    go_enter Try.func3, Try.ntmps3
    go_wp2
    (refine q_region (by kernel_rfl) (by kernel_rfl) ?_; (repeat (first | ((refine q_pure (v := ?_) rfl (fun w' hC => ?hrun) ?_); (case hrun => (obtain ⟨hq1, hq2⟩ := bcell hC; go_simp; with_reducible rfl)); refine q_norm (a' := ?_) ?_ ?_; rotate_left; (simp only [Act.put, List.setIfInBounds_toArray, List.set_cons_zero, List.set_cons_succ]; rfl)) | ((refine q_skip rfl ?_); refine q_norm (a' := ?_) ?_ ?_; rotate_left; (simp only [Act.put, List.setIfInBounds_toArray, List.set_cons_zero, List.set_cons_succ]; rfl)) | ((with_reducible refine q_callB (f := 9) (fun w' _ => H1.out w') Try.func9 (by kernel_rfl) rfl rfl ?hw ?hargs ?_); (case hw => rfl); (case hargs => (simp only [List.map_toArray, List.map_cons, List.map_nil]; rfl)); refine q_norm (a' := ?_) ?_ ?_; rotate_left; (simp only [Act.put, List.setIfInBounds_toArray, List.set_cons_zero, List.set_cons_succ]; rfl)) | ((with_reducible refine q_callB (f := 9) (fun w' _ => H2.out w') Try.func9 (by kernel_rfl) rfl rfl ?hw ?hargs ?_); (case hw => rfl); (case hargs => (simp only [List.map_toArray, List.map_cons, List.map_nil]; rfl)); refine q_norm (a' := ?_) ?_ ?_; rotate_left; (simp only [Act.put, List.setIfInBounds_toArray, List.set_cons_zero, List.set_cons_succ]; rfl)) | ((with_reducible refine q_callB (f := 8) (fun w' _ => H3.out w') Try.func8 (by kernel_rfl) rfl rfl ?hw ?hargs ?_); (case hw => rfl); (case hargs => (simp only [List.map_toArray, List.map_cons, List.map_nil]; rfl)); refine q_norm (a' := ?_) ?_ ?_; rotate_left; (simp only [Act.put, List.setIfInBounds_toArray, List.set_cons_zero, List.set_cons_succ]; rfl)) | ((with_reducible refine q_callB (f := 10) (fun w' _ => H4.out w') Try.func10 (by kernel_rfl) rfl rfl ?hw ?hargs ?_); (case hw => rfl); (case hargs => (simp only [List.map_toArray, List.map_cons, List.map_nil]; rfl)); refine q_norm (a' := ?_) ?_ ?_; rotate_left; (simp only [Act.put, List.setIfInBounds_toArray, List.set_cons_zero, List.set_cons_succ]; rfl)) | ((with_reducible refine q_callB (f := 11) (fun w' _ => H5.out w') Try.func11 (by kernel_rfl) rfl rfl ?hw ?hargs ?_); (case hw => rfl); (case hargs => simp); refine q_norm (a' := ?_) ?_ ?_; rotate_left; (simp only [Act.put, List.setIfInBounds_toArray, List.set_cons_zero, List.set_cons_succ]; rfl)) )); with_reducible refine wpQuiet_nil ?_; intro wq hq)
    go_wp2
    go_ret
    exact ⟨rfl, ((Below.refl _ _).alloc (Nat.le_refl _) _).alloc (by simp) _ |>.trans (hq.mono (by simp; omega))⟩
end Go.Proofs.Ytclcmkpggigdgaa
