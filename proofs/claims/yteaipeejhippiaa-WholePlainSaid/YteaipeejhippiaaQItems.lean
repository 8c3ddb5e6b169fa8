/- The methods of the queue's items: Len, Less, Swap. -/
import Derived.Test.YteaipeejhippiaaQMem
namespace Go.Proofs.Yteaipeejhippiaa
open Go.RowKit
attribute [local go_sem] cell_set_self

set_option maxHeartbeats 4000000 in
theorem iLen_calls (w : World) (Q m : Nat) (A : Option Addr) (c : Nat) (hc : w.cell? ⟨Q, 1, none⟩ = some (.slice A m c)) :
    Calls Try.prog 56 #[.pointer (some ⟨Q, 1, none⟩)] w fun e w' => e = .returned (.int .i64 (m : Int)) ∧ w = w' := by
  go_enter Try.func56, Try.ntmps56
  go_wp2
  go_ret
  exact ⟨rfl, rfl⟩
set_option maxHeartbeats 4000000 in
theorem good_calls (w : World) (Q : Nat) (v : Value) (hq : Blk w Q 125 #[.bool true, v]) :
    Calls Try.prog 43 #[.pointer (some ⟨Q, 0, none⟩)] w fun e w' => e = .returned (.bool true) ∧ w = w' := by
  obtain ⟨c1, f1, s1⟩ := hq.row
  clear hq
  go_enter Try.func43, Try.ntmps43
  go_wp2
  go_ret
  exact ⟨rfl, rfl⟩
set_option maxHeartbeats 4000000 in
theorem QLen_calls (w : World) (Q m : Nat) (A : Option Addr) (c : Nat) (hq : Blk w Q 125 #[.bool true, .slice A m c]) :
    Calls Try.prog 44 #[.pointer (some ⟨Q, 0, none⟩)] w fun e w' => e = .returned (.int .i64 (m : Int)) ∧ w = w' := by
  have H1 := Lib.hid (good_calls w Q _ hq)
  have H2 := Lib.hid (iLen_calls w Q m A c (hq.cell 1))
  clear hq
  go_enter Try.func44, Try.ntmps44
  go_wp2_with (first | (go_at_call 43; (with_reducible refine H1.out.mono ?_); rintro e w1 ⟨rfl, rfl⟩) | (go_at_call 56; (with_reducible refine H2.out.mono ?_); rintro e w1 ⟨rfl, rfl⟩))
  go_ret
  exact ⟨rfl, rfl⟩
set_option maxHeartbeats 8000000 in
theorem iLess_calls (w : World) (Q g n m cap i j : Nat) (d : Nat → Item) (hc : w.cell? ⟨Q, 1, none⟩ = some (.slice (some ⟨g, 0, none⟩) n cap)) (hQ : Q < w.heap.size) (hi : i < m) (hj : j < m) (hm : m ≤ n) (hd : Items w g m cap d) :
    Calls Try.prog 90 #[.pointer (some ⟨Q, 1, none⟩), .int .i64 (i : Int), .int .i64 (j : Int)] w fun e w' => e = .returned (.bool (lessB (d i) (d j))) ∧ Below w.heap.size w w' := by
  obtain ⟨a1, a2, a3⟩ := hd.at_ hi
  obtain ⟨b1, b2, b3⟩ := hd.at_ hj
  have H1 := Lib.hid fun w => Less_calls (d i) (d j) w
  have hg := hd.lt
  clear hd
  generalize d i = x at *
  generalize d j = y at *
  have i0 : (0 : Int) ≤ (i : Int) := by omega
  have i1 : (i : Int) < (n : Int) := by omega
  have j0 : (0 : Int) ≤ (j : Int) := by omega
  have j1 : (j : Int) < (n : Int) := by omega
  go_enter Try.func90, Try.ntmps90
  go_wp2
  (refine q_region (by kernel_rfl) (by kernel_rfl) ?_; (repeat (first | ((refine q_pure (v := ?_) rfl (fun w' hC => ?hrun) ?_); (case hrun => (obtain ⟨hq1, hq2⟩ := bcell hC; go_simp; with_reducible rfl)); refine q_norm (a' := ?_) ?_ ?_; rotate_left; (simp only [Act.put, List.setIfInBounds_toArray, List.set_cons_zero, List.set_cons_succ]; rfl)) | ((refine q_skip rfl ?_); refine q_norm (a' := ?_) ?_ ?_; rotate_left; (simp only [Act.put, List.setIfInBounds_toArray, List.set_cons_zero, List.set_cons_succ]; rfl)) | ((with_reducible refine q_callB (f := 93) (fun w' _ => H1.out w') Try.func93 (by kernel_rfl) rfl rfl ?hw ?hargs ?_); (case hw => rfl); (case hargs => (simp only [List.map_toArray, List.map_cons, List.map_nil]; rfl)); refine q_norm (a' := ?_) ?_ ?_; rotate_left; (simp only [Act.put, List.setIfInBounds_toArray, List.set_cons_zero, List.set_cons_succ]; rfl)) )); with_reducible refine wpQuiet_nil ?_; intro wq hq)
  go_wp2
  go_ret
  exact ⟨rfl, hq⟩
end Go.Proofs.Yteaipeejhippiaa
