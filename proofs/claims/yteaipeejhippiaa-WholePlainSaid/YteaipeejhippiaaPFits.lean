/- A question that asks nothing: a route may go over each link that is up: prune.Fits. -/
import Derived.Test.YteaipeejhippiaaPKeeps
import Derived.Deep.RegionLaw
namespace Go.Proofs.Yteaipeejhippiaa
open Go.RowKit
attribute [local go_sem] cell_set_self
set_option linter.unusedVariables false

/-- The question that asks nothing. -/
def ask0 : Array Value := #[.int .u64 0, .int .i64 0, .int .i64 0, .int .u32 0, .int .u32 0, .int .u32 0, .slice none 0 0, .slice none 0 0, .slice none 0 0, .int .i64 0]
set_option maxHeartbeats 8000000 in
theorem Fits0_calls (w : World) (x : Adv) (h0 : 0 ≤ x.groups) (h1 : x.groups < 4294967296) (hf0 : 0 ≤ x.free 0) (hf1 : x.free 0 < 18446744073709551616) (hup : x.up = true) :
    Calls Try.prog 41 #[.agg #[.int .i64 x.src, .int .i64 x.dst, .int .u64 x.cap, .int .i64 x.metric, .int .u32 x.groups, .int .i64 x.seq, .bool x.up, .int .u64 (x.free 0), .int .u64 (x.free 1), .int .u64 (x.free 2), .int .u64 (x.free 3), .int .u64 (x.free 4), .int .u64 (x.free 5), .int .u64 (x.free 6), .int .u64 (x.free 7)], .agg #[.int .u64 0, .int .i64 0, .int .i64 0, .int .u32 0, .int .u32 0, .int .u32 0, .slice none 0 0, .slice none 0 0, .slice none 0 0, .int .i64 0]] w fun e w' => e = .returned (.bool true) ∧ Below w.heap.size w w' := by
  have H1 := Lib.hid fun w => Right0_calls w
  have H2 := Lib.hid fun w => Allows0_calls w x.groups h0 h1
  have H3 := Lib.hid fun w => keeps0_calls w x.toLnk
  have H4 := Lib.hid fun w => has0_calls w x.toLnk
  have H5 := Lib.hid fun w => (Add0_calls (x.free 0) hf0 hf1 w).mono fun e w' h => (⟨h.1, h.2 ▸ Below.refl _ _⟩ : _ ∧ Below w.heap.size w w')
  clear h0 h1
  obtain ⟨⟨src, dst, cap, metric, groups⟩, seq, up, free⟩ := x
  simp only at hup hf0 hf1 H1 H2 H3 H4 H5 ⊢
  subst hup
  generalize hu : free 0 = u at *
  clear hu
  have HU := Lib.hid hf0
  clear hf0 hf1
  go_enter Try.func41, Try.ntmps41
  go_wp2_with (first | (go_at_call 25; (with_reducible refine (H1.out _).mono ?_); rintro e w1 ⟨rfl, hb⟩; obtain ⟨hb1, hb2⟩ := bcell hb; have hbz0 : w.heap.size < w1.heap.size := size_lt hb (by first | omega | (simp <;> omega)); have hbz1 : w.heap.size + 1 < w1.heap.size := size_lt hb (by first | omega | (simp <;> omega))) | (go_at_call 51; (with_reducible refine (H2.out _).mono ?_); rintro e w2 ⟨rfl, hd⟩; obtain ⟨hd1, hd2⟩ := bcell hd; have hdz0 : w.heap.size < w2.heap.size := size_lt hd (by first | omega | (simp <;> omega)); have hdz1 : w.heap.size + 1 < w2.heap.size := size_lt hd (by first | omega | (simp <;> omega))) | (go_at_call 52; (with_reducible refine (H3.out _).mono ?_); rintro e w3 ⟨rfl, hf⟩; obtain ⟨hf1, hf2⟩ := bcell hf))
  have hbel : Below w.heap.size w w3 := (by repeat (first | (with_reducible exact Below.refl _ _) | (with_reducible assumption) | ((with_reducible refine Below.setCell ?_ ?_ _); rotate_left; (first | omega | (simp <;> omega))) | ((with_reducible refine Below.alloc ?_ ?_ _); rotate_left; (first | omega | (simp <;> omega))) | ((with_reducible refine Below.drew ?_)) | ((with_reducible refine below_drewN ?_ _)) | ((with_reducible refine Below.trans ?_ (Below.mono (by with_reducible assumption) ?_)); rotate_left; (first | omega | (simp <;> omega)))))
  have r1 : Row w3 w.heap.size _ := ((((Row.new w _ 41).alloc _).later hb).later hd).later hf
  have r2 : Row w3 (w.heap.size + 1) _ := (((Row.new' (w.alloc _) (B := w.heap.size + 1) _ 58 (by simp)).later hb).later hd).later hf
  have HB := Lib.hid hbel
  clear hbel hb hb1 hb2 hbz0 hbz1 hd hd1 hd2 hdz0 hdz1 hf hf1 hf2 H1 H2 H3
  generalize hBe : w.heap.size = B at *
  have HBe := Lib.hid hBe
  clear hBe
  obtain ⟨c1, f1, s1⟩ := r1
  obtain ⟨c2, f2, s2⟩ := r2
  have hs0 : (0 : Int) ≤ ((0 : Nat) : Int) := by omega
  (refine q_region (by kernel_rfl) (by kernel_rfl) ?_; (repeat (first | ((refine q_pure (v := ?_) rfl (fun w' hC => ?hrun) ?_); (case hrun => (obtain ⟨hq1, hq2⟩ := bcell hC; go_simp; with_reducible rfl)); refine q_norm (a' := ?_) ?_ ?_; rotate_left; (simp only [Act.put, List.setIfInBounds_toArray, List.set_cons_zero, List.set_cons_succ]; rfl)) | ((refine q_skip rfl ?_); refine q_norm (a' := ?_) ?_ ?_; rotate_left; (simp only [Act.put, List.setIfInBounds_toArray, List.set_cons_zero, List.set_cons_succ]; rfl)) | ((with_reducible refine q_callB (f := 54) (fun w' hb => H4.out w') Try.func54 (by kernel_rfl) rfl rfl ?hw ?hargs ?_); (case hw => rfl); (case hargs => (simp only [List.map_toArray, List.map_cons, List.map_nil]; rfl)); refine q_norm (a' := ?_) ?_ ?_; rotate_left; (simp only [Act.put, List.setIfInBounds_toArray, List.set_cons_zero, List.set_cons_succ]; rfl)) | ((with_reducible refine q_callB (f := 53) (fun w' _ => H5.out w') Try.func53 (by kernel_rfl) rfl rfl ?hw ?hargs ?_); (case hw => rfl); (case hargs => (simp only [List.map_toArray, List.map_cons, List.map_nil]; rfl)); refine q_norm (a' := ?_) ?_ ?_; rotate_left; (simp only [Act.put, List.setIfInBounds_toArray, List.set_cons_zero, List.set_cons_succ]; rfl)) )); with_reducible refine wpQuiet_nil ?_; intro wq hq)
  obtain ⟨hq1, hq2⟩ := bcell hq
  have hqz : w3.heap.size ≤ wq.heap.size := hq.size
  have hbel := HB.out
  clear H4 H5
  have hu := HU.out
  go_wp2
  go_ret
  exact ⟨rfl, by rw [HBe.out]; exact hbel.trans (hq.mono (by omega))⟩
end Go.Proofs.Yteaipeejhippiaa
