/- A question that asks nothing allows each link's groups, has nothing of its own and keeps out none. -/
import Derived.Test.YteaipeejhippiaaPZero
import Derived.Test.YteaipeejhippiaaBits
namespace Go.Proofs.Yteaipeejhippiaa
open Go.RowKit
attribute [local go_sem] cell_set_self
set_option linter.unusedVariables false

theorem and0 {g : Int} (h0 : 0 ≤ g) (h1 : g < 4294967296) : Go.bits .and .u32 0 g = 0 := by
  exact (PBits.and_zero (by omega) (by omega) h0 h1).2 (fun ⟨i, h1, _⟩ => by simp at h1)
theorem andNot0 {g : Int} (h0 : 0 ≤ g) (h1 : g < 4294967296) : Go.bits .andNot .u32 0 g = 0 := by
  exact (PBits.andNot_zero (by omega) (by omega) h0 h1).2 (fun i h1 => by simp at h1)
set_option maxHeartbeats 4000000 in
theorem Allows0_calls (w : World) (g : Int) (h0 : 0 ≤ g) (h1 : g < 4294967296) : Calls Try.prog 51 #[.agg #[.int .u64 0, .int .i64 0, .int .i64 0, .int .u32 0, .int .u32 0, .int .u32 0], .int .u32 g] w fun e w' => e = .returned (.bool true) ∧ Below w.heap.size w w' := by
  have hb0 := and0 h0 h1
  have hb1 := andNot0 h0 h1
  go_enter Try.func51, Try.ntmps51
  go_wp2
  go_ret
  exact ⟨rfl, (by repeat (first | (with_reducible exact Below.refl _ _) | (with_reducible assumption) | ((with_reducible refine Below.setCell ?_ ?_ _); rotate_left; (first | omega | (simp <;> omega))) | ((with_reducible refine Below.alloc ?_ ?_ _); rotate_left; (first | omega | (simp <;> omega))) | ((with_reducible refine Below.drew ?_)) | ((with_reducible refine below_drewN ?_ _)) | ((with_reducible refine Below.trans ?_ (Below.mono (by with_reducible assumption) ?_)); rotate_left; (first | omega | (simp <;> omega)))))⟩
set_option maxHeartbeats 4000000 in
theorem has0_calls (w : World) (x : Lnk) : Calls Try.prog 54 #[.agg #[.int .u64 0, .int .i64 0, .int .i64 0, .int .u32 0, .int .u32 0, .int .u32 0, .slice none 0 0, .slice none 0 0, .slice none 0 0, .int .i64 0], .agg #[.int .i64 x.src, .int .i64 x.dst, .int .u64 x.cap, .int .i64 x.metric, .int .u32 x.groups]] w fun e w' => e = .returned (.int .u64 0) ∧ Below w.heap.size w w' := by
  go_enter Try.func54, Try.ntmps54
  go_wp2
  go_loopw [5, 11] (fun s i wr => s = .int .u64 0 ∧ i = .int .i64 0 ∧ Below w.heap.size w wr) (fun _ i _ => 0)
  case atStart => exact ⟨rfl, rfl, (by repeat (first | (with_reducible exact Below.refl _ _) | (with_reducible assumption) | ((with_reducible refine Below.setCell ?_ ?_ _); rotate_left; (first | omega | (simp <;> omega))) | ((with_reducible refine Below.alloc ?_ ?_ _); rotate_left; (first | omega | (simp <;> omega))) | ((with_reducible refine Below.drew ?_)) | ((with_reducible refine below_drewN ?_ _)) | ((with_reducible refine Below.trans ?_ (Below.mono (by with_reducible assumption) ?_)); rotate_left; (first | omega | (simp <;> omega)))))⟩
  case round =>
    obtain ⟨rfl, rfl, hb⟩ := hrel
    go_wp2
    go_ret
    exact ⟨rfl, hb⟩
end Go.Proofs.Yteaipeejhippiaa
