/- A question that asks nothing keeps out no link: Ask.keeps. -/
import Derived.Test.YteaipeejhippiaaPAdd
namespace Go.Proofs.Yteaipeejhippiaa
open Go.RowKit
attribute [local go_sem] cell_set_self
set_option linter.unusedVariables false

theorem Row.two (w : World) (xs ys : Array Value) (t u : TypeId) : Row ((w.alloc (.cells xs t)).alloc (.cells ys u)) (w.heap.size + 1) ys := Row.new' _ _ _ (by simp)
set_option maxHeartbeats 8000000 in
theorem keeps0_calls (w : World) (x : Lnk) : Calls Try.prog 52 #[.agg #[.int .u64 0, .int .i64 0, .int .i64 0, .int .u32 0, .int .u32 0, .int .u32 0, .slice none 0 0, .slice none 0 0, .slice none 0 0, .int .i64 0], .agg #[.int .i64 x.src, .int .i64 x.dst, .int .u64 x.cap, .int .i64 x.metric, .int .u32 x.groups]] w fun e w' => e = .returned (.bool false) ∧ Below w.heap.size w w' := by
  go_enter Try.func52, Try.ntmps52
  go_upto_region 1 with (fail)
  have H1 := Lib.hid ((Row.new w #[.int .u64 0, .int .i64 0, .int .i64 0, .int .u32 0, .int .u32 0, .int .u32 0, .slice none 0 0, .slice none 0 0, .slice none 0 0, .int .i64 0] 58).alloc (.cells #[.int .i64 x.src, .int .i64 x.dst, .int .u64 x.cap, .int .i64 x.metric, .int .u32 x.groups] 34))
  have H2 := Lib.hid (Row.two w #[.int .u64 0, .int .i64 0, .int .i64 0, .int .u32 0, .int .u32 0, .int .u32 0, .slice none 0 0, .slice none 0 0, .slice none 0 0, .int .i64 0] #[.int .i64 x.src, .int .i64 x.dst, .int .u64 x.cap, .int .i64 x.metric, .int .u32 x.groups] 58 34)
  have HB := Lib.hid (show Below w.heap.size w ((w.alloc (.cells #[.int .u64 0, .int .i64 0, .int .i64 0, .int .u32 0, .int .u32 0, .int .u32 0, .slice none 0 0, .slice none 0 0, .slice none 0 0, .int .i64 0] 58)).alloc (.cells #[.int .i64 x.src, .int .i64 x.dst, .int .u64 x.cap, .int .i64 x.metric, .int .u32 x.groups] 34)) from (by repeat (first | (with_reducible exact Below.refl _ _) | (with_reducible assumption) | ((with_reducible refine Below.setCell ?_ ?_ _); rotate_left; (first | omega | (simp <;> omega))) | ((with_reducible refine Below.alloc ?_ ?_ _); rotate_left; (first | omega | (simp <;> omega))) | ((with_reducible refine Below.drew ?_)) | ((with_reducible refine below_drewN ?_ _)) | ((with_reducible refine Below.trans ?_ (Below.mono (by with_reducible assumption) ?_)); rotate_left; (first | omega | (simp <;> omega))))))
  generalize (w.alloc (.cells #[.int .u64 0, .int .i64 0, .int .i64 0, .int .u32 0, .int .u32 0, .int .u32 0, .slice none 0 0, .slice none 0 0, .slice none 0 0, .int .i64 0] 58)).alloc (.cells #[.int .i64 x.src, .int .i64 x.dst, .int .u64 x.cap, .int .i64 x.metric, .int .u32 x.groups] 34) = W0 at *
  obtain ⟨p1, q1, r1⟩ := H1.out
  obtain ⟨p2, q2, r2⟩ := H2.out
  go_wp2_with (first | (go_at_call 62; (with_reducible refine (Contains0_calls _ x.src).mono ?_); rintro e w1 ⟨rfl, hb⟩; have H1a := Lib.hid (H1.out.later hb); have H2a := Lib.hid (H2.out.later hb); have HBa := Lib.hid (HB.out.trans (hb.mono HB.out.size)); clear hb p1 q1 r1 p2 q2 r2; obtain ⟨p1, q1, r1⟩ := H1a.out; obtain ⟨p2, q2, r2⟩ := H2a.out) | (go_at_call 62; (with_reducible refine (Contains0_calls _ x.dst).mono ?_); rintro e w2 ⟨rfl, hb⟩; have H1b := Lib.hid (H1a.out.later hb); have H2b := Lib.hid (H2a.out.later hb); have HBb := Lib.hid (HBa.out.trans (hb.mono HBa.out.size)); clear hb p1 q1 r1 p2 q2 r2; obtain ⟨p1, q1, r1⟩ := H1b.out; obtain ⟨p2, q2, r2⟩ := H2b.out) | (go_at_call 63; (with_reducible refine (ContainsP0_calls _ x.src x.dst).mono ?_); rintro e w3 ⟨rfl, hb⟩; have HBc := Lib.hid (HBb.out.trans (hb.mono HBb.out.size)); clear hb))
  go_ret
  exact ⟨rfl, HBc.out⟩
end Go.Proofs.Yteaipeejhippiaa
