/- Is a link kept out? -/
import Derived.Test.YtmomndeknpochaaOwn
namespace Go.Proofs.Ytmomndeknpochaa
open Go.RowKit
attribute [local go_sem] cell_set_self

def keepsB (f g h : Nat → Int) (n1 n2 : Nat) (x : Adv) : Bool := has f x.src n1 || (has f x.dst n1 || has2 g h x.src x.dst n2)
set_option maxHeartbeats 4000000 in
theorem Keeps_calls (w : World) (q : Wnt) (A1 A2 A3 : Option Addr) (n1 n2 n3 k1 k2 k3 : Nat) (hops : Int) (f g h : Nat → Int) (x : Adv) (hn1 : n1 ≤ 9223372036854775807) (hn2 : n2 ≤ 9223372036854775807) (hs1 : Strip w A1 n1 1 (ints f)) (hs2 : Strip w A2 n2 2 (pairs g h)) :
    Calls Try.prog 18 #[.agg #[.int .u64 q.bw, .int .i64 q.setup, .int .i64 q.hold, .int .u32 q.any, .int .u32 q.all, .int .u32 q.none, .slice A1 n1 k1, .slice A2 n2 k2, .slice A3 n3 k3, .int .i64 hops], .agg #[.int .i64 x.src, .int .i64 x.dst, .int .u64 x.cap, .int .i64 x.metric, .int .u32 x.groups]] w fun e w' => e = .returned (.bool (keepsB f g h n1 n2 x)) ∧ Below w.heap.size w w' := by
  have H1 := fun (w' : World) (hb : Below w.heap.size w w') => Contains_calls w' A1 n1 k1 f x.src hn1 (hs1.below hb)
  have H2 := fun (w' : World) (hb : Below w.heap.size w w') => Contains_calls w' A1 n1 k1 f x.dst hn1 (hs1.below hb)
  have H3 := fun (w' : World) (hb : Below w.heap.size w w') => Contains2_calls w' A2 n2 k2 g h x.src x.dst hn2 (hs2.below hb)
  clear hs1 hs2
  unfold keepsB
  generalize has f x.src n1 = r1 at *
  generalize has f x.dst n1 = r2 at *
  generalize has2 g h x.src x.dst n2 = r3 at *
  have G1 := Lib.hid H1
  have G2 := Lib.hid H2
  have G3 := Lib.hid H3
  clear H1 H2 H3
  cases r1 <;> cases r2
  all_goals
    go_enter Try.func18, Try.ntmps18
    go_wp2_with (first | (go_at_call 26; (with_reducible refine (G1.out _ (by exact (by repeat (first | (with_reducible exact Below.refl _ _) | (with_reducible assumption) | ((with_reducible refine Below.setCell ?_ ?_ _); rotate_left; (first | omega | (simp <;> omega))) | ((with_reducible refine Below.alloc ?_ ?_ _); rotate_left; (first | omega | (simp <;> omega))) | ((with_reducible refine Below.drew ?_)) | ((with_reducible refine below_drewN ?_ _)) | ((with_reducible refine Below.trans ?_ (Below.mono (by with_reducible assumption) ?_)); rotate_left; (first | omega | (simp <;> omega))))))).mono ?_); rintro e w1 ⟨rfl, rfl⟩) | (go_at_call 26; (with_reducible refine (G2.out _ (by exact (by repeat (first | (with_reducible exact Below.refl _ _) | (with_reducible assumption) | ((with_reducible refine Below.setCell ?_ ?_ _); rotate_left; (first | omega | (simp <;> omega))) | ((with_reducible refine Below.alloc ?_ ?_ _); rotate_left; (first | omega | (simp <;> omega))) | ((with_reducible refine Below.drew ?_)) | ((with_reducible refine below_drewN ?_ _)) | ((with_reducible refine Below.trans ?_ (Below.mono (by with_reducible assumption) ?_)); rotate_left; (first | omega | (simp <;> omega))))))).mono ?_); rintro e w1 ⟨rfl, rfl⟩) | (go_at_call 27; (with_reducible refine (G3.out _ (by exact (by repeat (first | (with_reducible exact Below.refl _ _) | (with_reducible assumption) | ((with_reducible refine Below.setCell ?_ ?_ _); rotate_left; (first | omega | (simp <;> omega))) | ((with_reducible refine Below.alloc ?_ ?_ _); rotate_left; (first | omega | (simp <;> omega))) | ((with_reducible refine Below.drew ?_)) | ((with_reducible refine below_drewN ?_ _)) | ((with_reducible refine Below.trans ?_ (Below.mono (by with_reducible assumption) ?_)); rotate_left; (first | omega | (simp <;> omega))))))).mono ?_); rintro e w3 ⟨rfl, hb⟩))
    go_ret
    exact ⟨by simp, (by repeat (first | (with_reducible exact Below.refl _ _) | (with_reducible assumption) | ((with_reducible refine Below.setCell ?_ ?_ _); rotate_left; (first | omega | (simp <;> omega))) | ((with_reducible refine Below.alloc ?_ ?_ _); rotate_left; (first | omega | (simp <;> omega))) | ((with_reducible refine Below.drew ?_)) | ((with_reducible refine below_drewN ?_ _)) | ((with_reducible refine Below.trans ?_ (Below.mono (by with_reducible assumption) ?_)); rotate_left; (first | omega | (simp <;> omega)))))⟩
end Go.Proofs.Ytmomndeknpochaa
