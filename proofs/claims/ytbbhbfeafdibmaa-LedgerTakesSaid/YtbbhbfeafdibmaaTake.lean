/- Take, as the program does it and as the document defines it. -/
import Derived.Test.YtbbhbfeafdibmaaRPut
namespace Go.Proofs.Ytbbhbfeafdibmaa
open Go.RowKit Plain
attribute [local go_sem] cell_set_self

set_option maxHeartbeats 1000000 in
theorem Take_arg (c : Int) (h : Nat → Int) (p bw : Int) (hh : Nums h) (hc : c < 18446744073709551616) (hm : mayB c h p = false) (w : World) :
    Calls Try.prog 23 #[.agg #[.int .u64 c, .int .u64 (h 0), .int .u64 (h 1), .int .u64 (h 2), .int .u64 (h 3), .int .u64 (h 4), .int .u64 (h 5), .int .u64 (h 6), .int .u64 (h 7)], .int .i64 p, .int .u64 bw] w fun e w' => e = .returned (.tuple #[.agg #[.int .u64 0, .int .u64 0, .int .u64 0, .int .u64 0, .int .u64 0, .int .u64 0, .int .u64 0, .int .u64 0, .int .u64 0], .int .i64 2]) ∧ Below w.heap.size w w' := by
  have hs := fun w => may_calls c h p hh hc w
  rw [hm] at hs
  have HS := Lib.hid hs
  clear hs hm hh hc
  go_enter Try.func23, Try.ntmps23
  go_wp2_with (go_at_call 27; refine (HS.out _).mono ?_; rintro e w1 ⟨rfl, hb⟩; obtain ⟨hb1, hb2⟩ := bcell hb)
  exact bodyPost_ret (v := .tuple #[.agg #[.int .u64 0, .int .u64 0, .int .u64 0, .int .u64 0, .int .u64 0, .int .u64 0, .int .u64 0, .int .u64 0, .int .u64 0], .int .i64 2]) (by simp [results, Try.results23, go_sem, hb1]) rfl ⟨rfl, (by repeat (first | (with_reducible exact Below.refl _ _) | ((with_reducible refine Below.setCell ?_ ?_ _); rotate_left; (first | omega | (simp <;> omega))) | ((with_reducible refine Below.alloc ?_ ?_ _); rotate_left; (first | omega | (simp <;> omega))) | ((with_reducible refine Below.trans ?_ (Below.mono hb ?_)); rotate_left; (first | omega | (simp <;> omega)))))⟩

theorem may_bounds {c : Int} {h : Nat → Int} {p : Int} (hm : mayB c h p = true) : 0 ≤ p ∧ p < 8 ∧ sumTo h 8 ≤ c := by
  by_cases hp : 0 ≤ p ∧ p < 8
  · rw [mayB, decide_eq_true hp, Bool.true_and] at hm
    exact ⟨hp.1, hp.2, of_decide_eq_true hm⟩
  · rw [mayB, decide_eq_false hp, Bool.false_and] at hm
    cases hm

set_option maxHeartbeats 4000000 in
theorem Take_none (c : Int) (h : Nat → Int) (p bw : Int) (hh : Nums h) (hc : c < 18446744073709551616) (hm : mayB c h p = true) (hr : h p.toNat < bw) (w : World) :
    Calls Try.prog 23 #[.agg #[.int .u64 c, .int .u64 (h 0), .int .u64 (h 1), .int .u64 (h 2), .int .u64 (h 3), .int .u64 (h 4), .int .u64 (h 5), .int .u64 (h 6), .int .u64 (h 7)], .int .i64 p, .int .u64 bw] w fun e w' => e = .returned (.tuple #[.agg #[.int .u64 0, .int .u64 0, .int .u64 0, .int .u64 0, .int .u64 0, .int .u64 0, .int .u64 0, .int .u64 0, .int .u64 0], .int .i64 8]) ∧ Below w.heap.size w w' := by
  have hs := fun w => may_calls c h p hh hc w
  obtain ⟨hp0, hp8, _⟩ := may_bounds hm
  rw [hm] at hs
  have HS := Lib.hid hs
  clear hs hm
  have hpc : p = 0 ∨ p = 1 ∨ p = 2 ∨ p = 3 ∨ p = 4 ∨ p = 5 ∨ p = 6 ∨ p = 7 := by omega
  clear hh hc hp0 hp8
  rcases hpc with rfl | rfl | rfl | rfl | rfl | rfl | rfl | rfl
  all_goals
    simp only [Int.reduceToNat] at hr
    go_enter Try.func23, Try.ntmps23
    go_wp2_with (go_at_call 27; refine (HS.out _).mono ?_; rintro e w1 ⟨rfl, hb⟩; obtain ⟨hb1, hb2⟩ := bcell hb; have hbz0 : w.heap.size < w1.heap.size := size_lt hb (by first | omega | (simp <;> omega)); have hbz1 : w.heap.size + 1 < w1.heap.size := size_lt hb (by first | omega | (simp <;> omega)))
    exact bodyPost_ret (v := .tuple #[.agg #[.int .u64 0, .int .u64 0, .int .u64 0, .int .u64 0, .int .u64 0, .int .u64 0, .int .u64 0, .int .u64 0, .int .u64 0], .int .i64 8]) (by simp [results, Try.results23, go_sem, hb1]) rfl ⟨rfl, (by repeat (first | (with_reducible exact Below.refl _ _) | ((with_reducible refine Below.setCell ?_ ?_ _); rotate_left; (first | omega | (simp <;> omega))) | ((with_reducible refine Below.alloc ?_ ?_ _); rotate_left; (first | omega | (simp <;> omega))) | ((with_reducible refine Below.trans ?_ (Below.mono hb ?_)); rotate_left; (first | omega | (simp <;> omega)))))⟩

set_option maxHeartbeats 4000000 in
theorem Take_ok (c : Int) (h : Nat → Int) (p bw : Int) (hh : Nums h) (hc : c < 18446744073709551616) (h0 : 0 ≤ bw) (hm : mayB c h p = true) (hr : bw ≤ h p.toNat) (w : World) :
    Calls Try.prog 23 #[.agg #[.int .u64 c, .int .u64 (h 0), .int .u64 (h 1), .int .u64 (h 2), .int .u64 (h 3), .int .u64 (h 4), .int .u64 (h 5), .int .u64 (h 6), .int .u64 (h 7)], .int .i64 p, .int .u64 bw] w fun e w' => e = .returned (.tuple #[.agg #[.int .u64 c, .int .u64 (setAt h p.toNat (h p.toNat - bw) 0), .int .u64 (setAt h p.toNat (h p.toNat - bw) 1), .int .u64 (setAt h p.toNat (h p.toNat - bw) 2), .int .u64 (setAt h p.toNat (h p.toNat - bw) 3), .int .u64 (setAt h p.toNat (h p.toNat - bw) 4), .int .u64 (setAt h p.toNat (h p.toNat - bw) 5), .int .u64 (setAt h p.toNat (h p.toNat - bw) 6), .int .u64 (setAt h p.toNat (h p.toNat - bw) 7)], .int .i64 0]) ∧ Below w.heap.size w w' := by
  have hs := fun w => may_calls c h p hh hc w
  obtain ⟨hp0, hp8, _⟩ := may_bounds hm
  rw [hm] at hs
  have HS := Lib.hid hs
  clear hs hm
  have hpc : p = 0 ∨ p = 1 ∨ p = 2 ∨ p = 3 ∨ p = 4 ∨ p = 5 ∨ p = 6 ∨ p = 7 := by omega
  obtain ⟨hv0, hv1⟩ := hh p.toNat (by omega)
  clear hh hc hp0 hp8
  rcases hpc with rfl | rfl | rfl | rfl | rfl | rfl | rfl | rfl
  all_goals
    simp only [Int.reduceToNat, setAt, Nat.reduceEqDiff, ↓reduceIte] at hr hv0 hv1 ⊢
    go_enter Try.func23, Try.ntmps23
    go_wp2_with (go_at_call 27; refine (HS.out _).mono ?_; rintro e w1 ⟨rfl, hb⟩; obtain ⟨hb1, hb2⟩ := bcell hb; have hbz0 : w.heap.size < w1.heap.size := size_lt hb (by first | omega | (simp <;> omega)); have hbz1 : w.heap.size + 1 < w1.heap.size := size_lt hb (by first | omega | (simp <;> omega)))
    exact bodyPost_ret (by simp [results, Try.results23, go_sem, hb1]) rfl ⟨rfl, (by repeat (first | (with_reducible exact Below.refl _ _) | ((with_reducible refine Below.setCell ?_ ?_ _); rotate_left; (first | omega | (simp <;> omega))) | ((with_reducible refine Below.alloc ?_ ?_ _); rotate_left; (first | omega | (simp <;> omega))) | ((with_reducible refine Below.trans ?_ (Below.mono hb ?_)); rotate_left; (first | omega | (simp <;> omega)))))⟩

set_option maxHeartbeats 2000000 in
theorem RTake_arg (c : Int) (h : Nat → Int) (p bw : Int) (hh : Nums h) (hc : c < 18446744073709551616) (hm : mayB c h p = false) (w : World) :
    Calls Try.prog 24 #[.agg #[.int .u64 c, .int .u64 (h 0), .int .u64 (h 1), .int .u64 (h 2), .int .u64 (h 3), .int .u64 (h 4), .int .u64 (h 5), .int .u64 (h 6), .int .u64 (h 7)], .int .i64 p, .int .u64 bw] w fun e w' => e = .returned (.tuple #[.agg #[.int .u64 0, .int .u64 0, .int .u64 0, .int .u64 0, .int .u64 0, .int .u64 0, .int .u64 0, .int .u64 0, .int .u64 0], .int .i64 2]) ∧ Below w.heap.size w w' := by
  by_cases hp0 : p < 0
  · clear hm hh hc
    go_enter Try.func24, Try.ntmps24
    go_wp2_with fail
    exact bodyPost_ret (v := .tuple #[.agg #[.int .u64 0, .int .u64 0, .int .u64 0, .int .u64 0, .int .u64 0, .int .u64 0, .int .u64 0, .int .u64 0, .int .u64 0], .int .i64 2]) (by simp [results, Try.results24, go_sem]) rfl ⟨rfl, (by repeat (first | (with_reducible exact Below.refl _ _) | ((with_reducible refine Below.setCell ?_ ?_ _); rotate_left; (first | omega | (simp <;> omega))) | ((with_reducible refine Below.alloc ?_ ?_ _); rotate_left; (first | omega | (simp <;> omega))) ))⟩
  · by_cases hp8 : 7 < p
    · have hp1 : decide (p < 0) = false := decide_eq_false hp0
      clear hm hh hc hp0
      go_enter Try.func24, Try.ntmps24
      go_wp2_with fail
      exact bodyPost_ret (v := .tuple #[.agg #[.int .u64 0, .int .u64 0, .int .u64 0, .int .u64 0, .int .u64 0, .int .u64 0, .int .u64 0, .int .u64 0, .int .u64 0], .int .i64 2]) (by simp [results, Try.results24, go_sem]) rfl ⟨rfl, (by repeat (first | (with_reducible exact Below.refl _ _) | ((with_reducible refine Below.setCell ?_ ?_ _); rotate_left; (first | omega | (simp <;> omega))) | ((with_reducible refine Below.alloc ?_ ?_ _); rotate_left; (first | omega | (simp <;> omega))) ))⟩
    · have hr : rightB c h = false := by
        rw [mayB, decide_eq_true (show 0 ≤ p ∧ p < 8 by omega), Bool.true_and] at hm
        exact hm
      have hs := fun w => RRight_calls c h hh hc w
      rw [hr] at hs
      have HS := Lib.hid hs
      have hp1 : decide (p < 0) = false := decide_eq_false hp0
      have hp2 : decide (7 < p) = false := decide_eq_false hp8
      clear hm hh hc hp0 hp8 hs hr
      go_enter Try.func24, Try.ntmps24
      go_wp2_with (go_at_call 17; refine (HS.out _).mono ?_; rintro e w1 ⟨rfl, hb⟩; obtain ⟨hb1, hb2⟩ := bcell hb; have hbz0 : w.heap.size < w1.heap.size := size_lt hb (by first | omega | (simp <;> omega)); have hbz1 : w.heap.size + 1 < w1.heap.size := size_lt hb (by first | omega | (simp <;> omega)))
      exact bodyPost_ret (v := .tuple #[.agg #[.int .u64 0, .int .u64 0, .int .u64 0, .int .u64 0, .int .u64 0, .int .u64 0, .int .u64 0, .int .u64 0, .int .u64 0], .int .i64 2]) (by simp [results, Try.results24, go_sem, hb1]) rfl ⟨rfl, (by repeat (first | (with_reducible exact Below.refl _ _) | ((with_reducible refine Below.setCell ?_ ?_ _); rotate_left; (first | omega | (simp <;> omega))) | ((with_reducible refine Below.alloc ?_ ?_ _); rotate_left; (first | omega | (simp <;> omega))) | ((with_reducible refine Below.trans ?_ (Below.mono hb ?_)); rotate_left; (first | omega | (simp <;> omega)))))⟩


set_option maxHeartbeats 4000000 in
theorem RTake_none (c : Int) (h : Nat → Int) (p bw : Int) (hh : Nums h) (hc : c < 18446744073709551616) (hm : mayB c h p = true) (hr : h p.toNat < bw) (w : World) :
    Calls Try.prog 24 #[.agg #[.int .u64 c, .int .u64 (h 0), .int .u64 (h 1), .int .u64 (h 2), .int .u64 (h 3), .int .u64 (h 4), .int .u64 (h 5), .int .u64 (h 6), .int .u64 (h 7)], .int .i64 p, .int .u64 bw] w fun e w' => e = .returned (.tuple #[.agg #[.int .u64 0, .int .u64 0, .int .u64 0, .int .u64 0, .int .u64 0, .int .u64 0, .int .u64 0, .int .u64 0, .int .u64 0], .int .i64 8]) ∧ Below w.heap.size w w' := by
  have hs := fun w => RRight_calls c h hh hc w
  obtain ⟨hp0, hp8, hle⟩ := may_bounds hm
  rw [right_yes hle] at hs
  have HS := Lib.hid hs
  clear hs hm hle
  have hpc : p = 0 ∨ p = 1 ∨ p = 2 ∨ p = 3 ∨ p = 4 ∨ p = 5 ∨ p = 6 ∨ p = 7 := by omega
  clear hh hc hp0 hp8
  rcases hpc with rfl | rfl | rfl | rfl | rfl | rfl | rfl | rfl
  all_goals
    simp only [Int.reduceToNat] at hr
    go_enter Try.func24, Try.ntmps24
    go_wp2_with (go_at_call 17; refine (HS.out _).mono ?_; rintro e w1 ⟨rfl, hb⟩; obtain ⟨hb1, hb2⟩ := bcell hb; have hbz0 : w.heap.size < w1.heap.size := size_lt hb (by first | omega | (simp <;> omega)); have hbz1 : w.heap.size + 1 < w1.heap.size := size_lt hb (by first | omega | (simp <;> omega)))
    exact bodyPost_ret (v := .tuple #[.agg #[.int .u64 0, .int .u64 0, .int .u64 0, .int .u64 0, .int .u64 0, .int .u64 0, .int .u64 0, .int .u64 0, .int .u64 0], .int .i64 8]) (by simp [results, Try.results24, go_sem, hb1]) rfl ⟨rfl, (by repeat (first | (with_reducible exact Below.refl _ _) | ((with_reducible refine Below.setCell ?_ ?_ _); rotate_left; (first | omega | (simp <;> omega))) | ((with_reducible refine Below.alloc ?_ ?_ _); rotate_left; (first | omega | (simp <;> omega))) | ((with_reducible refine Below.trans ?_ (Below.mono hb ?_)); rotate_left; (first | omega | (simp <;> omega)))))⟩

set_option maxHeartbeats 4000000 in
theorem RTake_ok (c : Int) (h : Nat → Int) (p bw : Int) (hh : Nums h) (hc : c < 18446744073709551616) (h0 : 0 ≤ bw) (hm : mayB c h p = true) (hr : bw ≤ h p.toNat) (w : World) :
    Calls Try.prog 24 #[.agg #[.int .u64 c, .int .u64 (h 0), .int .u64 (h 1), .int .u64 (h 2), .int .u64 (h 3), .int .u64 (h 4), .int .u64 (h 5), .int .u64 (h 6), .int .u64 (h 7)], .int .i64 p, .int .u64 bw] w fun e w' => e = .returned (.tuple #[.agg #[.int .u64 c, .int .u64 (setAt h p.toNat (h p.toNat - bw) 0), .int .u64 (setAt h p.toNat (h p.toNat - bw) 1), .int .u64 (setAt h p.toNat (h p.toNat - bw) 2), .int .u64 (setAt h p.toNat (h p.toNat - bw) 3), .int .u64 (setAt h p.toNat (h p.toNat - bw) 4), .int .u64 (setAt h p.toNat (h p.toNat - bw) 5), .int .u64 (setAt h p.toNat (h p.toNat - bw) 6), .int .u64 (setAt h p.toNat (h p.toNat - bw) 7)], .int .i64 0]) ∧ Below w.heap.size w w' := by
  have hs := fun w => RRight_calls c h hh hc w
  obtain ⟨hp0, hp8, hle⟩ := may_bounds hm
  rw [right_yes hle] at hs
  have HS := Lib.hid hs
  clear hs hm hle
  have hpc : p = 0 ∨ p = 1 ∨ p = 2 ∨ p = 3 ∨ p = 4 ∨ p = 5 ∨ p = 6 ∨ p = 7 := by omega
  obtain ⟨hv0, hv1⟩ := hh p.toNat (by omega)
  clear hh hc hp0 hp8
  rcases hpc with rfl | rfl | rfl | rfl | rfl | rfl | rfl | rfl
  all_goals
    simp only [Int.reduceToNat, setAt, Nat.reduceEqDiff, ↓reduceIte] at hr hv0 hv1 ⊢
    go_enter Try.func24, Try.ntmps24
    go_wp2_with (go_at_call 17; refine (HS.out _).mono ?_; rintro e w1 ⟨rfl, hb⟩; obtain ⟨hb1, hb2⟩ := bcell hb; have hbz0 : w.heap.size < w1.heap.size := size_lt hb (by first | omega | (simp <;> omega)); have hbz1 : w.heap.size + 1 < w1.heap.size := size_lt hb (by first | omega | (simp <;> omega)))
    exact bodyPost_ret (by simp [results, Try.results24, go_sem, hb1]) rfl ⟨rfl, (by repeat (first | (with_reducible exact Below.refl _ _) | ((with_reducible refine Below.setCell ?_ ?_ _); rotate_left; (first | omega | (simp <;> omega))) | ((with_reducible refine Below.alloc ?_ ?_ _); rotate_left; (first | omega | (simp <;> omega))) | ((with_reducible refine Below.trans ?_ (Below.mono hb ?_)); rotate_left; (first | omega | (simp <;> omega)))))⟩
end Go.Proofs.Ytbbhbfeafdibmaa
