/- May a ledger be moved; Put, as the program does it. -/
import Derived.Test.YtbbhbfeafdibmaaFree
namespace Go.Proofs.Ytbbhbfeafdibmaa
open Go.RowKit Plain
attribute [local go_sem] cell_set_self

theorem may_in (c : Int) (h : Nat → Int) (p : Int) (hh : Nums h) (hc : c < 18446744073709551616) (h0 : 0 ≤ p) (h8 : p < 8) (w : World) :
    Calls Try.prog 27 #[.agg #[.int .u64 c, .int .u64 (h 0), .int .u64 (h 1), .int .u64 (h 2), .int .u64 (h 3), .int .u64 (h 4), .int .u64 (h 5), .int .u64 (h 6), .int .u64 (h 7)], .int .i64 p] w fun e w' => e = .returned (.bool (rightB c h)) ∧ Below w.heap.size w w' := by
  have HS := Lib.hid (fun w => Right_calls c h hh hc w)
  clear hh hc
  go_enter Try.func27, Try.ntmps27
  go_wp2_with (go_at_call 16; refine (HS.out _).mono ?_; rintro e w1 ⟨rfl, hb⟩; obtain ⟨hb1, hb2⟩ := bcell hb)
  go_ret
  exact ⟨rfl, (((Below.refl _ _).alloc (Nat.le_refl _) _).trans (hb.mono (by simp)))⟩
theorem may_out (c : Int) (h : Nat → Int) (p : Int) (hp : ¬ (0 ≤ p ∧ p < 8)) (w : World) :
    Calls Try.prog 27 #[.agg #[.int .u64 c, .int .u64 (h 0), .int .u64 (h 1), .int .u64 (h 2), .int .u64 (h 3), .int .u64 (h 4), .int .u64 (h 5), .int .u64 (h 6), .int .u64 (h 7)], .int .i64 p] w fun e w' => e = .returned (.bool false) ∧ Below w.heap.size w w' := by
  by_cases h0 : 0 ≤ p
  · have h8 : decide (p < 8) = false := by simp; omega
    clear hp
    go_enter Try.func27, Try.ntmps27
    go_wp2_with fail
    go_ret
    exact ⟨rfl, (Below.refl _ _).alloc (Nat.le_refl _) _⟩
  · have h1 : decide (0 ≤ p) = false := by simp; omega
    clear hp h0
    go_enter Try.func27, Try.ntmps27
    go_wp2_with fail
    go_ret
    exact ⟨rfl, (Below.refl _ _).alloc (Nat.le_refl _) _⟩
/-- May it be moved? -/
def mayB (c : Int) (h : Nat → Int) (p : Int) : Bool := decide (0 ≤ p ∧ p < 8) && rightB c h
theorem may_calls (c : Int) (h : Nat → Int) (p : Int) (hh : Nums h) (hc : c < 18446744073709551616) (w : World) :
    Calls Try.prog 27 #[.agg #[.int .u64 c, .int .u64 (h 0), .int .u64 (h 1), .int .u64 (h 2), .int .u64 (h 3), .int .u64 (h 4), .int .u64 (h 5), .int .u64 (h 6), .int .u64 (h 7)], .int .i64 p] w fun e w' => e = .returned (.bool (mayB c h p)) ∧ Below w.heap.size w w' := by
  by_cases hp : 0 ≤ p ∧ p < 8
  · rw [show mayB c h p = rightB c h from by simp [mayB, hp]]
    exact may_in c h p hh hc hp.1 hp.2 w
  · rw [show mayB c h p = false from by simp only [mayB, decide_eq_false hp, Bool.false_and]]
    exact may_out c h p hp w

set_option maxHeartbeats 1000000 in
theorem Put_arg (c : Int) (h : Nat → Int) (p bw : Int) (hh : Nums h) (hc : c < 18446744073709551616) (hm : mayB c h p = false) (w : World) :
    Calls Try.prog 20 #[.agg #[.int .u64 c, .int .u64 (h 0), .int .u64 (h 1), .int .u64 (h 2), .int .u64 (h 3), .int .u64 (h 4), .int .u64 (h 5), .int .u64 (h 6), .int .u64 (h 7)], .int .i64 p, .int .u64 bw] w fun e w' => e = .returned (.tuple #[.agg #[.int .u64 0, .int .u64 0, .int .u64 0, .int .u64 0, .int .u64 0, .int .u64 0, .int .u64 0, .int .u64 0, .int .u64 0], .int .i64 2]) ∧ Below w.heap.size w w' := by
  have hs := fun w => may_calls c h p hh hc w
  rw [hm] at hs
  have HS := Lib.hid hs
  clear hs hm hh hc
  go_enter Try.func20, Try.ntmps20
  go_wp2_with (go_at_call 27; refine (HS.out _).mono ?_; rintro e w1 ⟨rfl, hb⟩; obtain ⟨hb1, hb2⟩ := bcell hb)
  exact bodyPost_ret (v := .tuple #[.agg #[.int .u64 0, .int .u64 0, .int .u64 0, .int .u64 0, .int .u64 0, .int .u64 0, .int .u64 0, .int .u64 0, .int .u64 0], .int .i64 2]) (by simp [results, Try.results20, go_sem, hb1]) rfl ⟨rfl, (by repeat (first | (with_reducible exact Below.refl _ _) | ((with_reducible refine Below.setCell ?_ ?_ _); rotate_left; (simp <;> omega)) | ((with_reducible refine Below.alloc ?_ ?_ _); rotate_left; (simp <;> omega)) | ((with_reducible refine Below.trans ?_ (Below.mono hb ?_)); rotate_left; (simp <;> omega))))⟩

set_option maxHeartbeats 4000000 in
theorem Put_room (c : Int) (h : Nat → Int) (p bw : Int) (hh : Nums h) (hc : c < 18446744073709551616) (h0 : 0 ≤ bw) (h1 : bw < 18446744073709551616) (hm : mayB c h p = true) (hr : ¬ sumTo h 8 + bw ≤ c) (w : World) :
    Calls Try.prog 20 #[.agg #[.int .u64 c, .int .u64 (h 0), .int .u64 (h 1), .int .u64 (h 2), .int .u64 (h 3), .int .u64 (h 4), .int .u64 (h 5), .int .u64 (h 6), .int .u64 (h 7)], .int .i64 p, .int .u64 bw] w fun e w' => e = .returned (.tuple #[.agg #[.int .u64 0, .int .u64 0, .int .u64 0, .int .u64 0, .int .u64 0, .int .u64 0, .int .u64 0, .int .u64 0, .int .u64 0], .int .i64 14]) ∧ Below w.heap.size w w' := by
  have hs := fun w => may_calls c h p hh hc w
  obtain ⟨hp0, hp8⟩ : 0 ≤ p ∧ p < 8 := by
    by_cases hp : 0 ≤ p ∧ p < 8
    · exact hp
    · rw [mayB, decide_eq_false hp, Bool.false_and] at hm
      cases hm
  rw [hm] at hs
  have HS := Lib.hid hs
  clear hs hm
  have hpc : p = 0 ∨ p = 1 ∨ p = 2 ∨ p = 3 ∨ p = 4 ∨ p = 5 ∨ p = 6 ∨ p = 7 := by omega
  obtain ⟨hv0, hv1⟩ := hh p.toNat (by omega)
  by_cases hf : h p.toNat + bw < 18446744073709551616
  · have hn : Nums (setAt h p.toNat (h p.toNat + bw)) := setAt_nums hh (by omega) hf
    have hq : rightB c (setAt h p.toNat (h p.toNat + bw)) = false := right_no (by rw [sumTo_setAt h p.toNat _ 8, if_pos (by omega)]; omega)
    have HR := Lib.hid (fun w => (Right_calls c _ hn hc w))
    have HA := Lib.hid (fun w => (Add_calls (h p.toNat) bw hv0 h0 hv1 h1 w))
    rw [addOk_yes hf, addN_yes hf] at HA
    rw [hq] at HR
    clear hn hq hr hh hc h0 h1 hv0 hv1 hf hp0 hp8
    rcases hpc with rfl | rfl | rfl | rfl | rfl | rfl | rfl | rfl
    all_goals
      simp only [Int.reduceToNat, setAt, Nat.reduceEqDiff, ↓reduceIte] at HR HA
      go_enter Try.func20, Try.ntmps20
      go_wp2_with (first | (go_at_call 27; refine (HS.out _).mono ?_; rintro e w1 ⟨rfl, hb⟩; obtain ⟨hb1, hb2⟩ := bcell hb; have hbz0 : w.heap.size < w1.heap.size := size_lt hb (by simp <;> omega); have hbz1 : w.heap.size + 1 < w1.heap.size := size_lt hb (by simp <;> omega)) | (go_at_call 11; refine (HA.out _).mono ?_; rintro e w' ⟨rfl, rfl⟩) | (go_at_call 16; refine (HR.out _).mono ?_; rintro e w2 ⟨rfl, hd⟩; obtain ⟨hd1, hd2⟩ := bcell hd; have hdz0 : w.heap.size < w2.heap.size := size_lt hd (by simp <;> omega); have hdz1 : w.heap.size + 1 < w2.heap.size := size_lt hd (by simp <;> omega)))
      exact bodyPost_ret (v := .tuple #[.agg #[.int .u64 0, .int .u64 0, .int .u64 0, .int .u64 0, .int .u64 0, .int .u64 0, .int .u64 0, .int .u64 0, .int .u64 0], .int .i64 14]) (by simp [results, Try.results20, go_sem, hb1, hd1, hbz1]) rfl ⟨rfl, (by repeat (first | (with_reducible exact Below.refl _ _) | ((with_reducible refine Below.setCell ?_ ?_ _); rotate_left; (simp <;> omega)) | ((with_reducible refine Below.alloc ?_ ?_ _); rotate_left; (simp <;> omega)) | ((with_reducible refine Below.trans ?_ (Below.mono hb ?_)); rotate_left; (simp <;> omega)) | ((with_reducible refine Below.trans ?_ (Below.mono hd ?_)); rotate_left; (simp <;> omega))))⟩
  · have HA := Lib.hid (fun w => (Add_calls (h p.toNat) bw hv0 h0 hv1 h1 w))
    rw [addOk_no hf, addN_no hf] at HA
    clear hr hh hc h0 h1 hv0 hv1 hf hp0 hp8
    rcases hpc with rfl | rfl | rfl | rfl | rfl | rfl | rfl | rfl
    all_goals
      simp only [Int.reduceToNat] at HA
      go_enter Try.func20, Try.ntmps20
      go_wp2_with (first | (go_at_call 27; refine (HS.out _).mono ?_; rintro e w1 ⟨rfl, hb⟩; obtain ⟨hb1, hb2⟩ := bcell hb; have hbz0 : w.heap.size < w1.heap.size := size_lt hb (by simp <;> omega); have hbz1 : w.heap.size + 1 < w1.heap.size := size_lt hb (by simp <;> omega)) | (go_at_call 11; refine (HA.out _).mono ?_; rintro e w' ⟨rfl, rfl⟩))
      exact bodyPost_ret (v := .tuple #[.agg #[.int .u64 0, .int .u64 0, .int .u64 0, .int .u64 0, .int .u64 0, .int .u64 0, .int .u64 0, .int .u64 0, .int .u64 0], .int .i64 14]) (by simp [results, Try.results20, go_sem, hb1]) rfl ⟨rfl, (by repeat (first | (with_reducible exact Below.refl _ _) | ((with_reducible refine Below.setCell ?_ ?_ _); rotate_left; (simp <;> omega)) | ((with_reducible refine Below.alloc ?_ ?_ _); rotate_left; (simp <;> omega)) | ((with_reducible refine Below.trans ?_ (Below.mono hb ?_)); rotate_left; (simp <;> omega))))⟩

set_option maxHeartbeats 4000000 in
theorem Put_ok (c : Int) (h : Nat → Int) (p bw : Int) (hh : Nums h) (h0c : 0 ≤ c) (hc : c < 18446744073709551616) (h0 : 0 ≤ bw) (h1 : bw < 18446744073709551616) (hm : mayB c h p = true) (hr : sumTo h 8 + bw ≤ c) (w : World) :
    Calls Try.prog 20 #[.agg #[.int .u64 c, .int .u64 (h 0), .int .u64 (h 1), .int .u64 (h 2), .int .u64 (h 3), .int .u64 (h 4), .int .u64 (h 5), .int .u64 (h 6), .int .u64 (h 7)], .int .i64 p, .int .u64 bw] w fun e w' => e = .returned (.tuple #[.agg #[.int .u64 c, .int .u64 (setAt h p.toNat (h p.toNat + bw) 0), .int .u64 (setAt h p.toNat (h p.toNat + bw) 1), .int .u64 (setAt h p.toNat (h p.toNat + bw) 2), .int .u64 (setAt h p.toNat (h p.toNat + bw) 3), .int .u64 (setAt h p.toNat (h p.toNat + bw) 4), .int .u64 (setAt h p.toNat (h p.toNat + bw) 5), .int .u64 (setAt h p.toNat (h p.toNat + bw) 6), .int .u64 (setAt h p.toNat (h p.toNat + bw) 7)], .int .i64 0]) ∧ Below w.heap.size w w' := by
  have hs := fun w => may_calls c h p hh hc w
  obtain ⟨hp0, hp8⟩ : 0 ≤ p ∧ p < 8 := by
    by_cases hp : 0 ≤ p ∧ p < 8
    · exact hp
    · rw [mayB, decide_eq_false hp, Bool.false_and] at hm
      cases hm
  rw [hm] at hs
  have HS := Lib.hid hs
  clear hs hm
  have hpc : p = 0 ∨ p = 1 ∨ p = 2 ∨ p = 3 ∨ p = 4 ∨ p = 5 ∨ p = 6 ∨ p = 7 := by omega
  obtain ⟨hv0, hv1⟩ := hh p.toNat (by omega)
  have hle : h p.toNat ≤ sumTo h 8 := le_sumTo hh (by omega)
  have hf : h p.toNat + bw < 18446744073709551616 := by omega
  have hn : Nums (setAt h p.toNat (h p.toNat + bw)) := setAt_nums hh (by omega) hf
  have hq : rightB c (setAt h p.toNat (h p.toNat + bw)) = true := right_yes (by rw [sumTo_setAt h p.toNat _ 8, if_pos (by omega)]; omega)
  have HR := Lib.hid (fun w => (Right_calls c _ hn hc w))
  have HA := Lib.hid (fun w => (Add_calls (h p.toNat) bw hv0 h0 hv1 h1 w))
  rw [addOk_yes hf, addN_yes hf] at HA
  rw [hq] at HR
  clear hn hq hr hh hc h0c h0 h1 hv0 hv1 hf hp0 hp8 hle
  rcases hpc with rfl | rfl | rfl | rfl | rfl | rfl | rfl | rfl
  all_goals
    simp only [Int.reduceToNat, setAt, Nat.reduceEqDiff, ↓reduceIte] at HR HA ⊢
    go_enter Try.func20, Try.ntmps20
    go_wp2_with (first | (go_at_call 27; refine (HS.out _).mono ?_; rintro e w1 ⟨rfl, hb⟩; obtain ⟨hb1, hb2⟩ := bcell hb; have hbz0 : w.heap.size < w1.heap.size := size_lt hb (by simp <;> omega); have hbz1 : w.heap.size + 1 < w1.heap.size := size_lt hb (by simp <;> omega)) | (go_at_call 11; refine (HA.out _).mono ?_; rintro e w' ⟨rfl, rfl⟩) | (go_at_call 16; refine (HR.out _).mono ?_; rintro e w2 ⟨rfl, hd⟩; obtain ⟨hd1, hd2⟩ := bcell hd; have hdz0 : w.heap.size < w2.heap.size := size_lt hd (by simp <;> omega); have hdz1 : w.heap.size + 1 < w2.heap.size := size_lt hd (by simp <;> omega)))
    exact bodyPost_ret (by simp [results, Try.results20, go_sem, hb1, hd1, hbz1]) rfl ⟨rfl, (by repeat (first | (with_reducible exact Below.refl _ _) | ((with_reducible refine Below.setCell ?_ ?_ _); rotate_left; (simp <;> omega)) | ((with_reducible refine Below.alloc ?_ ?_ _); rotate_left; (simp <;> omega)) | ((with_reducible refine Below.trans ?_ (Below.mono hb ?_)); rotate_left; (simp <;> omega)) | ((with_reducible refine Below.trans ?_ (Below.mono hd ?_)); rotate_left; (simp <;> omega))))⟩
end Go.Proofs.Ytbbhbfeafdibmaa
