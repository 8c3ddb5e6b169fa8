/- No lower priority has more free than a higher one; the lowest has what is not held: for every ledger, without condition. The walk of the law. -/
import Derived.Test.YtbbhbfeafdibmaaAlive
import Derived.Deep.QuietTactic
import Derived.BigQuiet
import Derived.LoopTactic
namespace Go.Proofs.Ytbbhbfeafdibmaa
open Go.RowKit Plain
attribute [local go_sem] cell_set_self

theorem below_drewN {B : Nat} {a w : World} (h : Below B a w) (n : Nat) : Below B a (w.drewN n) := ⟨h.os, h.tape, h.output, h.size, h.block⟩

/-- The eight free numbers fall. -/
theorem free_falls {c : Int} {h : Nat → Int} (hh : Nums h) (k : Nat) (hk : k < 7) : freeN c h (k + 1) ≤ freeN c h k := by
  have h1 := sumTo_mono hh (i := k + 1) (k + 1 + 1) (by omega) (by omega)
  unfold freeN
  split <;> split <;> omega
theorem free_le {c : Int} {h : Nat → Int} (hh : Nums h) (hc : 0 ≤ c) (k : Nat) (hk : k < 8) : freeN c h k ≤ c := by
  have h1 := sumTo_nonneg hh (k + 1) (by omega)
  unfold freeN
  split <;> omega
theorem free_get (c : Int) (h : Nat → Int) (k : Nat) (hk : k < 8) : (#[.int .u64 (freeN c h 0), .int .u64 (freeN c h 1), .int .u64 (freeN c h 2), .int .u64 (freeN c h 3), .int .u64 (freeN c h 4), .int .u64 (freeN c h 5), .int .u64 (freeN c h 6), .int .u64 (freeN c h 7)] : Array Value)[k]? = some (.int .u64 (freeN c h k)) := by
  have : k = 0 ∨ k = 1 ∨ k = 2 ∨ k = 3 ∨ k = 4 ∨ k = 5 ∨ k = 6 ∨ k = 7 := by omega
  clear hk
  rcases this with rfl | rfl | rfl | rfl | rfl | rfl | rfl | rfl
  · rfl
  · rfl
  · rfl
  · rfl
  · rfl
  · rfl
  · rfl
  · rfl

set_option maxHeartbeats 4000000 in
theorem LedgerFalls_walk (c : Int) (h : Nat → Int) (hh : Nums h) (h0 : 0 ≤ c) (hc : c < 18446744073709551616) (w : World) :
    Calls Try.prog 4 #[.agg #[.int .u64 c, .int .u64 (h 0), .int .u64 (h 1), .int .u64 (h 2), .int .u64 (h 3), .int .u64 (h 4), .int .u64 (h 5), .int .u64 (h 6), .int .u64 (h 7)]] w fun e w' => e = .returned (.bool true) ∧ Below w.heap.size w w' := by
  have H1 := Lib.hid alive_calls
  have H2 := Lib.hid (theirs_calls c h)
  have H3 := Lib.hid (fun w => Free_calls c h hh h0 hc w)
  go_enter Try.func4, Try.ntmps4
  go_wp2_with (first | (go_at_call 10; (with_reducible refine (H1.out _).mono ?_); rintro e w1 ⟨rfl, hb⟩; obtain ⟨hb1, hb2⟩ := bcell hb; have hbz0 : w.heap.size < w1.heap.size := size_lt hb (by first | omega | (simp <;> omega))) | (go_at_call 14; (with_reducible refine (H2.out _).mono ?_); rintro e w2 ⟨rfl, hd⟩; obtain ⟨hd1, hd2⟩ := bcell hd; have hdz0 : w.heap.size < w2.heap.size := size_lt hd (by first | omega | (simp <;> omega))) | (go_at_call 18; (with_reducible refine (H3.out _).mono ?_); rintro e w3 ⟨rfl, hf⟩; obtain ⟨hf1, hf2⟩ := bcell hf; have hfz0 : w.heap.size < w3.heap.size := size_lt hf (by first | omega | (simp <;> omega))))
  have hbel : Below w.heap.size w (w3.alloc (.cells #[.int .u64 (freeN c h 0), .int .u64 (freeN c h 1), .int .u64 (freeN c h 2), .int .u64 (freeN c h 3), .int .u64 (freeN c h 4), .int .u64 (freeN c h 5), .int .u64 (freeN c h 6), .int .u64 (freeN c h 7)] 23)) := (by repeat (first | (with_reducible exact Below.refl _ _) | ((with_reducible refine Below.setCell ?_ ?_ _); rotate_left; (first | omega | (simp <;> omega))) | ((with_reducible refine Below.alloc ?_ ?_ _); rotate_left; (first | omega | (simp <;> omega))) | ((with_reducible refine Below.trans ?_ (Below.mono hb ?_)); rotate_left; (first | omega | (simp <;> omega))) | ((with_reducible refine Below.trans ?_ (Below.mono hd ?_)); rotate_left; (first | omega | (simp <;> omega))) | ((with_reducible refine Below.trans ?_ (Below.mono hf ?_)); rotate_left; (first | omega | (simp <;> omega)))))
  have hr1 : Row (w3.alloc (.cells #[.int .u64 (freeN c h 0), .int .u64 (freeN c h 1), .int .u64 (freeN c h 2), .int .u64 (freeN c h 3), .int .u64 (freeN c h 4), .int .u64 (freeN c h 5), .int .u64 (freeN c h 6), .int .u64 (freeN c h 7)] 23)) w.heap.size #[.int .u64 c, .int .u64 (h 0), .int .u64 (h 1), .int .u64 (h 2), .int .u64 (h 3), .int .u64 (h 4), .int .u64 (h 5), .int .u64 (h 6), .int .u64 (h 7)] := ((((Row.new w _ _).later hb).later hd).later hf).alloc _
  have hr2 : Row (w3.alloc (.cells #[.int .u64 (freeN c h 0), .int .u64 (freeN c h 1), .int .u64 (freeN c h 2), .int .u64 (freeN c h 3), .int .u64 (freeN c h 4), .int .u64 (freeN c h 5), .int .u64 (freeN c h 6), .int .u64 (freeN c h 7)] 23)) w3.heap.size #[.int .u64 (freeN c h 0), .int .u64 (freeN c h 1), .int .u64 (freeN c h 2), .int .u64 (freeN c h 3), .int .u64 (freeN c h 4), .int .u64 (freeN c h 5), .int .u64 (freeN c h 6), .int .u64 (freeN c h 7)] := Row.new w3 _ _
  have hlt3 : w.heap.size < w3.heap.size := hfz0
  have HB0 := Lib.hid hbel
  have HR1 := Lib.hid hr1
  have HR2 := Lib.hid hr2
  clear hbel hr1 hr2 hb hb1 hb2 hbz0 hd hd1 hd2 hdz0 hf hf1 hf2 hfz0
  generalize w3.heap.size = B at *
  go_loopw [4] (fun i wr => ∃ k : Int, 1 ≤ k ∧ k ≤ 8 ∧ i = .int .i64 k ∧ Below w.heap.size w wr ∧ Row wr w.heap.size #[.int .u64 c, .int .u64 (h 0), .int .u64 (h 1), .int .u64 (h 2), .int .u64 (h 3), .int .u64 (h 4), .int .u64 (h 5), .int .u64 (h 6), .int .u64 (h 7)] ∧ Row wr B #[.int .u64 (freeN c h 0), .int .u64 (freeN c h 1), .int .u64 (freeN c h 2), .int .u64 (freeN c h 3), .int .u64 (freeN c h 4), .int .u64 (freeN c h 5), .int .u64 (freeN c h 6), .int .u64 (freeN c h 7)]) (fun i _ => 8 - (intOf i).toNat)
  case atStart => exact ⟨1, by omega, by omega, rfl, HB0.out, HR1.out, HR2.out⟩
  case round =>
    obtain ⟨k, hk1, hk8, rfl, hbel, hr1, hr2⟩ := hrel
    clear HB0 HR1 HR2
    have HB0 := Lib.hid hbel
    have HR1 := Lib.hid hr1
    have HR2 := Lib.hid hr2
    clear hbel
    obtain ⟨c1, f1, s1⟩ := hr1
    obtain ⟨c2, f2, s2⟩ := hr2
    have hd0 : decide (freeN c h 0 < freeN c h 1) = false := decide_eq_false (Int.not_lt.2 (free_falls (c := c) hh 0 (by omega)))
    have hd1 : decide (freeN c h 1 < freeN c h 2) = false := decide_eq_false (Int.not_lt.2 (free_falls (c := c) hh 1 (by omega)))
    have hd2 : decide (freeN c h 2 < freeN c h 3) = false := decide_eq_false (Int.not_lt.2 (free_falls (c := c) hh 2 (by omega)))
    have hd3 : decide (freeN c h 3 < freeN c h 4) = false := decide_eq_false (Int.not_lt.2 (free_falls (c := c) hh 3 (by omega)))
    have hd4 : decide (freeN c h 4 < freeN c h 5) = false := decide_eq_false (Int.not_lt.2 (free_falls (c := c) hh 4 (by omega)))
    have hd5 : decide (freeN c h 5 < freeN c h 6) = false := decide_eq_false (Int.not_lt.2 (free_falls (c := c) hh 5 (by omega)))
    have hd6 : decide (freeN c h 6 < freeN c h 7) = false := decide_eq_false (Int.not_lt.2 (free_falls (c := c) hh 6 (by omega)))
    have hkc : k = 1 ∨ k = 2 ∨ k = 3 ∨ k = 4 ∨ k = 5 ∨ k = 6 ∨ k = 7 ∨ k = 8 := by omega
    clear hk1 hk8
    rcases hkc with rfl | rfl | rfl | rfl | rfl | rfl | rfl | rfl
    iterate 7
      · clear hh
        go_wp2_with fail
        go_quiet (fail)
        go_wp2_with fail
        go_roundw
        case rel => exact ⟨_, by omega, by omega, rfl, below_drewN HB0.out _, HR1.out.drewN _, HR2.out.drewN _⟩
        case measure => simp [intOf]
    · have H4 := Lib.hid (Sum_calls c h hh)
      have H5 := Lib.hid (fun w => Right_calls c h hh hc w)
      have hle := free_le hh h0 0 (by omega)
      clear hd0 hd1 hd2 hd3 hd4 hd5 hd6
      by_cases hr : sumTo h 8 ≤ c
      · have hs : sumTo h 8 < 18446744073709551616 := by omega
        rw [uptoOk_yes hs, uptoN_yes hs] at H4
        rw [right_yes hr] at H5
        have h7 := free_yes (k := 7) hr
        have hz := sumTo_nonneg hh 8 (by omega)
        have HEQ := Lib.hid h7
        clear hh hs h7
        go_wp2_with (first | (go_at_call 14; (with_reducible refine (H2.out _).mono ?_); rintro e w4 ⟨rfl, hb⟩; obtain ⟨hb1, hb2⟩ := bcell hb; have hbz0 : w.heap.size < w4.heap.size := size_lt hb (by first | omega | (simp <;> omega)); have hbzB : B < w4.heap.size := size_lt hb (by first | omega | (simp <;> omega))) | (go_at_call 13; (with_reducible refine (H4.out _).mono ?_); rintro e w5 ⟨rfl, hd⟩; obtain ⟨hd1, hd2⟩ := bcell hd; have hdz0 : w.heap.size < w5.heap.size := size_lt hd (by first | omega | (simp <;> omega)); have hdzB : B < w5.heap.size := size_lt hd (by first | omega | (simp <;> omega))) | (go_at_call 16; (with_reducible refine (H5.out _).mono ?_); rintro e w6 ⟨rfl, hf⟩; obtain ⟨hf1, hf2⟩ := bcell hf; have hfz0 : w.heap.size < w6.heap.size := size_lt hf (by first | omega | (simp <;> omega)); have hfzB : B < w6.heap.size := size_lt hf (by first | omega | (simp <;> omega))))
        go_ret
        have hbe := HB0.out
        exact ⟨by simp [HEQ.out], (by repeat (first | (with_reducible exact Below.refl _ _) | (with_reducible assumption) | ((with_reducible refine Below.setCell ?_ ?_ _); rotate_left; (first | omega | (simp <;> omega))) | ((with_reducible refine Below.alloc ?_ ?_ _); rotate_left; (first | omega | (simp <;> omega))) | ((with_reducible refine Below.drew ?_)) | ((with_reducible refine below_drewN ?_ _)) | ((with_reducible refine Below.trans ?_ (Below.mono (by with_reducible assumption) ?_)); rotate_left; (first | omega | (simp <;> omega)))))⟩
      · rw [right_no hr] at H5
        by_cases hs : sumTo h 8 < 18446744073709551616
        · rw [uptoOk_yes hs, uptoN_yes hs] at H4
          clear hh hs hr
          go_wp2_with (first | (go_at_call 14; (with_reducible refine (H2.out _).mono ?_); rintro e w4 ⟨rfl, hb⟩; obtain ⟨hb1, hb2⟩ := bcell hb; have hbz0 : w.heap.size < w4.heap.size := size_lt hb (by first | omega | (simp <;> omega)); have hbzB : B < w4.heap.size := size_lt hb (by first | omega | (simp <;> omega))) | (go_at_call 13; (with_reducible refine (H4.out _).mono ?_); rintro e w5 ⟨rfl, hd⟩; obtain ⟨hd1, hd2⟩ := bcell hd; have hdz0 : w.heap.size < w5.heap.size := size_lt hd (by first | omega | (simp <;> omega)); have hdzB : B < w5.heap.size := size_lt hd (by first | omega | (simp <;> omega))) | (go_at_call 16; (with_reducible refine (H5.out _).mono ?_); rintro e w6 ⟨rfl, hf⟩; obtain ⟨hf1, hf2⟩ := bcell hf; have hfz0 : w.heap.size < w6.heap.size := size_lt hf (by first | omega | (simp <;> omega)); have hfzB : B < w6.heap.size := size_lt hf (by first | omega | (simp <;> omega))))
          go_ret
          have hbe := HB0.out
          exact ⟨rfl, (by repeat (first | (with_reducible exact Below.refl _ _) | (with_reducible assumption) | ((with_reducible refine Below.setCell ?_ ?_ _); rotate_left; (first | omega | (simp <;> omega))) | ((with_reducible refine Below.alloc ?_ ?_ _); rotate_left; (first | omega | (simp <;> omega))) | ((with_reducible refine Below.drew ?_)) | ((with_reducible refine below_drewN ?_ _)) | ((with_reducible refine Below.trans ?_ (Below.mono (by with_reducible assumption) ?_)); rotate_left; (first | omega | (simp <;> omega)))))⟩
        · rw [uptoOk_no hs, uptoN_no hs] at H4
          clear hh hs hr
          go_wp2_with (first | (go_at_call 14; (with_reducible refine (H2.out _).mono ?_); rintro e w4 ⟨rfl, hb⟩; obtain ⟨hb1, hb2⟩ := bcell hb; have hbz0 : w.heap.size < w4.heap.size := size_lt hb (by first | omega | (simp <;> omega)); have hbzB : B < w4.heap.size := size_lt hb (by first | omega | (simp <;> omega))) | (go_at_call 13; (with_reducible refine (H4.out _).mono ?_); rintro e w5 ⟨rfl, hd⟩; obtain ⟨hd1, hd2⟩ := bcell hd; have hdz0 : w.heap.size < w5.heap.size := size_lt hd (by first | omega | (simp <;> omega)); have hdzB : B < w5.heap.size := size_lt hd (by first | omega | (simp <;> omega))) | (go_at_call 16; (with_reducible refine (H5.out _).mono ?_); rintro e w6 ⟨rfl, hf⟩; obtain ⟨hf1, hf2⟩ := bcell hf; have hfz0 : w.heap.size < w6.heap.size := size_lt hf (by first | omega | (simp <;> omega)); have hfzB : B < w6.heap.size := size_lt hf (by first | omega | (simp <;> omega))))
          go_ret
          have hbe := HB0.out
          exact ⟨rfl, (by repeat (first | (with_reducible exact Below.refl _ _) | (with_reducible assumption) | ((with_reducible refine Below.setCell ?_ ?_ _); rotate_left; (first | omega | (simp <;> omega))) | ((with_reducible refine Below.alloc ?_ ?_ _); rotate_left; (first | omega | (simp <;> omega))) | ((with_reducible refine Below.drew ?_)) | ((with_reducible refine below_drewN ?_ _)) | ((with_reducible refine Below.trans ?_ (Below.mono (by with_reducible assumption) ?_)); rotate_left; (first | omega | (simp <;> omega)))))⟩
end Go.Proofs.Ytbbhbfeafdibmaa
