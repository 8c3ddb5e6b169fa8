/- Sum answers what is held, if it is a number of 64 bits. -/
import Derived.Test.YtbbhbfeafdibmaaAdd
import Derived.LoopTactic
import Derived.Outline
import Derived.Lib.Hide
namespace Go.Proofs.Ytbbhbfeafdibmaa
open Go.RowKit Plain

/-- The element of a whole array of eight numbers. -/
theorem index_runs (h : Nat → Int) (k : Nat) (hk : k < 8) (w : World) :
    (Instr.index 23 (.agg #[.int .u64 (h 0), .int .u64 (h 1), .int .u64 (h 2), .int .u64 (h 3), .int .u64 (h 4), .int .u64 (h 5), .int .u64 (h 6), .int .u64 (h 7)]) (.int .i64 (k : Int))).run Try.prog w = .ok (.int .u64 (h k)) w := by
  have : k = 0 ∨ k = 1 ∨ k = 2 ∨ k = 3 ∨ k = 4 ∨ k = 5 ∨ k = 6 ∨ k = 7 := by omega
  clear hk
  rcases this with rfl | rfl | rfl | rfl | rfl | rfl | rfl | rfl
  · rfl
  · rfl
  · rfl
  · rfl
  · rfl
  · rfl
  · rfl
  · rfl


set_option maxHeartbeats 1000000 in
theorem Sum_calls (c : Int) (h : Nat → Int) (hh : Nums h) (w : World) :
    Calls Try.prog 13 #[.agg #[.int .u64 c, .int .u64 (h 0), .int .u64 (h 1), .int .u64 (h 2), .int .u64 (h 3), .int .u64 (h 4), .int .u64 (h 5), .int .u64 (h 6), .int .u64 (h 7)]] w
      fun e w' => e = .returned (.tuple #[.int .u64 (uptoN h 8), .bool (uptoOk h 8)]) ∧ Below w.heap.size w w' := by
  go_enter Try.func13, Try.ntmps13
  go_wp2_with fail
  go_loop [4, 10] (fun n i => ∃ k : Nat, k ≤ 8 ∧ i = .int .i64 k ∧ n = .int .u64 (sumTo h k) ∧ sumTo h k < 18446744073709551616) (fun _ i => 8 - (intOf i).toNat)
  case atStart => exact ⟨0, by omega, rfl, rfl, by simp only [sumTo]; omega⟩
  case round =>
    obtain ⟨k, hk, rfl, rfl, hs⟩ := hrel
    by_cases hlt : k < 8
    · have h0 := sumTo_nonneg hh k hk
      obtain ⟨h1, h2⟩ := hh k hlt
      have hi := index_runs h k hlt
      by_cases hc : sumTo h k + h k < 18446744073709551616
      · have ha := Add_calls (sumTo h k) (h k) h0 h1 hs h2
        rw [addOk_yes hc, addN_yes hc] at ha
        have HA := Lib.hid ha
        clear ha
        go_wp2_with (go_at_call 11; refine (HA.out _).mono ?_; rintro e w' ⟨rfl, rfl⟩)
        go_round
        case rel => exact ⟨k + 1, by omega, num_step k, rfl, hc⟩
        case measure => simp [intOf]; omega
      · have ha := Add_calls (sumTo h k) (h k) h0 h1 hs h2
        rw [addOk_no hc, addN_no hc] at ha
        have HA := Lib.hid ha
        clear ha
        have HO := Lib.hid (upto_over hh (i := k + 1) (k := 8) (by omega) (by omega) hc)
        go_wp2_with (go_at_call 11; refine (HA.out _).mono ?_; rintro e w' ⟨rfl, rfl⟩)
        go_ret2
        exact ⟨by rw [HO.out.1, HO.out.2]; rfl, (Below.refl _ _).alloc (Nat.le_refl _) _⟩
    · obtain rfl : k = 8 := by omega
      go_wp2_with fail
      go_ret2
      exact ⟨by rw [uptoOk_yes hs, uptoN_yes hs]; rfl, (Below.refl _ _).alloc (Nat.le_refl _) _⟩
end Go.Proofs.Ytbbhbfeafdibmaa
