/- The same ledger, as the program's and as the document's; what is held up to a priority; the document's Sum and Right. -/
import Derived.Test.YtbbhbfeafdibmaaRight
namespace Go.Proofs.Ytbbhbfeafdibmaa
open Go.RowKit Plain

theorem theirs_calls (c : Int) (h : Nat → Int) (w : World) :
    Calls Try.prog 14 #[.agg #[.int .u64 c, .int .u64 (h 0), .int .u64 (h 1), .int .u64 (h 2), .int .u64 (h 3), .int .u64 (h 4), .int .u64 (h 5), .int .u64 (h 6), .int .u64 (h 7)]] w fun e w' => e = .returned (.agg #[.int .u64 c, .int .u64 (h 0), .int .u64 (h 1), .int .u64 (h 2), .int .u64 (h 3), .int .u64 (h 4), .int .u64 (h 5), .int .u64 (h 6), .int .u64 (h 7)]) ∧ Below w.heap.size w w' := by
  go_enter Try.func14, Try.ntmps14
  go_wp2
  exact bodyPost_ret (v := .agg #[.int .u64 c, .int .u64 (h 0), .int .u64 (h 1), .int .u64 (h 2), .int .u64 (h 3), .int .u64 (h 4), .int .u64 (h 5), .int .u64 (h 6), .int .u64 (h 7)]) (by simp [results, Try.results14, go_sem]) rfl ⟨rfl, by repeat (first | exact Below.refl _ _ | refine Below.setCell ?_ (by simp) _ | refine Below.alloc ?_ (by simp) _)⟩
theorem ours_calls (c : Int) (h : Nat → Int) (w : World) :
    Calls Try.prog 21 #[.agg #[.int .u64 c, .int .u64 (h 0), .int .u64 (h 1), .int .u64 (h 2), .int .u64 (h 3), .int .u64 (h 4), .int .u64 (h 5), .int .u64 (h 6), .int .u64 (h 7)]] w fun e w' => e = .returned (.agg #[.int .u64 c, .int .u64 (h 0), .int .u64 (h 1), .int .u64 (h 2), .int .u64 (h 3), .int .u64 (h 4), .int .u64 (h 5), .int .u64 (h 6), .int .u64 (h 7)]) ∧ Below w.heap.size w w' := by
  go_enter Try.func21, Try.ntmps21
  go_wp2
  exact bodyPost_ret (v := .agg #[.int .u64 c, .int .u64 (h 0), .int .u64 (h 1), .int .u64 (h 2), .int .u64 (h 3), .int .u64 (h 4), .int .u64 (h 5), .int .u64 (h 6), .int .u64 (h 7)]) (by simp [results, Try.results21, go_sem]) rfl ⟨rfl, by repeat (first | exact Below.refl _ _ | refine Below.setCell ?_ (by simp) _ | refine Below.alloc ?_ (by simp) _)⟩

/-- A cell of a ledger's block, at a place that is no number. -/
theorem held_cell (c : Int) (h : Nat → Int) (k : Nat) (hk : k < 8) : (#[.int .u64 c, .int .u64 (h 0), .int .u64 (h 1), .int .u64 (h 2), .int .u64 (h 3), .int .u64 (h 4), .int .u64 (h 5), .int .u64 (h 6), .int .u64 (h 7)] : Array Value)[1 + k]? = some (.int .u64 (h k)) := by
  have : k = 0 ∨ k = 1 ∨ k = 2 ∨ k = 3 ∨ k = 4 ∨ k = 5 ∨ k = 6 ∨ k = 7 := by omega
  clear hk
  rcases this with rfl | rfl | rfl | rfl | rfl | rfl | rfl | rfl
  · rfl
  · rfl
  · rfl
  · rfl
  · rfl
  · rfl
  · rfl
  · rfl

set_option maxHeartbeats 1000000 in
theorem upto_calls (c : Int) (h : Nat → Int) (p : Nat) (hh : Nums h) (hp : p < 8) (w : World) :
    Calls Try.prog 26 #[.agg #[.int .u64 c, .int .u64 (h 0), .int .u64 (h 1), .int .u64 (h 2), .int .u64 (h 3), .int .u64 (h 4), .int .u64 (h 5), .int .u64 (h 6), .int .u64 (h 7)], .int .i64 (p : Int)] w
      fun e w' => e = .returned (.tuple #[.int .u64 (uptoN h (p + 1)), .bool (uptoOk h (p + 1))]) ∧ Below w.heap.size w w' := by
  go_enter Try.func26, Try.ntmps26
  go_wp2_with fail
  go_loop [6, 7] (fun n i => ∃ k : Nat, k ≤ p + 1 ∧ i = .int .i64 k ∧ n = .int .u64 (sumTo h k) ∧ sumTo h k < 18446744073709551616) (fun _ i => p + 1 - (intOf i).toNat)
  case atStart => exact ⟨0, by omega, rfl, rfl, by simp only [sumTo]; omega⟩
  case round =>
    obtain ⟨k, hk, rfl, rfl, hs⟩ := hrel
    by_cases hlt : k ≤ p
    · have h0 := sumTo_nonneg hh k (by omega)
      obtain ⟨h1, h2⟩ := hh k (by omega)
      have ha := RAdd_calls (sumTo h k) (h k) h0 h1 hs h2
      have hg := held_cell c h k (by omega)
      have hcell : (w.alloc (.cells #[.int .u64 c, .int .u64 (h 0), .int .u64 (h 1), .int .u64 (h 2), .int .u64 (h 3), .int .u64 (h 4), .int .u64 (h 5), .int .u64 (h 6), .int .u64 (h 7)] 25)).cell? ⟨w.heap.size, 1 + k, none⟩ = some (.int .u64 (h k)) := by
        rw [World.cell?_alloc_new]; exact hg
      by_cases hc : sumTo h k + h k < 18446744073709551616
      · rw [addOk_yes hc, addN_yes hc] at ha
        have HA := Lib.hid ha
        clear ha
        go_wp2_with (go_at_call 12; refine (HA.out _).mono ?_; rintro e w' ⟨rfl, rfl⟩)
        go_round
        case rel => exact ⟨k + 1, by omega, num_step k, rfl, hc⟩
        case measure => simp [intOf]; omega
      · rw [addOk_no hc, addN_no hc] at ha
        have HA := Lib.hid ha
        clear ha
        have HO := Lib.hid (upto_over hh (i := k + 1) (k := p + 1) (by omega) (by omega) hc)
        go_wp2_with (go_at_call 12; refine (HA.out _).mono ?_; rintro e w' ⟨rfl, rfl⟩)
        go_ret2
        exact ⟨by rw [HO.out.1, HO.out.2]; rfl, (Below.refl _ _).alloc (Nat.le_refl _) _⟩
    · obtain rfl : k = p + 1 := by omega
      go_wp2_with fail
      go_ret2
      exact ⟨by rw [uptoOk_yes hs, uptoN_yes hs]; rfl, (Below.refl _ _).alloc (Nat.le_refl _) _⟩
end Go.Proofs.Ytbbhbfeafdibmaa
