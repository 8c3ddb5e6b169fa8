/- Right answers whether no more is held than there is. -/
import Derived.Test.YtbbhbfeafdibmaaSum
namespace Go.Proofs.Ytbbhbfeafdibmaa
open Go.RowKit Plain

set_option maxHeartbeats 1000000 in
theorem Right_calls (c : Int) (h : Nat → Int) (hh : Nums h) (hc : c < 18446744073709551616) (w : World) :
    Calls Try.prog 16 #[.agg #[.int .u64 c, .int .u64 (h 0), .int .u64 (h 1), .int .u64 (h 2), .int .u64 (h 3), .int .u64 (h 4), .int .u64 (h 5), .int .u64 (h 6), .int .u64 (h 7)]] w
      fun e w' => e = .returned (.bool (rightB c h)) ∧ Below w.heap.size w w' := by
  have hs := Sum_calls c h hh
  by_cases h1 : sumTo h 8 < 18446744073709551616
  · rw [uptoOk_yes h1, uptoN_yes h1] at hs
    have HS := Lib.hid hs
    clear hs hh
    go_enter Try.func16, Try.ntmps16
    go_wp2_with (go_at_call 13; refine (HS.out _).mono ?_; rintro e w1 ⟨rfl, hb⟩; obtain ⟨hb1, hb2⟩ := bcell hb)
    go_ret
    exact ⟨rfl, (((Below.refl _ _).alloc (Nat.le_refl _) _).trans (hb.mono (by simp)))⟩
  · rw [uptoOk_no h1, uptoN_no h1] at hs
    rw [right_no (by omega)]
    have HS := Lib.hid hs
    clear hs hh h1 hc
    go_enter Try.func16, Try.ntmps16
    go_wp2_with (go_at_call 13; refine (HS.out _).mono ?_; rintro e w1 ⟨rfl, hb⟩; obtain ⟨hb1, hb2⟩ := bcell hb)
    go_ret
    exact ⟨rfl, (((Below.refl _ _).alloc (Nat.le_refl _) _).trans (hb.mono (by simp)))⟩
end Go.Proofs.Ytbbhbfeafdibmaa
