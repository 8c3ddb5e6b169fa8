/- The document's Sum and Right; what is free, as the program tells it. -/
import Derived.Test.YtbbhbfeafdibmaaTheirs
namespace Go.Proofs.Ytbbhbfeafdibmaa
open Go.RowKit Plain

theorem RSum_calls (c : Int) (h : Nat → Int) (hh : Nums h) (w : World) :
    Calls Try.prog 15 #[.agg #[.int .u64 c, .int .u64 (h 0), .int .u64 (h 1), .int .u64 (h 2), .int .u64 (h 3), .int .u64 (h 4), .int .u64 (h 5), .int .u64 (h 6), .int .u64 (h 7)]] w fun e w' => e = .returned (.tuple #[.int .u64 (uptoN h 8), .bool (uptoOk h 8)]) ∧ Below w.heap.size w w' := by
  have HS := Lib.hid (fun w => upto_calls c h 7 hh (by omega) w)
  go_enter Try.func15, Try.ntmps15
  go_wp2_with (go_at_call 26; refine (HS.out _).mono ?_; rintro e w1 ⟨rfl, hb⟩; obtain ⟨hb1, hb2⟩ := bcell hb)
  go_ret2
  exact ⟨rfl, (((Below.refl _ _).alloc (Nat.le_refl _) _).trans (hb.mono (by simp)))⟩

theorem RRight_calls (c : Int) (h : Nat → Int) (hh : Nums h) (hc : c < 18446744073709551616) (w : World) :
    Calls Try.prog 17 #[.agg #[.int .u64 c, .int .u64 (h 0), .int .u64 (h 1), .int .u64 (h 2), .int .u64 (h 3), .int .u64 (h 4), .int .u64 (h 5), .int .u64 (h 6), .int .u64 (h 7)]] w fun e w' => e = .returned (.bool (rightB c h)) ∧ Below w.heap.size w w' := by
  have hs := RSum_calls c h hh
  by_cases h1 : sumTo h 8 < 18446744073709551616
  · rw [uptoOk_yes h1, uptoN_yes h1] at hs
    have HS := Lib.hid hs
    clear hs hh
    go_enter Try.func17, Try.ntmps17
    go_wp2_with (go_at_call 15; refine (HS.out _).mono ?_; rintro e w1 ⟨rfl, hb⟩; obtain ⟨hb1, hb2⟩ := bcell hb)
    go_ret
    exact ⟨rfl, (((Below.refl _ _).alloc (Nat.le_refl _) _).trans (hb.mono (by simp)))⟩
  · rw [uptoOk_no h1, uptoN_no h1] at hs
    rw [right_no (by omega)]
    have HS := Lib.hid hs
    clear hs hh h1 hc
    go_enter Try.func17, Try.ntmps17
    go_wp2_with (go_at_call 15; refine (HS.out _).mono ?_; rintro e w1 ⟨rfl, hb⟩; obtain ⟨hb1, hb2⟩ := bcell hb)
    go_ret
    exact ⟨rfl, (((Below.refl _ _).alloc (Nat.le_refl _) _).trans (hb.mono (by simp)))⟩

/-- What is told so far: the priorities below k. -/
def freeTo (c : Int) (h : Nat → Int) (k : Nat) : Array Value := (List.map (fun i => Value.int .u64 (if i < k then freeN c h i else 0)) [0, 1, 2, 3, 4, 5, 6, 7]).toArray
theorem freeTo_get (c : Int) (h : Nat → Int) (k : Nat) (hk : k < 8) : (freeTo c h k)[k]? = some (.int .u64 0) := by
  have : k = 0 ∨ k = 1 ∨ k = 2 ∨ k = 3 ∨ k = 4 ∨ k = 5 ∨ k = 6 ∨ k = 7 := by omega
  clear hk
  rcases this with rfl | rfl | rfl | rfl | rfl | rfl | rfl | rfl
  · rfl
  · rfl
  · rfl
  · rfl
  · rfl
  · rfl
  · rfl
  · rfl
theorem freeTo_set (c : Int) (h : Nat → Int) (k : Nat) (hk : k < 8) : (freeTo c h k).setIfInBounds k (.int .u64 (freeN c h k)) = freeTo c h (k + 1) := by
  have : k = 0 ∨ k = 1 ∨ k = 2 ∨ k = 3 ∨ k = 4 ∨ k = 5 ∨ k = 6 ∨ k = 7 := by omega
  clear hk
  rcases this with rfl | rfl | rfl | rfl | rfl | rfl | rfl | rfl
  · rfl
  · rfl
  · rfl
  · rfl
  · rfl
  · rfl
  · rfl
  · rfl
theorem freeTo_skip (c : Int) (h : Nat → Int) (k : Nat) (hk : k < 8) (hz : freeN c h k = 0) : freeTo c h k = freeTo c h (k + 1) := by
  rw [← freeTo_set c h k hk, hz]
  have : k = 0 ∨ k = 1 ∨ k = 2 ∨ k = 3 ∨ k = 4 ∨ k = 5 ∨ k = 6 ∨ k = 7 := by omega
  clear hk hz
  rcases this with rfl | rfl | rfl | rfl | rfl | rfl | rfl | rfl
  · rfl
  · rfl
  · rfl
  · rfl
  · rfl
  · rfl
  · rfl
  · rfl
theorem freeTo_end (c : Int) (h : Nat → Int) : freeTo c h 8 = #[.int .u64 (freeN c h 0), .int .u64 (freeN c h 1), .int .u64 (freeN c h 2), .int .u64 (freeN c h 3), .int .u64 (freeN c h 4), .int .u64 (freeN c h 5), .int .u64 (freeN c h 6), .int .u64 (freeN c h 7)] := rfl
/-- Where more is held than there is, nothing is free from there on. -/
theorem freeTo_over {c : Int} {h : Nat → Int} (hh : Nums h) (d : Nat) : ∀ k, k + d = 8 → (k < 8 → ¬ sumTo h (k + 1) ≤ c) → freeTo c h k = #[.int .u64 (freeN c h 0), .int .u64 (freeN c h 1), .int .u64 (freeN c h 2), .int .u64 (freeN c h 3), .int .u64 (freeN c h 4), .int .u64 (freeN c h 5), .int .u64 (freeN c h 6), .int .u64 (freeN c h 7)] := by
  induction d with
  | zero => intro k hk _; obtain rfl : k = 8 := by omega
            rfl
  | succ d ih =>
    intro k hk ho
    have h1 := ho (by omega)
    rw [freeTo_skip c h k (by omega) (free_no h1)]
    refine ih (k + 1) (by omega) (fun h8 => ?_)
    have := sumTo_mono hh (i := k + 1) (k + 1 + 1) (by omega) (by omega)
    omega

set_option maxHeartbeats 1000000 in
theorem Free_calls (c : Int) (h : Nat → Int) (hh : Nums h) (h0 : 0 ≤ c) (hc : c < 18446744073709551616) (w : World) :
    Calls Try.prog 18 #[.agg #[.int .u64 c, .int .u64 (h 0), .int .u64 (h 1), .int .u64 (h 2), .int .u64 (h 3), .int .u64 (h 4), .int .u64 (h 5), .int .u64 (h 6), .int .u64 (h 7)]] w fun e w' => e = .returned (.agg #[.int .u64 (freeN c h 0), .int .u64 (freeN c h 1), .int .u64 (freeN c h 2), .int .u64 (freeN c h 3), .int .u64 (freeN c h 4), .int .u64 (freeN c h 5), .int .u64 (freeN c h 6), .int .u64 (freeN c h 7)]) ∧ Below w.heap.size w w' := by
  go_enter Try.func18, Try.ntmps18
  go_wp2_with fail
  go_loopw [4, 11] (fun n i wr => ∃ k : Nat, k ≤ 8 ∧ i = .int .i64 k ∧ n = .int .u64 (c - sumTo h k) ∧ sumTo h k ≤ c ∧ wr = ((w.alloc (.cells #[.int .u64 c, .int .u64 (h 0), .int .u64 (h 1), .int .u64 (h 2), .int .u64 (h 3), .int .u64 (h 4), .int .u64 (h 5), .int .u64 (h 6), .int .u64 (h 7)] 30)).alloc (.cells #[.int .u64 0, .int .u64 0, .int .u64 0, .int .u64 0, .int .u64 0, .int .u64 0, .int .u64 0, .int .u64 0] 23)).alloc (.cells (freeTo c h k) 23)) (fun _ i _ => 8 - (intOf i).toNat)
  case atStart => exact ⟨0, by omega, rfl, by simp [sumTo], by simpa [sumTo] using h0, rfl⟩
  case round =>
    obtain ⟨k, hk, rfl, rfl, hs, rfl⟩ := hrel
    by_cases hlt : k < 8
    · have hz := sumTo_nonneg hh k hk
      obtain ⟨h1, h2⟩ := hh k hlt
      have hi := index_runs h k hlt
      by_cases hle : h k ≤ c - sumTo h k
      · have hg := freeTo_get c h k hlt
        have hset := freeTo_set c h k hlt
        rw [free_yes (by rw [sumTo_succ]; omega), sumTo_succ, show c - (sumTo h k + h k) = c - sumTo h k - h k from by omega] at hset
        have HSET := Lib.hid hset
        clear hset
        have HC := Lib.hid (show c - sumTo h k - h k = c - sumTo h (k + 1) by rw [sumTo_succ]; omega)
        go_wp2_with fail
        go_roundw
        case rel => exact ⟨k + 1, by omega, num_step k, by rw [HC.out], by rw [sumTo_succ]; omega, by rw [HSET.out]⟩
        case measure => simp [intOf]; omega
      · have he := freeTo_over (c := c) hh (8 - k) k (by omega) (fun _ => by rw [sumTo_succ]; omega)
        go_wp2_with fail
        exact bodyPost_ret (v := .agg #[.int .u64 (freeN c h 0), .int .u64 (freeN c h 1), .int .u64 (freeN c h 2), .int .u64 (freeN c h 3), .int .u64 (freeN c h 4), .int .u64 (freeN c h 5), .int .u64 (freeN c h 6), .int .u64 (freeN c h 7)]) (by simp [results, Try.results18, go_sem]) rfl ⟨rfl, by repeat (first | exact Below.refl _ _ | refine Below.setCell ?_ (by simp <;> omega) _ | refine Below.alloc ?_ (by simp <;> omega) _)⟩
    · have he := freeTo_over (c := c) hh (8 - k) k (by omega) (fun h8 => absurd h8 hlt)
      go_wp2_with fail
      exact bodyPost_ret (v := .agg #[.int .u64 (freeN c h 0), .int .u64 (freeN c h 1), .int .u64 (freeN c h 2), .int .u64 (freeN c h 3), .int .u64 (freeN c h 4), .int .u64 (freeN c h 5), .int .u64 (freeN c h 6), .int .u64 (freeN c h 7)]) (by simp [results, Try.results18, go_sem]) rfl ⟨rfl, by repeat (first | exact Below.refl _ _ | refine Below.setCell ?_ (by simp <;> omega) _ | refine Below.alloc ?_ (by simp <;> omega) _)⟩
end Go.Proofs.Ytbbhbfeafdibmaa
