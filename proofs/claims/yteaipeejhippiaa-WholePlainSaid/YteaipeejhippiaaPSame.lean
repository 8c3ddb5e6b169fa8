/- slices.Compare and spf.Better, which leave the world as it is. -/
import Derived.Test.YteaipeejhippiaaPBet
namespace Go.Proofs.Yteaipeejhippiaa
open Go.RowKit
attribute [local go_sem] cell_set_self
set_option linter.unusedVariables false

set_option maxHeartbeats 8000000 in
theorem Compare_same (w : World) (A B : Option Addr) (n c d : Nat) (f g : Nat → Int) (hn : n ≤ 9223372036854775807) (h1 : Strip w A n 1 (intRow f)) (h2 : Strip w B n 1 (intRow g)) : Calls Try.prog 48 #[.slice A n c, .slice B n d] w fun e w' => e = .returned (.int .i64 (lexI f g 0 n)) ∧ w' = w := by
  have H1 := Lib.hid h1
  have H2 := Lib.hid h2
  have hn5 : n ≤ 9223372036854775807 := hn
  clear h1 h2 hn
  go_enter Try.func48, Try.ntmps48
  go_wp2
  go_loopw [11] (fun i wr => ∃ k : Nat, k ≤ n ∧ i = .int .i64 (k : Int) ∧ (∀ j, j < k → cmpI (f j) (g j) = 0) ∧ wr = w) (fun i _ => n - (intOf i).toNat)
  case atStart => exact ⟨0, by omega, rfl, fun j hj => by omega, rfl⟩
  case round =>
    obtain ⟨k, hk, rfl, hj, rfl⟩ := hrel
    have HJ := Lib.hid hj
    clear hj
    by_cases hlt : k < n
    · have i0 : (0 : Int) ≤ (k : Int) := by omega
      have i1 : (k : Int) < (n : Int) := by omega
      have i2 : ¬ ((n : Int) ≤ (k : Int)) := by omega
      obtain ⟨ad, rfl, hadb, g1⟩ := H1.out.num hlt
      obtain ⟨bd, rfl, hbdb, g2⟩ := H2.out.num hlt
      have c1 := g1 wr (Below.refl _ _)
      have c2 := g2 wr (Below.refl _ _)
      clear g1 g2
      by_cases hz : cmpI (f k) (g k) = 0
      · have HC := Lib.hid fun (w' : World) => (show Calls Try.prog 60 #[.int .i64 (f k), .int .i64 (g k)] w' fun e w'' => e = .returned (.int .i64 0) ∧ w' = w'' from by rw [← hz]; exact cmp_calls (f k) (g k) w')
        have HK := Lib.hid hz
        clear hz
        go_wp2_with (go_at_call 60; (with_reducible refine (HC.out _).mono ?_); rintro e w1 ⟨rfl, rfl⟩)
        go_roundw
        case rel => exact ⟨k + 1, by omega, num_step k, fun j hj => by
          by_cases e : j = k
          · subst e; exact HK.out
          · exact HJ.out j (by omega), by first | rfl | trivial⟩
        case measure => exact measure_step hlt
      · obtain ⟨r, hr⟩ : ∃ r, r = cmpI (f k) (g k) := ⟨_, rfl⟩
        have HC := Lib.hid fun (w' : World) => (show Calls Try.prog 60 #[.int .i64 (f k), .int .i64 (g k)] w' fun e w'' => e = .returned (.int .i64 r) ∧ w' = w'' from by rw [hr]; exact cmp_calls (f k) (g k) w')
        have HK := Lib.hid hz
        have HR := Lib.hid hr
        have hr0 : ¬ (r = 0) := by rw [hr]; exact hz
        clear hz hr
        go_wp2_with (go_at_call 60; (with_reducible refine (HC.out _).mono ?_); rintro e w1 ⟨rfl, rfl⟩)
        go_ret
        exact ⟨by rw [HR.out, lexI_stop (Nat.zero_le k) (by omega) (fun j _ => HJ.out j) HK.out]; rfl, rfl⟩
    · obtain rfl : n = k := by omega
      go_wp2
      go_ret
      exact ⟨by rw [lexI_same (fun j _ hj => HJ.out j (by omega))]; rfl, rfl⟩
set_option maxHeartbeats 8000000 in
theorem Better_same (w : World) (x y : Int) (A B : Option Addr) (n m c d : Nat) (f g : Nat → Int) (hn : n ≤ 9223372036854775807) (h1 : Strip w A n 1 (intRow f)) (h2 : Strip w B m 1 (intRow g)) : Calls Try.prog 31 #[.int .i64 x, .slice A n c, .int .i64 y, .slice B m d] w fun e w' => e = .returned (.bool (betB x n f y m g)) ∧ w' = w := by
  by_cases hxy : x = y
  · subst hxy
    by_cases hnm : n = m
    · subst hnm
      have e1 : betB x n f x n g = decide (lexI f g 0 n < 0) := by unfold betB; rw [if_pos rfl, if_pos rfl]
      rw [e1]
      have HC := Lib.hid (Compare_same w A B n c d f g hn h1 h2)
      generalize lexI f g 0 n = r at HC
      clear h1 h2 e1 hn
      go_enter Try.func31, Try.ntmps31
      go_wp2_with (go_at_call 48; (with_reducible refine HC.out.mono ?_); rintro e w1 ⟨rfl, rfl⟩)
      go_ret
      exact ⟨rfl, rfl⟩
    · have e1 : betB x n f x m g = decide (n < m) := by unfold betB; rw [if_pos rfl, if_neg hnm]
      rw [e1]
      have hnm2 : ¬ ((n : Int) = (m : Int)) := by omega
      clear h1 h2 e1 hn hnm
      go_enter Try.func31, Try.ntmps31
      go_wp2
      go_ret
      exact ⟨rfl, rfl⟩
  · have e1 : betB x n f y m g = decide (x < y) := by unfold betB; rw [if_neg hxy]
    rw [e1]
    clear h1 h2 e1 hn
    go_enter Try.func31, Try.ntmps31
    go_wp2
    go_ret
    exact ⟨rfl, rfl⟩
end Go.Proofs.Yteaipeejhippiaa
