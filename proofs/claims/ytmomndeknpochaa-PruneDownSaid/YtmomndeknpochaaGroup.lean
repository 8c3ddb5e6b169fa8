/- The groups' functions at this seat. -/
import Derived.Test.YtmomndeknpochaaSmall
import Derived.Test.YtmomndeknpochaaBits
namespace Go.Proofs.Ytmomndeknpochaa
open Go.RowKit PBits
attribute [local go_sem] cell_set_self

/-- It answers whether p. -/
def Says (e : Ending) (p : Prop) : Prop := ∃ r : Bool, e = .returned (.bool r) ∧ (r = true ↔ p)
theorem pow_half {x k : Nat} (hx : x < 2 ^ (32 - k)) (hk : k < 32) : x / 2 < 2 ^ (32 - (k + 1)) := by
  have e : 32 - k = (32 - (k + 1)) + 1 := by omega
  rw [e, Nat.pow_succ] at hx
  omega
theorem pow_lt {x k : Nat} (hx : x < 2 ^ (32 - k)) : x < 4294967296 := Nat.lt_of_lt_of_le hx (Nat.pow_le_pow_right (by omega) (show 32 - k ≤ 32 by omega))

set_option maxHeartbeats 4000000 in
theorem Common_calls (w : World) (a b : Nat) (ha : a < 4294967296) (hb : b < 4294967296) :
    Calls Try.prog 29 #[.int .u32 (a : Int), .int .u32 (b : Int)] w fun e w' => Says e (Com a b) ∧ w = w' := by
  go_enter Try.func29, Try.ntmps29
  go_wp2
  go_loop [0, 1, 5] (fun p q i => ∃ k x y : Nat, k ≤ 32 ∧ i = .int .i64 (k : Int) ∧ p = .int .u32 (x : Int) ∧ q = .int .u32 (y : Int) ∧ x < 2 ^ (32 - k) ∧ y < 2 ^ (32 - k) ∧ (Com a b ↔ Com x y)) (fun _ _ i => 32 - (intOf i).toNat)
  case atStart => exact ⟨0, a, b, by omega, rfl, rfl, rfl, ha, hb, Iff.rfl⟩
  case round =>
    obtain ⟨k, x, y, hk, rfl, rfl, rfl, hx, hy, hc⟩ := hrel
    have HC := Lib.hid hc
    clear hc
    by_cases hlt : k < 32
    · have e1 := tmod2 x
      have e2 := tmod2 y
      have e3 := tdiv2 x (pow_lt hx)
      have e4 := tdiv2 y (pow_lt hy)
      by_cases c1 : x % 2 = 1
      · rw [c1] at e1
        by_cases c2 : y % 2 = 1
        · rw [c2] at e2
          go_wp2
          go_ret
          exact ⟨⟨true, rfl, ⟨fun _ => HC.out.2 (com_step.2 (.inl ⟨c1, c2⟩)), fun _ => rfl⟩⟩, rfl⟩
        · rw [show y % 2 = 0 by omega] at e2
          go_wp2
          exact ⟨⟨k + 1, x / 2, y / 2, by omega, num_step k, rfl, rfl, pow_half hx hlt, pow_half hy hlt, HC.out.trans (com_step.trans ⟨fun h => h.resolve_left (fun h => c2 h.2), .inr⟩)⟩, by simp only [intOf]; omega⟩
      · rw [show x % 2 = 0 by omega] at e1
        go_wp2
        exact ⟨⟨k + 1, x / 2, y / 2, by omega, num_step k, rfl, rfl, pow_half hx hlt, pow_half hy hlt, HC.out.trans (com_step.trans ⟨fun h => h.resolve_left (fun h => c1 h.1), .inr⟩)⟩, by simp only [intOf]; omega⟩
    · obtain rfl : k = 32 := by omega
      go_wp2
      go_ret
      refine ⟨⟨false, rfl, ⟨fun h => (by cases h), fun h => ?_⟩⟩, rfl⟩
      have h' := HC.out.1 h
      have h0 : x = 0 := by simpa using hx
      subst h0
      exact absurd h' (not_Com_zero _)
set_option maxHeartbeats 4000000 in
theorem within_calls (w : World) (a b : Nat) (ha : a < 4294967296) (hb : b < 4294967296) :
    Calls Try.prog 30 #[.int .u32 (a : Int), .int .u32 (b : Int)] w fun e w' => Says e (Sub a b) ∧ w = w' := by
  go_enter Try.func30, Try.ntmps30
  go_wp2
  go_loop [0, 1, 5] (fun p q i => ∃ k x y : Nat, k ≤ 32 ∧ i = .int .i64 (k : Int) ∧ p = .int .u32 (x : Int) ∧ q = .int .u32 (y : Int) ∧ x < 2 ^ (32 - k) ∧ y < 2 ^ (32 - k) ∧ (Sub a b ↔ Sub x y)) (fun _ _ i => 32 - (intOf i).toNat)
  case atStart => exact ⟨0, a, b, by omega, rfl, rfl, rfl, ha, hb, Iff.rfl⟩
  case round =>
    obtain ⟨k, x, y, hk, rfl, rfl, rfl, hx, hy, hc⟩ := hrel
    have HC := Lib.hid hc
    clear hc
    by_cases hlt : k < 32
    · have e1 := tmod2 x
      have e2 := tmod2 y
      have e3 := tdiv2 x (pow_lt hx)
      have e4 := tdiv2 y (pow_lt hy)
      by_cases c1 : x % 2 = 1
      · rw [c1] at e1
        by_cases c2 : y % 2 = 1
        · rw [c2] at e2
          go_wp2
          exact ⟨⟨k + 1, x / 2, y / 2, by omega, num_step k, rfl, rfl, pow_half hx hlt, pow_half hy hlt, HC.out.trans (sub_step.trans ⟨And.right, fun h => ⟨fun _ => c2, h⟩⟩)⟩, by simp only [intOf]; omega⟩
        · rw [show y % 2 = 0 by omega] at e2
          go_wp2
          go_ret
          exact ⟨⟨false, rfl, ⟨fun h => (by cases h), fun h => absurd ((sub_step.1 (HC.out.1 h)).1 c1) c2⟩⟩, rfl⟩
      · rw [show x % 2 = 0 by omega] at e1
        go_wp2
        exact ⟨⟨k + 1, x / 2, y / 2, by omega, num_step k, rfl, rfl, pow_half hx hlt, pow_half hy hlt, HC.out.trans (sub_step.trans ⟨And.right, fun h => ⟨fun h' => absurd h' c1, h⟩⟩)⟩, by simp only [intOf]; omega⟩
    · obtain rfl : k = 32 := by omega
      go_wp2
      go_ret
      refine ⟨⟨true, rfl, ⟨fun _ => HC.out.2 ?_, fun _ => rfl⟩⟩, rfl⟩
      have h0 : x = 0 := by simpa using hx
      subst h0
      exact Sub.zero _
end Go.Proofs.Ytmomndeknpochaa
