/- Small functions of the seat: Has, Index, Contains over numbers. -/
import Derived.Test.YtmomndeknpochaaProg
import Derived.Test.YtmomndeknpochaaSeq
import Derived.WalkKit
import Derived.Below
import Derived.KernelRfl
import Derived.Lib.Hide
import Derived.LoopTactic
import Derived.Outline
namespace Go.Proofs.Ytmomndeknpochaa
open Go.RowKit
attribute [local go_sem] cell_set_self

theorem add_block (a : Addr) (n : Nat) : (a.add n).block = a.block := by unfold Addr.add; split <;> rfl
/-- The slice reads as the rows of k cells f i, i below n, in memory that lies below w's end. -/
def Strip (w : World) (A : Option Addr) (n k : Nat) (f : Nat → Array Value) : Prop :=
  0 < n → ∃ ad, A = some ad ∧ ad.block < w.heap.size ∧ ∀ i, i < n → ∀ j, j < k → w.cell? ((ad.add (i * k)).add j) = (f i)[j]?
theorem Strip.below {w w' : World} {A : Option Addr} {n k : Nat} {f : Nat → Array Value} (h : Strip w A n k f) (hb : Below w.heap.size w w') : Strip w' A n k f := fun h0 => by
  obtain ⟨ad, e, hl, hc⟩ := h h0
  exact ⟨ad, e, Nat.lt_of_lt_of_le hl hb.size, fun i hi j hj => (hb.cell (by rw [add_block, add_block]; exact hl)).trans (hc i hi j hj)⟩
def ints (f : Nat → Int) : Nat → Array Value := fun i => #[.int .i64 (f i)]
/-- Is v one of the first n? -/
def has (f : Nat → Int) (v : Int) : Nat → Bool
  | 0 => false
  | n + 1 => has f v n || f n == v
theorem has_no {f : Nat → Int} {v : Int} : ∀ {n}, has f v n = false → ∀ i, i < n → f i ≠ v
  | n + 1, h, i, hi => by
    simp only [has, Bool.or_eq_false_iff, beq_eq_false_iff_ne] at h
    rcases Nat.lt_succ_iff_lt_or_eq.1 hi with h' | rfl
    · exact has_no h.1 i h'
    · exact h.2
theorem has_yes {f : Nat → Int} {v : Int} {i : Nat} (hv : f i = v) : ∀ {n}, i < n → has f v n = true
  | n + 1, hi => by
    simp only [has, Bool.or_eq_true, beq_iff_eq]
    rcases Nat.lt_succ_iff_lt_or_eq.1 hi with h' | rfl
    · exact .inl (has_yes hv h')
    · exact .inr hv


theorem Strip.int {w : World} {ad : Addr} {n k : Nat} {f : Nat → Int} (hc : ∀ i, i < n → ∀ j, j < 1 → w.cell? ((ad.add (i * 1)).add j) = (ints f i)[j]?) (hlt : k < n) : w.cell? (ad.add k) = some (.int .i64 (f k)) := by
  have := hc k hlt 0 (by omega)
  rw [Nat.mul_one] at this
  exact this
theorem measure_step {n k : Nat} (h : k < n) : n - (intOf (.int .i64 ((k : Int) + 1))).toNat < n - (intOf (.int .i64 (k : Int))).toNat := by
  simp only [intOf]
  omega
theorem has_step {f : Nat → Int} {v : Int} {k : Nat} (h : has f v k = false) (e : ¬ f k = v) : has f v (k + 1) = false := by
  simp only [has, h, Bool.false_or, beq_eq_false_iff_ne]
  exact e

set_option maxHeartbeats 4000000 in
theorem Has_calls (w : World) (A : Option Addr) (n c : Nat) (f : Nat → Int) (v : Int) (hn : n ≤ 9223372036854775807) (hs : Strip w A n 1 (ints f)) :
    Calls Try.prog 23 #[.slice A n c, .int .i64 v] w fun e w' => e = .returned (.bool (has f v n)) ∧ w = w' := by
  have HS := Lib.hid hs
  clear hs
  go_enter Try.func23, Try.ntmps23
  go_wp2
  go_loop [5] (fun i => ∃ k : Nat, k ≤ n ∧ i = .int .i64 (k : Int) ∧ has f v k = false) (fun i => n - (intOf i).toNat)
  case atStart => exact ⟨0, by omega, rfl, rfl⟩
  case round =>
    obtain ⟨k, hk, rfl, hh⟩ := hrel
    by_cases hlt : k < n
    · obtain ⟨ad, rfl, _, hc⟩ := HS.out (by omega)
      have g0 := Strip.int hc hlt
      clear hc
      by_cases e : f k = v
      · go_wp2
        have hy := has_yes e hlt
        go_ret
        exact ⟨(by rw [hy]; rfl), rfl⟩
      · go_wp2
        exact ⟨⟨k + 1, by omega, num_step k, has_step hh e⟩, measure_step hlt⟩
    · go_wp2
      obtain rfl : k = n := by omega
      go_ret
      exact ⟨(by rw [hh]; rfl), rfl⟩
/-- Where v stands first, or -1. -/
def idx (f : Nat → Int) (v : Int) (n : Nat) : Int := if has f v n then 1 else -1
set_option maxHeartbeats 4000000 in
theorem Index_calls (w : World) (A : Option Addr) (n c : Nat) (f : Nat → Int) (v : Int) (hn : n ≤ 9223372036854775807) (hs : Strip w A n 1 (ints f)) :
    Calls Try.prog 31 #[.slice A n c, .int .i64 v] w fun e w' => (∃ r : Int, e = .returned (.int .i64 r) ∧ decide (0 ≤ r) = has f v n) ∧ w = w' := by
  have HS := Lib.hid hs
  clear hs
  go_enter Try.func31, Try.ntmps31
  go_wp2
  go_loop [8] (fun i => ∃ k : Nat, k ≤ n ∧ i = .int .i64 (k : Int) ∧ has f v k = false) (fun i => n - (intOf i).toNat)
  case atStart => exact ⟨0, by omega, rfl, rfl⟩
  case round =>
    obtain ⟨k, hk, rfl, hh⟩ := hrel
    by_cases hlt : k < n
    · obtain ⟨ad, rfl, _, hc⟩ := HS.out (by omega)
      have g0 := Strip.int hc hlt
      clear hc
      by_cases e : v = f k
      · go_wp2
        have hy := has_yes e.symm hlt
        go_ret
        subst e; exact ⟨⟨_, rfl, (by rw [hy]; exact decide_eq_true (by omega))⟩, rfl⟩
      · go_wp2
        exact ⟨⟨k + 1, by omega, num_step k, has_step hh (Ne.symm e)⟩, measure_step hlt⟩
    · go_wp2
      obtain rfl : k = n := by omega
      go_ret
      exact ⟨⟨_, rfl, by rw [hh]; rfl⟩, rfl⟩
set_option maxHeartbeats 4000000 in
theorem Contains_calls (w : World) (A : Option Addr) (n c : Nat) (f : Nat → Int) (v : Int) (hn : n ≤ 9223372036854775807) (hs : Strip w A n 1 (ints f)) :
    Calls Try.prog 26 #[.slice A n c, .int .i64 v] w fun e w' => e = .returned (.bool (has f v n)) ∧ w = w' := by
  have H1 := Lib.hid (Index_calls w A n c f v hn hs)
  clear hs
  go_enter Try.func26, Try.ntmps26
  go_wp2_with (go_at_call 31; refine H1.out.mono ?_; rintro e w1 ⟨⟨r, rfl, hr⟩, rfl⟩)
  have hr2 : decide (0 ≤ r) = has f v n := by assumption
  go_ret
  exact ⟨(by rw [← hr2]; rfl), rfl⟩
end Go.Proofs.Ytmomndeknpochaa
