/- Plain facts on the bits of two 32-bit numbers: when a number has all bits of another one, and when two numbers have a bit in common. No program in sight. -/
import Derived.Laws.BitsAllLaws
import Derived.Laws.BitsLemmas
import Derived.RowKit
import Derived.Laws.Wrap64
namespace Go.Proofs.Yteaipeejhippiaa.PBits
open Go.RowKit

/-- b has all bits of a. -/
def Sub (a b : Int) : Prop := ∀ i, a.toNat.testBit i = true → b.toNat.testBit i = true
/-- a and b have a bit in common. -/
def Com (a b : Int) : Prop := ∃ i, a.toNat.testBit i = true ∧ b.toNat.testBit i = true

theorem Sub.refl (a : Int) : Sub a a := fun _ h => h
theorem Sub.trans {a b c : Int} (h : Sub a b) (k : Sub b c) : Sub a c := fun i hi => k i (h i hi)
theorem Com.left {a b c : Int} (h : Com a c) (k : Sub a b) : Com b c := by
  obtain ⟨i, h1, h2⟩ := h
  exact ⟨i, k i h1, h2⟩
theorem Sub.zero (b : Int) : Sub 0 b := fun i hi => by simp at hi
theorem not_Com_zero (b : Int) : ¬ Com 0 b := fun ⟨i, hi, _⟩ => by simp at hi

theorem andNot_zero {a b : Int} (h1 : 0 ≤ a) (h2 : a < 4294967296) (h3 : 0 ≤ b) (h4 : b < 4294967296) : Go.bits .andNot .u32 a b = 0 ↔ Sub a b := by
  rw [u32_andNot a b h1 h2 h3 h4]
  have hb : b.toNat < 2 ^ 32 := by omega
  have ha : a.toNat < 2 ^ 32 := by omega
  have e : 4294967295 - b.toNat = 2 ^ 32 - (b.toNat + 1) := by omega
  rw [e]
  constructor
  · intro h i hi
    have h0 : a.toNat &&& (2 ^ 32 - (b.toNat + 1)) = 0 := by omega
    have h5 : (a.toNat &&& (2 ^ 32 - (b.toNat + 1))).testBit i = false := by rw [h0]; simp
    rw [Nat.testBit_and, Nat.testBit_two_pow_sub_succ hb, hi] at h5
    have h6 : i < 32 := by
      rcases Nat.lt_or_ge i 32 with h | h
      · exact h
      · rw [Nat.testBit_lt_two_pow (Nat.lt_of_lt_of_le ha (Nat.pow_le_pow_right (by omega) h))] at hi
        cases hi
    simpa [h6] using h5
  · intro h
    have h0 : a.toNat &&& (2 ^ 32 - (b.toNat + 1)) = 0 := by
      apply Nat.eq_of_testBit_eq
      intro i
      rw [Nat.testBit_and, Nat.testBit_two_pow_sub_succ hb]
      cases hi : a.toNat.testBit i with
      | false => simp
      | true => simp [h i hi]
    omega

theorem and_zero {a b : Int} (h1 : 0 ≤ a) (h2 : a < 4294967296) (h3 : 0 ≤ b) (h4 : b < 4294967296) : Go.bits .and .u32 a b = 0 ↔ ¬ Com a b := by
  rw [u32_and a b h1 h2 h3 h4]
  constructor
  · rintro h ⟨i, hi, hj⟩
    have h0 : a.toNat &&& b.toNat = 0 := by omega
    have h5 : (a.toNat &&& b.toNat).testBit i = false := by rw [h0]; simp
    rw [Nat.testBit_and, hi, hj] at h5
    cases h5
  · intro h
    have h0 : a.toNat &&& b.toNat = 0 := by
      apply Nat.eq_of_testBit_eq
      intro i
      rw [Nat.testBit_and]
      cases hi : a.toNat.testBit i with
      | false => simp
      | true =>
        cases hj : b.toNat.testBit i with
        | false => simp
        | true => exact absurd ⟨i, hi, hj⟩ h
    omega

theorem or_range {a b : Int} (h1 : 0 ≤ a) (h2 : a < 4294967296) (h3 : 0 ≤ b) (h4 : b < 4294967296) : 0 ≤ Go.bits .or .u32 a b ∧ Go.bits .or .u32 a b < 4294967296 ∧ Sub a (Go.bits .or .u32 a b) := by
  rw [u32_or a b h1 h2 h3 h4]
  have hx : a.toNat ||| b.toNat < 2 ^ 32 := Nat.or_lt_two_pow (by omega) (by omega)
  refine ⟨by omega, by omega, fun i hi => ?_⟩
  simp [hi]

/-- A bit further. -/
theorem sub_step {a b : Nat} : Sub (a : Int) (b : Int) ↔ (a % 2 = 1 → b % 2 = 1) ∧ Sub ((a / 2 : Nat) : Int) ((b / 2 : Nat) : Int) := by
  unfold Sub
  simp only [Int.toNat_natCast]
  constructor
  · intro h
    refine ⟨fun h1 => ?_, fun i hi => ?_⟩
    · have := h 0
      simpa [h1, Nat.testBit_zero] using this
    · have := h (i + 1)
      rw [Nat.testBit_succ, Nat.testBit_succ] at this
      exact this hi
  · rintro ⟨h0, h⟩ i hi
    cases i with
    | zero =>
      rw [Nat.testBit_zero] at hi ⊢
      simpa using h0 (by simpa using hi)
    | succ i =>
      rw [Nat.testBit_succ] at hi ⊢
      exact h i hi
theorem com_step {a b : Nat} : Com (a : Int) (b : Int) ↔ (a % 2 = 1 ∧ b % 2 = 1) ∨ Com ((a / 2 : Nat) : Int) ((b / 2 : Nat) : Int) := by
  unfold Com
  simp only [Int.toNat_natCast]
  constructor
  · rintro ⟨i, hi, hj⟩
    cases i with
    | zero =>
      rw [Nat.testBit_zero] at hi hj
      exact .inl ⟨by simpa using hi, by simpa using hj⟩
    | succ i =>
      rw [Nat.testBit_succ] at hi hj
      exact .inr ⟨i, hi, hj⟩
  · rintro (⟨h, k⟩ | ⟨i, hi, hj⟩)
    · exact ⟨0, by simp [Nat.testBit_zero, h], by simp [Nat.testBit_zero, k]⟩
    · exact ⟨i + 1, by rw [Nat.testBit_succ]; exact hi, by rw [Nat.testBit_succ]; exact hj⟩

theorem tmod2 (n : Nat) : Int.tmod (n : Int) 2 = ((n % 2 : Nat) : Int) := by
  rw [Int.tmod_eq_emod_of_nonneg (by omega)]
  omega
theorem tdiv2 (n : Nat) (h : n < 4294967296) : Int.tdiv (n : Int) 2 % 4294967296 = ((n / 2 : Nat) : Int) := by
  rw [Int.tdiv_eq_ediv_of_nonneg (by omega)]
  omega
theorem wrap_i {i : Nat} (h : i < 32) : wrap64 ((i : Int) + 1) = ((i + 1 : Nat) : Int) := by
  unfold wrap64
  omega

/-- The document's loop, bit by bit: has b all bits of a? Any function that goes on like this answers 'Sub'. -/
theorem within_tells (l : Nat → Int → Int → Int → Option Bool)
    (hl : ∀ k x y i, l (k + 1) x y i = if i < 32 then (if (Int.tmod x 2) = 1 then (if (Int.tmod y 2) = 0 then (some false) else (l k ((Int.tdiv x 2) % 4294967296) ((Int.tdiv y 2) % 4294967296) (wrap64 (i + 1)))) else (l k ((Int.tdiv x 2) % 4294967296) ((Int.tdiv y 2) % 4294967296) (wrap64 (i + 1)))) else (some true))
    (d : Nat) : ∀ (k a b i : Nat), i + d = 32 → a < 2 ^ d → a < 4294967296 → b < 4294967296 → d < k → ∃ r, l k (a : Int) (b : Int) (i : Int) = some r ∧ (r = true ↔ Sub (a : Int) (b : Int)) := by
  induction d with
  | zero =>
    intro k a b i hd ha _ _ hk
    obtain ⟨k, rfl⟩ : ∃ m, k = m + 1 := ⟨k - 1, by omega⟩
    have ha0 : a = 0 := by simpa using ha
    subst ha0
    refine ⟨true, ?_, by simpa using Sub.zero _⟩
    rw [hl, if_neg (by omega)]
  | succ d ih =>
    intro k a b i hd ha ha' hb hk
    obtain ⟨k, rfl⟩ : ∃ m, k = m + 1 := ⟨k - 1, by omega⟩
    rw [hl, if_pos (by omega), tmod2, tmod2, tdiv2 a ha', tdiv2 b hb, wrap_i (by omega)]
    have h2 : a / 2 < 2 ^ d := by rw [Nat.pow_succ] at ha; omega
    obtain ⟨r, hr, hs⟩ := ih k (a / 2) (b / 2) (i + 1) (by omega) h2 (by omega) (by omega) (by omega)
    by_cases h1 : a % 2 = 1
    · rw [if_pos (by omega)]
      by_cases h3 : b % 2 = 0
      · rw [if_pos (by omega)]
        refine ⟨false, rfl, ?_⟩
        rw [sub_step]
        constructor
        · intro h; cases h
        · rintro ⟨h, _⟩
          have := h h1
          omega
      · rw [if_neg (by omega)]
        refine ⟨r, hr, ?_⟩
        rw [hs, sub_step (a := a)]
        constructor
        · intro h; exact ⟨fun _ => by omega, h⟩
        · intro h; exact h.2
    · rw [if_neg (by omega)]
      refine ⟨r, hr, ?_⟩
      rw [hs, sub_step (a := a)]
      constructor
      · intro h; exact ⟨fun h => absurd h h1, h⟩
      · intro h; exact h.2

/-- The document's loop, bit by bit: have two numbers a bit in common? -/
theorem common_tells (l : Nat → Int → Int → Int → Option Bool)
    (hl : ∀ k x y i, l (k + 1) x y i = if i < 32 then (if (Int.tmod x 2) = 1 then (if (Int.tmod y 2) = 1 then (some true) else (l k ((Int.tdiv x 2) % 4294967296) ((Int.tdiv y 2) % 4294967296) (wrap64 (i + 1)))) else (l k ((Int.tdiv x 2) % 4294967296) ((Int.tdiv y 2) % 4294967296) (wrap64 (i + 1)))) else (some false))
    (d : Nat) : ∀ (k a b i : Nat), i + d = 32 → a < 2 ^ d → a < 4294967296 → b < 4294967296 → d < k → ∃ r, l k (a : Int) (b : Int) (i : Int) = some r ∧ (r = true ↔ Com (a : Int) (b : Int)) := by
  induction d with
  | zero =>
    intro k a b i hd ha _ _ hk
    obtain ⟨k, rfl⟩ : ∃ m, k = m + 1 := ⟨k - 1, by omega⟩
    have ha0 : a = 0 := by simpa using ha
    subst ha0
    refine ⟨false, ?_, by simpa using not_Com_zero _⟩
    rw [hl, if_neg (by omega)]
  | succ d ih =>
    intro k a b i hd ha ha' hb hk
    obtain ⟨k, rfl⟩ : ∃ m, k = m + 1 := ⟨k - 1, by omega⟩
    rw [hl, if_pos (by omega), tmod2, tmod2, tdiv2 a ha', tdiv2 b hb, wrap_i (by omega)]
    have h2 : a / 2 < 2 ^ d := by rw [Nat.pow_succ] at ha; omega
    obtain ⟨r, hr, hs⟩ := ih k (a / 2) (b / 2) (i + 1) (by omega) h2 (by omega) (by omega) (by omega)
    by_cases h1 : a % 2 = 1
    · rw [if_pos (by omega)]
      by_cases h3 : b % 2 = 1
      · rw [if_pos (by omega)]
        refine ⟨true, rfl, ?_⟩
        rw [com_step]
        simp [h1, h3]
      · rw [if_neg (by omega)]
        refine ⟨r, hr, ?_⟩
        rw [hs, com_step (a := a)]
        simp [h3]
    · rw [if_neg (by omega)]
      refine ⟨r, hr, ?_⟩
      rw [hs, com_step (a := a)]
      simp [h1]
end Go.Proofs.Yteaipeejhippiaa.PBits
