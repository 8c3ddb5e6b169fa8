/- Plain words on ledgers: the sum of two numbers of 64 bits, the sum of what is held, what is free. No program in sight. -/
import Derived.RowKit
namespace Go.Proofs.Ytmomndeknpochaa.Plain

/-- Is the sum of two numbers one of 64 bits? -/
def addOk (a b : Int) : Bool := decide (a + b < 18446744073709551616)
/-- The sum, or 0. -/
def addN (a b : Int) : Int := if a + b < 18446744073709551616 then a + b else 0

theorem addOk_yes {a b : Int} (h : a + b < 18446744073709551616) : addOk a b = true := decide_eq_true h
theorem addOk_no {a b : Int} (h : ¬ a + b < 18446744073709551616) : addOk a b = false := decide_eq_false h
theorem addN_yes {a b : Int} (h : a + b < 18446744073709551616) : addN a b = a + b := if_pos h
theorem addN_no {a b : Int} (h : ¬ a + b < 18446744073709551616) : addN a b = 0 := if_neg h

/-- What is held at the priorities below k. -/
def sumTo (h : Nat → Int) : Nat → Int
  | 0 => 0
  | k + 1 => sumTo h k + h k
theorem sumTo_succ (h : Nat → Int) (k : Nat) : sumTo h (k + 1) = sumTo h k + h k := rfl
/-- Each is a number of 64 bits. -/
def Nums (h : Nat → Int) : Prop := ∀ k, k < 8 → 0 ≤ h k ∧ h k < 18446744073709551616
theorem sumTo_nonneg {h : Nat → Int} (hh : Nums h) : ∀ k, k ≤ 8 → 0 ≤ sumTo h k := by
  intro k
  induction k with
  | zero => intro _; exact Int.le_refl _
  | succ k ih =>
    intro hk
    have := ih (by omega)
    have := (hh k (by omega)).1
    rw [sumTo_succ]
    omega
theorem sumTo_mono {h : Nat → Int} (hh : Nums h) {i : Nat} : ∀ k, i ≤ k → k ≤ 8 → sumTo h i ≤ sumTo h k := by
  intro k
  induction k with
  | zero => intro h1 _; obtain rfl : i = 0 := by omega
            exact Int.le_refl _
  | succ k ih =>
    intro h1 hk
    rcases Nat.lt_or_ge i (k + 1) with hlt | hge
    · have := ih (by omega) (by omega)
      have := (hh k (by omega)).1
      rw [sumTo_succ]
      omega
    · obtain rfl : i = k + 1 := by omega
      exact Int.le_refl _
/-- Is what is held below k a number of 64 bits? -/
def uptoOk (h : Nat → Int) (k : Nat) : Bool := decide (sumTo h k < 18446744073709551616)
/-- That number, or 0. -/
def uptoN (h : Nat → Int) (k : Nat) : Int := if sumTo h k < 18446744073709551616 then sumTo h k else 0
theorem uptoOk_yes {h : Nat → Int} {k : Nat} (c : sumTo h k < 18446744073709551616) : uptoOk h k = true := decide_eq_true c
theorem uptoOk_no {h : Nat → Int} {k : Nat} (c : ¬ sumTo h k < 18446744073709551616) : uptoOk h k = false := decide_eq_false c
theorem uptoN_yes {h : Nat → Int} {k : Nat} (c : sumTo h k < 18446744073709551616) : uptoN h k = sumTo h k := if_pos c
theorem uptoN_no {h : Nat → Int} {k : Nat} (c : ¬ sumTo h k < 18446744073709551616) : uptoN h k = 0 := if_neg c
/-- Where a part is none of 64 bits, the whole is none. -/
theorem upto_over {h : Nat → Int} (hh : Nums h) {i k : Nat} (hk : i ≤ k) (h8 : k ≤ 8) (c : ¬ sumTo h i < 18446744073709551616) : uptoOk h k = false ∧ uptoN h k = 0 := by
  have := sumTo_mono hh k hk h8
  exact ⟨uptoOk_no (by omega), uptoN_no (by omega)⟩
/-- Is no more held than there is? -/
def rightB (c : Int) (h : Nat → Int) : Bool := decide (sumTo h 8 ≤ c)
theorem right_yes {c : Int} {h : Nat → Int} (r : sumTo h 8 ≤ c) : rightB c h = true := decide_eq_true r
theorem right_no {c : Int} {h : Nat → Int} (r : ¬ sumTo h 8 ≤ c) : rightB c h = false := decide_eq_false r
/-- What is free for the priority k. -/
def freeN (c : Int) (h : Nat → Int) (k : Nat) : Int := if sumTo h (k + 1) ≤ c then c - sumTo h (k + 1) else 0
theorem free_yes {c : Int} {h : Nat → Int} {k : Nat} (r : sumTo h (k + 1) ≤ c) : freeN c h k = c - sumTo h (k + 1) := if_pos r
theorem free_no {c : Int} {h : Nat → Int} {k : Nat} (r : ¬ sumTo h (k + 1) ≤ c) : freeN c h k = 0 := if_neg r
/-- One of the eight numbers is another one. -/
def setAt (h : Nat → Int) (p : Nat) (n : Int) : Nat → Int := fun k => if k = p then n else h k
theorem setAt_same (h : Nat → Int) (p : Nat) (n : Int) : setAt h p n p = n := if_pos rfl
theorem setAt_other (h : Nat → Int) {p k : Nat} (n : Int) (hk : k ≠ p) : setAt h p n k = h k := if_neg hk
theorem le_sumTo {h : Nat → Int} (hh : Nums h) {p : Nat} (hp : p < 8) : h p ≤ sumTo h 8 := by
  have h1 := sumTo_mono hh (i := p + 1) 8 (by omega) (by omega)
  have h2 := sumTo_nonneg hh p (by omega)
  rw [sumTo_succ] at h1
  omega
theorem setAt_nums {h : Nat → Int} {p : Nat} {n : Int} (hh : Nums h) (h0 : 0 ≤ n) (h1 : n < 18446744073709551616) : Nums (setAt h p n) := by
  intro k hk
  unfold setAt
  split
  · exact ⟨h0, h1⟩
  · exact hh k hk
theorem sumTo_setAt (h : Nat → Int) (p : Nat) (n : Int) : ∀ k, sumTo (setAt h p n) k = if p < k then sumTo h k + (n - h p) else sumTo h k := by
  intro k
  induction k with
  | zero => simp [sumTo]
  | succ k ih =>
    rw [sumTo_succ, sumTo_succ, ih]
    unfold setAt
    by_cases h1 : k = p
    · subst h1
      rw [if_neg (by omega), if_pos rfl, if_pos (by omega)]
      omega
    · rw [if_neg h1]
      by_cases h2 : p < k
      · rw [if_pos h2, if_pos (by omega)]
        omega
      · rw [if_neg h2, if_neg (by omega)]
end Go.Proofs.Ytmomndeknpochaa.Plain
