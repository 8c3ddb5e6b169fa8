/- Numbers as bytes, the highest byte first: in plain numbers. -/
import Derived.Test.YteaipeejhippiaaFApply
namespace Go.Proofs.Yteaipeejhippiaa
open Go.RowKit
set_option linter.unusedVariables false

/-- Byte i of the n bytes of u. -/
def dig (u : Int) (n i : Nat) : Int := (u / 2 ^ (8 * (n - 1 - i))) % 256
/-- The number of the first n bytes. -/
def num (f : Nat → Int) : Nat → Int
  | 0 => 0
  | k + 1 => num f k * 256 + f k
theorem dig_lo (u : Int) (n i : Nat) : 0 ≤ dig u n i ∧ dig u n i < 256 := ⟨Int.emod_nonneg _ (by decide), Int.emod_lt_of_pos _ (by decide)⟩
theorem pow8 (j : Nat) : (2 : Int) ^ (8 * (j + 1)) = 2 ^ (8 * j) * 256 := by rw [Nat.mul_add, Int.pow_add]; rfl
theorem pow8_pos (j : Nat) : (0 : Int) < 2 ^ (8 * j) := Int.pow_pos (by decide)
theorem num_dig {u : Int} {n : Nat} (h0 : 0 ≤ u) (h1 : u < 2 ^ (8 * n)) : ∀ k, k ≤ n → num (dig u n) k = u / 2 ^ (8 * (n - k))
  | 0, _ => by
    rw [num, Nat.sub_zero, Int.ediv_eq_zero_of_lt h0 h1]
  | k + 1, hk => by
    rw [num, num_dig h0 h1 k (by omega), dig]
    have e1 : n - k = (n - 1 - k) + 1 := by omega
    have e2 : n - (k + 1) = n - 1 - k := by omega
    rw [e1, e2, pow8, ← Int.ediv_ediv_of_nonneg (Int.le_of_lt (pow8_pos _))]
    omega
theorem num_all {u : Int} {n : Nat} (h0 : 0 ≤ u) (h1 : u < 2 ^ (8 * n)) : num (dig u n) n = u := by
  rw [num_dig h0 h1 n (Nat.le_refl n), Nat.sub_self]
  simp
theorem num_congr {f g : Nat → Int} : ∀ {n : Nat}, (∀ i, i < n → f i = g i) → num f n = num g n
  | 0, _ => rfl
  | n + 1, h => by rw [num, num, num_congr fun i hi => h i (by omega), h n (by omega)]
theorem num_bound {f : Nat → Int} : ∀ n, (∀ i, i < n → 0 ≤ f i ∧ f i < 256) → 0 ≤ num f n ∧ num f n < 2 ^ (8 * n)
  | 0, _ => by simp [num]
  | n + 1, h => by
    have h1 := num_bound n fun i hi => h i (by omega)
    have h2 := h n (by omega)
    rw [num, pow8]
    omega
/-- m of the one, and then the other. -/
def cat (f : Nat → Int) (m : Nat) (g : Nat → Int) : Nat → Int := fun i => if i < m then f i else g (i - m)
def byteRow (f : Nat → Int) : Nat → Array Value := fun i => #[.int .u8 (f i)]
end Go.Proofs.Yteaipeejhippiaa
