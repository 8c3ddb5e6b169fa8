/- When a route is better than another one: the cost, the number of its nodes, their names. -/
import Derived.Test.YteaipeejhippiaaQSmall
import Derived.Test.YteaipeejhippiaaOwn
import Derived.Deep.DeepCutAuto
namespace Go.Proofs.Yteaipeejhippiaa
open Go.RowKit
attribute [local go_sem] cell_set_self
set_option linter.unusedVariables false

def intRow (f : Nat → Int) : Nat → Array Value := fun i => #[.int .i64 (f i)]
def cmpI (a b : Int) : Int := if a < b then -1 else if b < a then 1 else 0
def lexI (f g : Nat → Int) : Nat → Nat → Int
  | _, 0 => 0
  | k, n + 1 => if cmpI (f k) (g k) = 0 then lexI f g (k + 1) n else cmpI (f k) (g k)
theorem lexI_stop {f g : Nat → Int} : ∀ {n k i : Nat}, k ≤ i → i < k + n → (∀ j, k ≤ j → j < i → cmpI (f j) (g j) = 0) → cmpI (f i) (g i) ≠ 0 → lexI f g k n = cmpI (f i) (g i)
  | 0, k, i, h1, h2, _, _ => by omega
  | n + 1, k, i, h1, h2, h3, h4 => by
    unfold lexI
    by_cases e : k = i
    · subst e; rw [if_neg h4]
    · rw [if_pos (h3 k (Nat.le_refl _) (by omega))]
      exact lexI_stop (by omega) (by omega) (fun j hj hj2 => h3 j (by omega) hj2) h4
theorem lexI_same {f g : Nat → Int} : ∀ {n k : Nat}, (∀ j, k ≤ j → j < k + n → cmpI (f j) (g j) = 0) → lexI f g k n = 0
  | 0, _, _ => rfl
  | n + 1, k, h => by
    unfold lexI
    rw [if_pos (h k (Nat.le_refl _) (by omega))]
    exact lexI_same fun j hj hj2 => h j (by omega) (by omega)
theorem isNaN_calls (a : Int) (w : World) : Calls Try.prog 67 #[.int .i64 a] w fun e w' => e = .returned (.bool false) ∧ w = w' := by
  go_enter Try.func67, Try.ntmps67
  go_wp2
  go_ret
  exact ⟨rfl, rfl⟩
set_option maxHeartbeats 4000000 in
theorem cmp_calls (a b : Int) (w : World) : Calls Try.prog 60 #[.int .i64 a, .int .i64 b] w fun e w' => e = .returned (.int .i64 (cmpI a b)) ∧ w = w' := by
  by_cases h1 : a < b
  · have e1 : cmpI a b = -1 := if_pos h1
    rw [e1]
    clear e1
    go_enter Try.func60, Try.ntmps60
    go_wp2_with (first | (go_at_call 67; refine (isNaN_calls a _).mono ?_; rintro e w1 ⟨rfl, rfl⟩) | (go_at_call 67; refine (isNaN_calls b _).mono ?_; rintro e w1 ⟨rfl, rfl⟩))
    go_ret
    exact ⟨rfl, rfl⟩
  · by_cases h2 : b < a
    · have e1 : cmpI a b = 1 := by unfold cmpI; rw [if_neg h1, if_pos h2]
      rw [e1]
      clear e1
      go_enter Try.func60, Try.ntmps60
      go_wp2_with (first | (go_at_call 67; refine (isNaN_calls a _).mono ?_; rintro e w1 ⟨rfl, rfl⟩) | (go_at_call 67; refine (isNaN_calls b _).mono ?_; rintro e w1 ⟨rfl, rfl⟩))
      go_ret
      exact ⟨rfl, rfl⟩
    · have e1 : cmpI a b = 0 := by unfold cmpI; rw [if_neg h1, if_neg h2]
      rw [e1]
      clear e1
      go_enter Try.func60, Try.ntmps60
      go_wp2_with (first | (go_at_call 67; refine (isNaN_calls a _).mono ?_; rintro e w1 ⟨rfl, rfl⟩) | (go_at_call 67; refine (isNaN_calls b _).mono ?_; rintro e w1 ⟨rfl, rfl⟩))
      go_ret
      exact ⟨rfl, rfl⟩
theorem Strip.num {w : World} {A : Option Addr} {n k : Nat} {f : Nat → Int} (h : Strip w A n 1 (intRow f)) (hk : k < n) : ∃ ad, A = some ad ∧ ad.block < w.heap.size ∧ ∀ w', Below w.heap.size w w' → w'.cell? (ad.add k) = some (.int .i64 (f k)) := by
  obtain ⟨ad, e, hl, hc⟩ := h (by omega)
  refine ⟨ad, e, hl, fun w' hb => ?_⟩
  have h2 := hc k hk 0 (by omega)
  rw [Nat.mul_one] at h2
  exact (hb.cell (p := ad.add k) (by rw [add_block]; exact hl)).trans h2
set_option maxHeartbeats 8000000 in
theorem Compare_calls (w : World) (A B : Option Addr) (n c d : Nat) (f g : Nat → Int) (hn : n ≤ 9223372036854775807) (h1 : Strip w A n 1 (intRow f)) (h2 : Strip w B n 1 (intRow g)) : Calls Try.prog 48 #[.slice A n c, .slice B n d] w fun e w' => e = .returned (.int .i64 (lexI f g 0 n)) ∧ Below w.heap.size w w' := by
  have H1 := Lib.hid h1
  have H2 := Lib.hid h2
  have hn5 : n ≤ 9223372036854775807 := hn
  clear h1 h2 hn
  go_enter Try.func48, Try.ntmps48
  go_wp2
  go_loopw [11] (fun i wr => ∃ k : Nat, k ≤ n ∧ i = .int .i64 (k : Int) ∧ (∀ j, j < k → cmpI (f j) (g j) = 0) ∧ Below w.heap.size w wr) (fun i _ => n - (intOf i).toNat)
  case atStart => exact ⟨0, by omega, rfl, fun j hj => by omega, Below.refl _ _⟩
  case round =>
    obtain ⟨k, hk, rfl, hj, hb⟩ := hrel
    have HJ := Lib.hid hj
    have HB := Lib.hid hb
    have hws := hb.size
    clear hj hb
    by_cases hlt : k < n
    · have i0 : (0 : Int) ≤ (k : Int) := by omega
      have i1 : (k : Int) < (n : Int) := by omega
      have i2 : ¬ ((n : Int) ≤ (k : Int)) := by omega
      obtain ⟨ad, rfl, hadb, g1⟩ := H1.out.num hlt
      obtain ⟨bd, rfl, hbdb, g2⟩ := H2.out.num hlt
      have c1 := g1 wr HB.out
      have c2 := g2 wr HB.out
      clear g1 g2
      by_cases hz : cmpI (f k) (g k) = 0
      · have HC := Lib.hid fun (w' : World) => (show Calls Try.prog 60 #[.int .i64 (f k), .int .i64 (g k)] w' fun e w'' => e = .returned (.int .i64 0) ∧ w' = w'' from by rw [← hz]; exact cmp_calls (f k) (g k) w')
        have HK := Lib.hid hz
        clear hz
        go_wp2_with (go_at_call 60; (with_reducible refine (HC.out _).mono ?_); rintro e w1 ⟨rfl, rfl⟩)
        go_roundw
        case rel => exact ⟨k + 1, by omega, num_step k, fun j hj => by
          by_cases e : j = k
          · subst e; exact HK.out
          · exact HJ.out j (by omega), HB.out⟩
        case measure => exact measure_step hlt
      · obtain ⟨r, hr⟩ : ∃ r, r = cmpI (f k) (g k) := ⟨_, rfl⟩
        have HC := Lib.hid fun (w' : World) => (show Calls Try.prog 60 #[.int .i64 (f k), .int .i64 (g k)] w' fun e w'' => e = .returned (.int .i64 r) ∧ w' = w'' from by rw [hr]; exact cmp_calls (f k) (g k) w')
        have HK := Lib.hid hz
        have HR := Lib.hid hr
        have hr0 : ¬ (r = 0) := by rw [hr]; exact hz
        clear hz hr
        go_wp2_with (go_at_call 60; (with_reducible refine (HC.out _).mono ?_); rintro e w1 ⟨rfl, rfl⟩)
        go_ret
        exact ⟨by rw [HR.out, lexI_stop (Nat.zero_le k) (by omega) (fun j _ => HJ.out j) HK.out]; rfl, HB.out⟩
    · obtain rfl : n = k := by omega
      go_wp2
      go_ret
      exact ⟨by rw [lexI_same (fun j _ hj => HJ.out j (by omega))]; rfl, HB.out⟩
/-- Is a route better than another one? -/
def betB (x : Int) (n : Nat) (f : Nat → Int) (y : Int) (m : Nat) (g : Nat → Int) : Bool := if x = y then if n = m then decide (lexI f g 0 n < 0) else decide (n < m) else decide (x < y)
set_option maxHeartbeats 8000000 in
theorem Better_calls (w : World) (x y : Int) (A B : Option Addr) (n m c d : Nat) (f g : Nat → Int) (hn : n ≤ 9223372036854775807) (h1 : Strip w A n 1 (intRow f)) (h2 : Strip w B m 1 (intRow g)) : Calls Try.prog 31 #[.int .i64 x, .slice A n c, .int .i64 y, .slice B m d] w fun e w' => e = .returned (.bool (betB x n f y m g)) ∧ Below w.heap.size w w' := by
  by_cases hxy : x = y
  · subst hxy
    by_cases hnm : n = m
    · subst hnm
      have e1 : betB x n f x n g = decide (lexI f g 0 n < 0) := by unfold betB; rw [if_pos rfl, if_pos rfl]
      rw [e1]
      have HC := Lib.hid (Compare_calls w A B n c d f g hn h1 h2)
      generalize lexI f g 0 n = r at HC
      clear h1 h2 e1 hn
      go_enter Try.func31, Try.ntmps31
      go_wp2_with (go_at_call 48; (with_reducible refine HC.out.mono ?_); rintro e w1 ⟨rfl, hb⟩)
      go_ret
      exact ⟨rfl, hb⟩
    · have e1 : betB x n f x m g = decide (n < m) := by unfold betB; rw [if_pos rfl, if_neg hnm]
      rw [e1]
      have hnm2 : ¬ ((n : Int) = (m : Int)) := by omega
      clear h1 h2 e1 hn hnm
      go_enter Try.func31, Try.ntmps31
      go_wp2
      go_ret
      exact ⟨rfl, Below.refl _ _⟩
  · have e1 : betB x n f y m g = decide (x < y) := by unfold betB; rw [if_neg hxy]
    rw [e1]
    clear h1 h2 e1 hn
    go_enter Try.func31, Try.ntmps31
    go_wp2
    go_ret
    exact ⟨rfl, Below.refl _ _⟩
end Go.Proofs.Yteaipeejhippiaa
