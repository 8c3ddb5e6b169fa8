/- Small functions of the routes: is a node on a way, is it a node, are two routes the same, is a question right that asks nothing. -/
import Derived.Test.YteaipeejhippiaaPBet
namespace Go.Proofs.Yteaipeejhippiaa
open Go.RowKit
attribute [local go_sem] cell_set_self
set_option linter.unusedVariables false

/-- Is x one of the first n numbers? -/
def hasB (f : Nat → Int) (x : Int) (n : Nat) : Bool := decide (∃ j, j < n ∧ f j = x)
set_option maxHeartbeats 8000000 in
theorem has_calls (w : World) (A : Option Addr) (n c : Nat) (f : Nat → Int) (x : Int) (hn : n ≤ 9223372036854775807) (h : Strip w A n 1 (intRow f)) : Calls Try.prog 47 #[.slice A n c, .int .i64 x] w fun e w' => e = .returned (.bool (hasB f x n)) ∧ Below w.heap.size w w' := by
  have H1 := Lib.hid h
  have hn5 : n ≤ 9223372036854775807 := hn
  clear h hn
  go_enter Try.func47, Try.ntmps47
  go_wp2
  go_loopw [9] (fun i wr => ∃ k : Nat, k ≤ n ∧ i = .int .i64 (k : Int) ∧ (∀ j, j < k → f j ≠ x) ∧ Below w.heap.size w wr) (fun i _ => n - (intOf i).toNat)
  case atStart => exact ⟨0, by omega, rfl, fun j hj => by omega, Below.refl _ _⟩
  case round =>
    obtain ⟨k, hk, rfl, hj, hb⟩ := hrel
    have HJ := Lib.hid hj
    have HB := Lib.hid hb
    have hws := hb.size
    clear hj hb
    by_cases hlt : k < n
    · have i0 : (0 : Int) ≤ (k : Int) := by omega
      have i1 : (k : Int) < (n : Int) := by omega
      obtain ⟨ad, rfl, hadb, g1⟩ := H1.out.num hlt
      have c1 := g1 wr HB.out
      clear g1
      by_cases hz : f k = x
      · have HK := Lib.hid hz
        go_wp2
        go_ret
        exact ⟨by rw [show hasB f x n = true from decide_eq_true ⟨k, hlt, HK.out⟩]; rfl, HB.out⟩
      · have HK := Lib.hid hz
        go_wp2
        go_roundw
        case rel => exact ⟨k + 1, by omega, num_step k, fun j hj => by
          by_cases e : j = k
          · subst e; exact HK.out
          · exact HJ.out j (by omega), HB.out⟩
        case measure => exact measure_step hlt
    · obtain rfl : n = k := by omega
      go_wp2
      go_ret
      exact ⟨by rw [show hasB f x n = false from decide_eq_false (fun ⟨j, h1, h2⟩ => HJ.out j h1 h2)]; rfl, HB.out⟩
set_option maxHeartbeats 8000000 in
/-- Routes of one length are the same exactly where each node is. -/
theorem Ints_calls (w : World) (A B : Option Addr) (n c d : Nat) (f g : Nat → Int) (hn : n ≤ 9223372036854775807) (h1 : Strip w A n 1 (intRow f)) (h2 : Strip w B n 1 (intRow g)) (hfg : ∀ i, i < n → f i = g i) : Calls Try.prog 13 #[.slice A n c, .slice B n d] w fun e w' => e = .returned (.bool true) ∧ Below w.heap.size w w' := by
  have H1 := Lib.hid h1
  have H2 := Lib.hid h2
  have HE := Lib.hid hfg
  have hn5 : n ≤ 9223372036854775807 := hn
  clear h1 h2 hn hfg
  go_enter Try.func13, Try.ntmps13
  go_wp2
  go_loopw [5] (fun i wr => ∃ k : Nat, k ≤ n ∧ i = .int .i64 (k : Int) ∧ Below w.heap.size w wr) (fun i _ => n - (intOf i).toNat)
  case atStart => exact ⟨0, by omega, rfl, Below.refl _ _⟩
  case round =>
    obtain ⟨k, hk, rfl, hb⟩ := hrel
    have HB := Lib.hid hb
    have hws := hb.size
    clear hb
    by_cases hlt : k < n
    · have i0 : (0 : Int) ≤ (k : Int) := by omega
      have i1 : (k : Int) < (n : Int) := by omega
      obtain ⟨ad, rfl, hadb, g1⟩ := H1.out.num hlt
      obtain ⟨bd, rfl, hbdb, g2⟩ := H2.out.num hlt
      have c1 := g1 wr HB.out
      have c2 := g2 wr HB.out
      rw [← HE.out k hlt] at c2
      clear g1 g2
      go_wp2
      go_quiet (fail)
      have HB2 := Lib.hid (below_drewN HB.out nq)
      go_wp2
      go_roundw
      case rel => exact ⟨k + 1, by omega, num_step k, HB2.out⟩
      case measure => exact measure_step hlt
    · obtain rfl : n = k := by omega
      go_wp2
      go_ret
      exact ⟨rfl, HB.out⟩
end Go.Proofs.Yteaipeejhippiaa
