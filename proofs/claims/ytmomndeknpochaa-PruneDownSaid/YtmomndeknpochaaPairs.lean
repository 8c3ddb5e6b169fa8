/- Index and Contains over pairs. -/
import Derived.Test.YtmomndeknpochaaSmall
import Derived.Test.YtmomndeknpochaaEq
import Derived.Deep.QuietTactic
import Derived.BigQuiet
namespace Go.Proofs.Ytmomndeknpochaa
open Go.RowKit
attribute [local go_sem] cell_set_self

def pairs (f g : Nat → Int) : Nat → Array Value := fun i => #[.int .i64 (f i), .int .i64 (g i)]
/-- Is (v, u) one of the first n? -/
def has2 (f g : Nat → Int) (v u : Int) : Nat → Bool
  | 0 => false
  | n + 1 => has2 f g v u n || (f n == v && g n == u)
theorem has2_yes {f g : Nat → Int} {v u : Int} {i : Nat} (hv : f i = v) (hu : g i = u) : ∀ {n}, i < n → has2 f g v u n = true
  | n + 1, hi => by
    simp only [has2, Bool.or_eq_true, Bool.and_eq_true, beq_iff_eq]
    rcases Nat.lt_succ_iff_lt_or_eq.1 hi with h' | rfl
    · exact .inl (has2_yes hv hu h')
    · exact .inr ⟨hv, hu⟩
theorem has2_step {f g : Nat → Int} {v u : Int} {k : Nat} (h : has2 f g v u k = false) (e : ¬ (f k = v ∧ g k = u)) : has2 f g v u (k + 1) = false := by
  simp only [has2, h, Bool.false_or, Bool.and_eq_false_iff, beq_eq_false_iff_ne]
  by_cases h1 : f k = v
  · exact .inr fun h2 => e ⟨h1, h2⟩
  · exact .inl h1

set_option maxHeartbeats 4000000 in
theorem Index2_calls (w : World) (A : Option Addr) (n c : Nat) (f g : Nat → Int) (v u : Int) (hn : n ≤ 9223372036854775807) (hs : Strip w A n 2 (pairs f g)) :
    Calls Try.prog 32 #[.slice A n c, .agg #[.int .i64 v, .int .i64 u]] w fun e w' => (∃ r : Int, e = .returned (.int .i64 r) ∧ decide (0 ≤ r) = has2 f g v u n) ∧ Below w.heap.size w w' := by
  have HS := Lib.hid hs
  clear hs
  go_enter Try.func32, Try.ntmps32
  go_wp2
  have HB := Lib.hid (show Below w.heap.size w (w.alloc (.cells #[.int .i64 v, .int .i64 u] 53)) from (Below.refl _ _).alloc (Nat.le_refl _) _)
  have HR := Lib.hid (Row.new w #[.int .i64 v, .int .i64 u] 53)
  go_loopw [8] (fun i wr => ∃ k : Nat, k ≤ n ∧ i = .int .i64 (k : Int) ∧ has2 f g v u k = false ∧ Below w.heap.size w wr ∧ Row wr w.heap.size #[.int .i64 v, .int .i64 u]) (fun i _ => n - (intOf i).toNat)
  case atStart => exact ⟨0, by omega, rfl, rfl, HB.out, HR.out⟩
  case round =>
    obtain ⟨k, hk, rfl, hh, hbel, hr⟩ := hrel
    clear HB HR
    have HB := Lib.hid hbel
    have HR := Lib.hid hr
    clear hbel
    obtain ⟨c1, f1, s1⟩ := hr
    by_cases hlt : k < n
    · obtain ⟨ad, rfl, hadb, hc⟩ := HS.out (by omega)
      have g0 : wr.cell? (ad.add (k * 2)) = some (.int .i64 (f k)) := (HB.out.cell (by rw [add_block]; exact hadb)).trans (hc k hlt 0 (by omega))
      have g1 : wr.cell? ⟨(ad.add (k * 2)).block, (ad.add (k * 2)).off + 1, none⟩ = some (.int .i64 (g k)) := (HB.out.cell (by show (ad.add (k * 2)).block < _; rw [add_block]; exact hadb)).trans (hc k hlt 1 (by omega))
      clear hc
      have EQ := fun w => eql_pair v u (f k) (g k) w
      by_cases e : f k = v ∧ g k = u
      · have e2 : (v == f k && u == g k) = true := by simp [e.1, e.2]
        simp only [e2] at EQ
        have HE := Lib.hid e
        clear e e2
        go_wp2
        go_quiet (fail)
        go_wp2
        have hy := has2_yes HE.out.1 HE.out.2 hlt
        go_ret
        exact ⟨⟨_, rfl, (by rw [hy]; exact decide_eq_true (by omega))⟩, Go.Proofs.Ytmomndeknpochaa.below_drewN HB.out _⟩
      · have e2 : (v == f k && u == g k) = false := by
          rw [Bool.and_eq_false_iff, beq_eq_false_iff_ne, beq_eq_false_iff_ne]
          by_cases h1 : v = f k
          · exact .inr fun h2 => e ⟨h1.symm, h2.symm⟩
          · exact .inl h1
        simp only [e2] at EQ
        have HE := Lib.hid e
        clear e e2
        go_wp2
        go_quiet (fail)
        go_wp2
        go_roundw
        case rel => exact ⟨k + 1, by omega, num_step k, has2_step hh HE.out, Go.Proofs.Ytmomndeknpochaa.below_drewN HB.out _, HR.out.drewN _⟩
        case measure => exact measure_step hlt
    · go_wp2
      obtain rfl : k = n := by omega
      go_ret
      exact ⟨⟨_, rfl, (by rw [hh]; rfl)⟩, HB.out⟩
set_option maxHeartbeats 4000000 in
theorem Contains2_calls (w : World) (A : Option Addr) (n c : Nat) (f g : Nat → Int) (v u : Int) (hn : n ≤ 9223372036854775807) (hs : Strip w A n 2 (pairs f g)) :
    Calls Try.prog 27 #[.slice A n c, .agg #[.int .i64 v, .int .i64 u]] w fun e w' => e = .returned (.bool (has2 f g v u n)) ∧ Below w.heap.size w w' := by
  have H1 := Lib.hid fun (w' : World) (hb : Below w.heap.size w w') => Index2_calls w' A n c f g v u hn (hs.below hb)
  clear hs
  go_enter Try.func27, Try.ntmps27
  go_wp2_with (go_at_call 32; (with_reducible refine (H1.out _ ((Below.refl _ _).alloc (Nat.le_refl _) _)).mono ?_); rintro e w1 ⟨⟨r, rfl, hr⟩, hb⟩)
  have hr2 : decide (0 ≤ r) = has2 f g v u n := by assumption
  go_ret
  exact ⟨(by rw [← hr2]; rfl), (by repeat (first | (with_reducible exact Below.refl _ _) | (with_reducible assumption) | ((with_reducible refine Below.setCell ?_ ?_ _); rotate_left; (first | omega | (simp <;> omega))) | ((with_reducible refine Below.alloc ?_ ?_ _); rotate_left; (first | omega | (simp <;> omega))) | ((with_reducible refine Below.drew ?_)) | ((with_reducible refine below_drewN ?_ _)) | ((with_reducible refine Below.trans ?_ (Below.mono (by with_reducible assumption) ?_)); rotate_left; (first | omega | (simp <;> omega)))))⟩
end Go.Proofs.Ytmomndeknpochaa
