/- The same links are the same; is a question small enough? -/
import Derived.Test.YtmomndeknpochaaAdverts
import Derived.Test.YtmomndeknpochaaBoth
import Derived.Deep.QuietTactic
import Derived.BigQuiet
namespace Go.Proofs.Ytmomndeknpochaa
open Go.RowKit Plain PBits
attribute [local go_sem] cell_set_self

theorem linkB_refl (x : Adv) : linkB x x = true := by simp [linkB]
theorem Strip.link {w : World} {ad : Addr} {n k : Nat} {x : Nat → Adv} (hc : ∀ i, i < n → ∀ j, j < 5 → w.cell? ((ad.add (i * 5)).add j) = (link (x i))[j]?) (hlt : k < n) :
    w.cell? (ad.add (k * 5)) = some (.int .i64 (x k).src) ∧ w.cell? ⟨(ad.add (k * 5)).block, (ad.add (k * 5)).off + 1, none⟩ = some (.int .i64 (x k).dst) ∧ w.cell? ⟨(ad.add (k * 5)).block, (ad.add (k * 5)).off + 2, none⟩ = some (.int .u64 (x k).cap) ∧ w.cell? ⟨(ad.add (k * 5)).block, (ad.add (k * 5)).off + 3, none⟩ = some (.int .i64 (x k).metric) ∧ w.cell? ⟨(ad.add (k * 5)).block, (ad.add (k * 5)).off + 4, none⟩ = some (.int .u32 (x k).groups) :=
  ⟨hc k hlt 0 (by omega), hc k hlt 1 (by omega), hc k hlt 2 (by omega), hc k hlt 3 (by omega), hc k hlt 4 (by omega)⟩
set_option maxRecDepth 100000 in
set_option maxHeartbeats 8000000 in
theorem Same_calls (w : World) (A B : Option Addr) (n c c' : Nat) (x : Nat → Adv) (hn : n ≤ 100) (hA : Strip w A n 5 (fun i => link (x i))) (hB : Strip w B n 5 (fun i => link (x i))) :
    Calls Try.prog 12 #[.slice A n c, .slice B n c'] w fun e w' => e = .returned (.bool true) ∧ Below w.heap.size w w' := by
  have HA := Lib.hid hA
  have HB := Lib.hid hB
  clear hA hB
  go_enter Try.func12, Try.ntmps12
  go_wp2
  go_loopw [13] (fun i wr => ∃ k : Nat, k ≤ n ∧ i = .int .i64 (k : Int) ∧ Below w.heap.size w wr) (fun i _ => n - (intOf i).toNat)
  case atStart => exact ⟨0, by omega, rfl, Below.refl _ _⟩
  case round =>
    obtain ⟨k, hk, rfl, hbel⟩ := hrel
    have HBe := Lib.hid hbel
    clear hbel
    by_cases hlt : k < n
    · obtain ⟨a1, rfl, ha1, hc1⟩ := HA.out (by omega)
      obtain ⟨a2, rfl, ha2, hc2⟩ := HB.out (by omega)
      have i0 : (0 : Int) ≤ (k : Int) := by omega
      have i1 : (k : Int) < (n : Int) := by omega
      obtain ⟨g0, g1, g2, g3, g4⟩ := Strip.link (w := wr) (fun i hi j hj => (HBe.out.cell (by rw [add_block, add_block]; exact ha1)).trans (hc1 i hi j hj)) hlt
      obtain ⟨e0, e1, e2, e3, e4⟩ := Strip.link (w := wr) (fun i hi j hj => (HBe.out.cell (by rw [add_block, add_block]; exact ha2)).trans (hc2 i hi j hj)) hlt
      have NE := fun w => neq_link (x k) (x k) w
      simp only [linkB_refl, Bool.not_true] at NE
      clear hc1 hc2
      go_wp2
      go_quiet (fail)
      go_wp2
      go_roundw
      case rel => exact ⟨k + 1, by omega, num_step k, Go.Proofs.Ytmomndeknpochaa.below_drewN HBe.out _⟩
      case measure => exact measure_step hlt
    · go_wp2
      go_ret
      exact ⟨rfl, HBe.out⟩
def smallB (n n1 n2 n3 : Nat) : Bool := decide (n ≤ 100) && (decide (n1 ≤ 100) && (decide (n2 ≤ 100) && decide (n3 ≤ 100)))
set_option maxHeartbeats 8000000 in
theorem Small_calls (w : World) (A A1 A2 A3 : Option Addr) (n c : Nat) (q : Wnt) (n1 n2 n3 k1 k2 k3 : Nat) (hops : Int) :
    Calls Try.prog 7 #[.slice A n c, .agg #[.int .u64 q.bw, .int .i64 q.setup, .int .i64 q.hold, .int .u32 q.any, .int .u32 q.all, .int .u32 q.none, .slice A1 n1 k1, .slice A2 n2 k2, .slice A3 n3 k3, .int .i64 hops]] w fun e w' => e = .returned (.bool (smallB n n1 n2 n3)) ∧ Below w.heap.size w w' := by
  have hb : ∀ r : Bool, (r = true ↔ n ≤ 100 ∧ n1 ≤ 100 ∧ n2 ≤ 100 ∧ n3 ≤ 100) → r = smallB n n1 n2 n3 := fun r h => by rw [Bool.eq_iff_iff, h]; simp [smallB]
  have HB := Lib.hid hb
  clear hb
  by_cases c1 : n ≤ 100 <;> by_cases c2 : n1 ≤ 100 <;> by_cases c3 : n2 ≤ 100 <;> by_cases c4 : n3 ≤ 100
  all_goals
    go_enter Try.func7, Try.ntmps7
    go_wp2
    go_ret
    exact ⟨congrArg (fun b => Ending.returned (.bool b)) (HB.out _ (by simp [c1, c2, c3, c4] <;> omega)), (by repeat (first | (with_reducible exact Below.refl _ _) | (with_reducible assumption) | ((with_reducible refine Below.setCell ?_ ?_ _); rotate_left; (first | omega | (simp <;> omega))) | ((with_reducible refine Below.alloc ?_ ?_ _); rotate_left; (first | omega | (simp <;> omega))) | ((with_reducible refine Below.drew ?_)) | ((with_reducible refine below_drewN ?_ _)) | ((with_reducible refine Below.trans ?_ (Below.mono (by with_reducible assumption) ?_)); rotate_left; (first | omega | (simp <;> omega)))))⟩
end Go.Proofs.Ytmomndeknpochaa
