/- The answers that the document fixes are given: alive is true. -/
import Derived.Test.YtbbhbfeafdibmaaPut
namespace Go.Proofs.Ytbbhbfeafdibmaa
open Go.RowKit Plain
attribute [local go_sem] cell_set_self

/-- The document's own ledger: four held at priority 3, three at priority 7. -/
def hA : Nat → Int := fun k => if k = 3 then 4 else if k = 7 then 3 else 0
theorem hA_nums : Nums hA := by
  intro k _
  unfold hA
  split
  · omega
  · split <;> omega
theorem hA_may : mayB 10 hA 3 = true := by decide
theorem alive_put1 (w : World) : Calls Try.prog 20 #[.agg #[.int .u64 10, .int .u64 0, .int .u64 0, .int .u64 0, .int .u64 4, .int .u64 0, .int .u64 0, .int .u64 0, .int .u64 3], .int .i64 3, .int .u64 3] w
    fun e w' => e = .returned (.tuple #[.agg #[.int .u64 10, .int .u64 0, .int .u64 0, .int .u64 0, .int .u64 7, .int .u64 0, .int .u64 0, .int .u64 0, .int .u64 3], .int .i64 0]) ∧ Below w.heap.size w w' :=
  Put_ok 10 hA 3 3 hA_nums (by omega) (by omega) (by omega) (by omega) hA_may (by decide) w
theorem alive_put2 (w : World) : Calls Try.prog 20 #[.agg #[.int .u64 10, .int .u64 0, .int .u64 0, .int .u64 0, .int .u64 4, .int .u64 0, .int .u64 0, .int .u64 0, .int .u64 3], .int .i64 3, .int .u64 4] w
    fun e w' => e = .returned (.tuple #[.agg #[.int .u64 0, .int .u64 0, .int .u64 0, .int .u64 0, .int .u64 0, .int .u64 0, .int .u64 0, .int .u64 0, .int .u64 0], .int .i64 14]) ∧ Below w.heap.size w w' :=
  Put_room 10 hA 3 4 hA_nums (by omega) (by omega) (by omega) hA_may (by decide) w
theorem alive_add (w : World) : Calls Try.prog 11 #[.int .u64 18446744073709551615, .int .u64 1] w fun e w' => e = .returned (.tuple #[.int .u64 0, .bool false]) ∧ w = w' :=
  Add_calls 18446744073709551615 1 (by omega) (by omega) (by omega) (by omega) w
theorem alive_right (w : World) : Calls Try.prog 16 #[.agg #[.int .u64 10, .int .u64 0, .int .u64 0, .int .u64 0, .int .u64 4, .int .u64 0, .int .u64 0, .int .u64 0, .int .u64 3]] w
    fun e w' => e = .returned (.bool true) ∧ Below w.heap.size w w' :=
  Right_calls 10 hA hA_nums (by omega) w
theorem alive_free (w : World) : Calls Try.prog 18 #[.agg #[.int .u64 10, .int .u64 0, .int .u64 0, .int .u64 0, .int .u64 4, .int .u64 0, .int .u64 0, .int .u64 0, .int .u64 3]] w
    fun e w' => e = .returned (.agg #[.int .u64 10, .int .u64 10, .int .u64 10, .int .u64 6, .int .u64 6, .int .u64 6, .int .u64 6, .int .u64 3]) ∧ Below w.heap.size w w' :=
  Free_calls 10 hA hA_nums (by omega) (by omega) w
theorem alive_eql (w : World) : (binOp .eql 23 (.agg #[.int .u64 10, .int .u64 10, .int .u64 10, .int .u64 6, .int .u64 6, .int .u64 6, .int .u64 6, .int .u64 3]) (.agg #[.int .u64 10, .int .u64 10, .int .u64 10, .int .u64 6, .int .u64 6, .int .u64 6, .int .u64 6, .int .u64 3])).run Try.prog w = .ok (.bool true) w := by
  kernel_rfl

set_option maxHeartbeats 4000000 in
theorem alive_calls (w : World) : Calls Try.prog 10 #[] w fun e w' => e = .returned (.bool true) ∧ Below w.heap.size w w' := by
  have H1 := Lib.hid alive_put1
  have H2 := Lib.hid alive_put2
  have H3 := Lib.hid alive_add
  have H4 := Lib.hid alive_right
  have H5 := Lib.hid alive_free
  have he := alive_eql
  go_enter Try.func10, Try.ntmps10
  go_wp2_with (first | (go_at_call 20; (with_reducible refine (H1.out _).mono ?_); rintro e w1 ⟨rfl, hb⟩; obtain ⟨hb1, hb2⟩ := bcell hb; have hbz0 : w.heap.size < w1.heap.size := size_lt hb (by first | omega | (simp <;> omega))) | (go_at_call 20; (with_reducible refine (H2.out _).mono ?_); rintro e w2 ⟨rfl, hd⟩; obtain ⟨hd1, hd2⟩ := bcell hd; have hdz0 : w.heap.size < w2.heap.size := size_lt hd (by first | omega | (simp <;> omega)); have hdzw1 : w1.heap.size < w2.heap.size := size_lt hd (by first | omega | (simp <;> omega))) | (go_at_call 11; refine (H3.out _).mono ?_; rintro e w' ⟨rfl, rfl⟩) | (go_at_call 16; (with_reducible refine (H4.out _).mono ?_); rintro e w3 ⟨rfl, hf⟩; obtain ⟨hf1, hf2⟩ := bcell hf; have hfz0 : w.heap.size < w3.heap.size := size_lt hf (by first | omega | (simp <;> omega)); have hfzw1 : w1.heap.size < w3.heap.size := size_lt hf (by first | omega | (simp <;> omega))) | (go_at_call 18; (with_reducible refine (H5.out _).mono ?_); rintro e w4 ⟨rfl, hg⟩; obtain ⟨hg1, hg2⟩ := bcell hg; have hgz0 : w.heap.size < w4.heap.size := size_lt hg (by first | omega | (simp <;> omega)); have hgzw1 : w1.heap.size < w4.heap.size := size_lt hg (by first | omega | (simp <;> omega))))
  go_ret
  exact ⟨rfl, (by repeat (first | (with_reducible exact Below.refl _ _) | ((with_reducible refine Below.setCell ?_ ?_ _); rotate_left; (first | omega | (simp <;> omega))) | ((with_reducible refine Below.alloc ?_ ?_ _); rotate_left; (first | omega | (simp <;> omega))) | ((with_reducible refine Below.trans ?_ (Below.mono hb ?_)); rotate_left; (first | omega | (simp <;> omega))) | ((with_reducible refine Below.trans ?_ (Below.mono hd ?_)); rotate_left; (first | omega | (simp <;> omega))) | ((with_reducible refine Below.trans ?_ (Below.mono hf ?_)); rotate_left; (first | omega | (simp <;> omega))) | ((with_reducible refine Below.trans ?_ (Below.mono hg ?_)); rotate_left; (first | omega | (simp <;> omega)))))⟩
end Go.Proofs.Ytbbhbfeafdibmaa
