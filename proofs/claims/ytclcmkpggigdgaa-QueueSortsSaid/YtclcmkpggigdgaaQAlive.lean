/- The answers that the document fixes for a queue. -/
import Derived.Test.YtclcmkpggigdgaaQPop13
import Derived.Test.YtclcmkpggigdgaaQLess
namespace Go.Proofs.Ytclcmkpggigdgaa
open Go.RowKit
attribute [local go_sem] cell_set_self

theorem Que.keeps {w w' : World} {base Q n : Nat} {v : Value} {d : Nat → Item} (hq : Que w base Q v n d) (hf : Fr w w' Q v.ownBlock) (hB : base ≤ w.heap.size) (hQ : base ≤ Q) : Below base w w' :=
  hf.below hB hQ fun g hg => (hq.row.lt g hg).1
/-- The least of those that wait. -/
theorem Que.least {w : World} {base Q n : Nat} {v : Value} {d : Nat → Item} (hq : Que w base Q v n d) {y : Item} (hy : 0 < many d n y) : ¬ Less y (d 0) := by
  obtain ⟨k, hk, rfl⟩ := many_pos.1 hy
  exact heap_least hq.heap k hk
theorem many_zero {d : Nat → Item} {n : Nat} (hn : 0 < n) : 0 < many d n (d 0) := many_pos.2 ⟨0, hn, rfl⟩
theorem two_least {d : Nat → Item} (hh : Heap d 2) (hm : ∀ y, many d 2 y = ((0 + if (⟨5, 0, 0⟩ : Item) = y then 1 else 0) + if (⟨3, 1, 0⟩ : Item) = y then 1 else 0)) : d 0 = ⟨3, 1, 0⟩ := by
  have h1 : ¬ Less ⟨3, 1, 0⟩ (d 0) := by
    have : 0 < many d 2 ⟨3, 1, 0⟩ := by rw [hm]; simp
    obtain ⟨k, hk, e⟩ := many_pos.1 this
    rw [← e]
    exact heap_least hh k hk
  have h2 : 0 < many d 2 (d 0) := many_zero (by omega)
  rw [hm] at h2
  by_cases e2 : (⟨3, 1, 0⟩ : Item) = d 0
  · exact e2.symm
  · by_cases e1 : (⟨5, 0, 0⟩ : Item) = d 0
    · rw [← e1] at h1
      exact absurd (by unfold Less; simp) h1
    · simp [e1, e2] at h2
set_option maxRecDepth 1000000 in
set_option maxHeartbeats 8000000 in
theorem alive_calls (w : World) : Calls Try.prog 11 #[] w fun e w' => e = .returned (.bool true) ∧ Below w.heap.size w w' := by
  have HN := Lib.hid (New_calls w)
  have HP1 := Lib.hid fun (w1 : World) (v : Value) (d : Nat → Item) (hq : Que w1 w.heap.size w.heap.size v 0 d) (hb : w.heap.size ≤ w1.heap.size) => (show Calls Try.prog 17 #[.pointer (some ⟨w.heap.size, 0, none⟩), .agg #[.int .i64 5, .int .i64 0, .int .i64 0]] w1 (PushPost w1 w.heap.size w.heap.size v 0 d ⟨5, 0, 0⟩) from QPush_calls w1 w.heap.size w.heap.size 0 v d ⟨5, 0, 0⟩ hq (by omega) hb)
  have HP2 := Lib.hid fun (w1 : World) (v : Value) (d : Nat → Item) (hq : Que w1 w.heap.size w.heap.size v 1 d) (hb : w.heap.size ≤ w1.heap.size) => (show Calls Try.prog 17 #[.pointer (some ⟨w.heap.size, 0, none⟩), .agg #[.int .i64 3, .int .i64 1, .int .i64 0]] w1 (PushPost w1 w.heap.size w.heap.size v 1 d ⟨3, 1, 0⟩) from QPush_calls w1 w.heap.size w.heap.size 1 v d ⟨3, 1, 0⟩ hq (by omega) hb)
  have HL2 := Lib.hid fun (w1 : World) (v : Value) (d : Nat → Item) (hq : Que w1 w.heap.size w.heap.size v 2 d) => (show Calls Try.prog 18 #[.pointer (some ⟨w.heap.size, 0, none⟩)] w1 (fun e w' => e = .returned (.int .i64 2) ∧ w1 = w') from by obtain ⟨A, c, rfl⟩ := hq.row.form; exact QLen_calls w1 _ 2 A c hq.blk)
  have HL1 := Lib.hid fun (w1 : World) (v : Value) (d : Nat → Item) (hq : Que w1 w.heap.size w.heap.size v 1 d) => (show Calls Try.prog 18 #[.pointer (some ⟨w.heap.size, 0, none⟩)] w1 (fun e w' => e = .returned (.int .i64 1) ∧ w1 = w') from by obtain ⟨A, c, rfl⟩ := hq.row.form; exact QLen_calls w1 _ 1 A c hq.blk)
  have HT := Lib.hid fun (w1 : World) (v : Value) (d : Nat → Item) (hq : Que w1 w.heap.size w.heap.size v 2 d) (hd : d 0 = ⟨3, 1, 0⟩) => (show Calls Try.prog 13 #[.pointer (some ⟨w.heap.size, 0, none⟩)] w1 (fun e w' => e = .returned (.tuple #[.agg #[.int .i64 3, .int .i64 1, .int .i64 0], .int .i64 0]) ∧ Below w.heap.size w1 w' ∧ ∃ v' d', Que w' w.heap.size w.heap.size v' 1 d') from by
    refine (QPop_calls w1 w.heap.size w.heap.size 1 v d hq (by omega)).mono ?_
    rintro e w' ⟨rfl, v', d', hq', _, hf, _⟩
    rw [hd]
    have := hf.size
    exact ⟨rfl, hq.keeps hf (Nat.le_of_lt hq.blk.lt) (Nat.le_refl _), v', d', hq'⟩)
  have HQ0 := Lib.hid (Que.new w w.heap.size (fun _ => ⟨0, 0, 0⟩))
  go_enter Try.func11, Try.ntmps11
  go_wp2_with (first
    | (go_at_call 12; (with_reducible refine HN.out.mono ?_); rintro e w1 ⟨rfl, rfl⟩)
    | (go_at_call 17; (with_reducible refine (HP1.out _ _ _ HQ0.out (by simp)).mono ?_); rintro e w2 ⟨rfl, v1, d1, hq1, hm1, hf1, _⟩; have hb1 := HQ0.out.keeps hf1 (by simp) (Nat.le_refl _); have hs1 := hb1.size; have HQ1 := Lib.hid hq1; have HM1 := Lib.hid hm1; clear hq1 hm1 hf1)
    | (go_at_call 17; (with_reducible refine (HP2.out _ _ _ HQ1.out (Nat.le_of_lt HQ1.out.blk.lt)).mono ?_); rintro e w3 ⟨rfl, v2, d2, hq2, hm2, hf2, _⟩; have hb2 := HQ1.out.keeps hf2 (Nat.le_of_lt HQ1.out.blk.lt) (Nat.le_refl _); have HD := Lib.hid (two_least hq2.heap (fun y => (hm2 y).trans (by rw [HM1.out y]; rfl))); have HQ2 := Lib.hid hq2; clear hq2 hm2 hf2)
    | (go_at_call 18; (with_reducible refine (HL2.out _ _ _ HQ2.out).mono ?_); rintro e w4 ⟨rfl, rfl⟩)
    | (go_at_call 13; (with_reducible refine (HT.out _ _ _ HQ2.out HD.out).mono ?_); rintro e w5 ⟨rfl, hb3, v3, d3, hq3⟩; have hz3 : w.heap.size < w5.heap.size := hq3.blk.lt; have HQ3 := Lib.hid hq3; clear hq3)
    | (go_at_call 18; (with_reducible refine (HL1.out _ _ _ (HQ3.out.later (by exact (by repeat (first | (with_reducible exact Below.refl _ _) | (with_reducible assumption) | ((with_reducible refine Below.setCell ?_ ?_ _); rotate_left; (first | omega | (simp <;> omega))) | ((with_reducible refine Below.alloc ?_ ?_ _); rotate_left; (first | omega | (simp <;> omega))) | ((with_reducible refine Below.drew ?_)) | ((with_reducible refine below_drewN ?_ _)) | ((with_reducible refine Below.trans ?_ (Below.mono (by with_reducible assumption) ?_)); rotate_left; (first | omega | (simp <;> omega)))))))).mono ?_); rintro e w6 ⟨rfl, rfl⟩))
  go_ret
  exact ⟨rfl, (((((Below.refl _ _).alloc (Nat.le_refl _) _).trans hb1).trans hb2).trans hb3).alloc (by omega) _⟩
end Go.Proofs.Ytclcmkpggigdgaa
