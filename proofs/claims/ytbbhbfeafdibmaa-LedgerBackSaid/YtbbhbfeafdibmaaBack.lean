/- What was put is taken again, and the ledger is what it was. The walk of the law. -/
import Derived.Test.YtbbhbfeafdibmaaMoves
namespace Go.Proofs.Ytbbhbfeafdibmaa
open Go.RowKit Plain
attribute [local go_sem] cell_set_self

set_option maxHeartbeats 4000000 in
theorem Back_no (c : Int) (h : Nat → Int) (p bw e1 : Int) (he : (e1 != 0) = true)
    (HP : ∀ w, Calls Try.prog 20 #[.agg #[.int .u64 c, .int .u64 (h 0), .int .u64 (h 1), .int .u64 (h 2), .int .u64 (h 3), .int .u64 (h 4), .int .u64 (h 5), .int .u64 (h 6), .int .u64 (h 7)], .int .i64 p, .int .u64 bw] w fun e w' => e = .returned (.tuple #[.agg #[.int .u64 0, .int .u64 0, .int .u64 0, .int .u64 0, .int .u64 0, .int .u64 0, .int .u64 0, .int .u64 0, .int .u64 0], .int .i64 e1]) ∧ Below w.heap.size w w')
    (w : World) : Calls Try.prog 8 #[.agg #[.int .u64 c, .int .u64 (h 0), .int .u64 (h 1), .int .u64 (h 2), .int .u64 (h 3), .int .u64 (h 4), .int .u64 (h 5), .int .u64 (h 6), .int .u64 (h 7)], .int .i64 p, .int .u64 bw] w fun e w' => e = .returned (.bool true) ∧ Below w.heap.size w w' := by
  have H1 := Lib.hid alive_calls
  have H2 := Lib.hid (theirs_calls c h)
  have H3 := Lib.hid HP
  have E : ∀ w, (binOp .eql 30 (.agg #[.int .u64 0, .int .u64 0, .int .u64 0, .int .u64 0, .int .u64 0, .int .u64 0, .int .u64 0, .int .u64 0, .int .u64 0]) (.agg #[.int .u64 0, .int .u64 0, .int .u64 0, .int .u64 0, .int .u64 0, .int .u64 0, .int .u64 0, .int .u64 0, .int .u64 0])).run Try.prog w = .ok (.bool true) w := eql_led 30 (.inr rfl) 0 none_
  clear HP
  go_enter Try.func8, Try.ntmps8
  go_wp2_with (first | (go_at_call 10; (with_reducible refine (H1.out _).mono ?_); rintro e w1 ⟨rfl, hb⟩; obtain ⟨hb1, hb2⟩ := bcell hb; have hbz0 : w.heap.size < w1.heap.size := size_lt hb (by first | omega | (simp <;> omega))) | (go_at_call 14; (with_reducible refine (H2.out _).mono ?_); rintro e w2 ⟨rfl, hg⟩; obtain ⟨hg1, hg2⟩ := bcell hg; have hgz0 : w.heap.size < w2.heap.size := size_lt hg (by first | omega | (simp <;> omega))) | (go_at_call 20; (with_reducible refine (H3.out _).mono ?_); rintro e w3 ⟨rfl, hd⟩; obtain ⟨hd1, hd2⟩ := bcell hd; have hdz0 : w.heap.size < w3.heap.size := size_lt hd (by first | omega | (simp <;> omega))))
  go_ret
  exact ⟨rfl, (by repeat (first | (with_reducible exact Below.refl _ _) | (with_reducible assumption) | ((with_reducible refine Below.setCell ?_ ?_ _); rotate_left; (first | omega | (simp <;> omega))) | ((with_reducible refine Below.alloc ?_ ?_ _); rotate_left; (first | omega | (simp <;> omega))) | ((with_reducible refine Below.drew ?_)) | ((with_reducible refine below_drewN ?_ _)) | ((with_reducible refine Below.trans ?_ (Below.mono (by with_reducible assumption) ?_)); rotate_left; (first | omega | (simp <;> omega)))))⟩

set_option maxHeartbeats 4000000 in
theorem Back_yes (c : Int) (h h1 : Nat → Int) (p bw : Int)
    (HP : ∀ w, Calls Try.prog 20 #[.agg #[.int .u64 c, .int .u64 (h 0), .int .u64 (h 1), .int .u64 (h 2), .int .u64 (h 3), .int .u64 (h 4), .int .u64 (h 5), .int .u64 (h 6), .int .u64 (h 7)], .int .i64 p, .int .u64 bw] w fun e w' => e = .returned (.tuple #[.agg #[.int .u64 c, .int .u64 (h1 0), .int .u64 (h1 1), .int .u64 (h1 2), .int .u64 (h1 3), .int .u64 (h1 4), .int .u64 (h1 5), .int .u64 (h1 6), .int .u64 (h1 7)], .int .i64 0]) ∧ Below w.heap.size w w')
    (HT : ∀ w, Calls Try.prog 23 #[.agg #[.int .u64 c, .int .u64 (h1 0), .int .u64 (h1 1), .int .u64 (h1 2), .int .u64 (h1 3), .int .u64 (h1 4), .int .u64 (h1 5), .int .u64 (h1 6), .int .u64 (h1 7)], .int .i64 p, .int .u64 bw] w fun e w' => e = .returned (.tuple #[.agg #[.int .u64 c, .int .u64 (h 0), .int .u64 (h 1), .int .u64 (h 2), .int .u64 (h 3), .int .u64 (h 4), .int .u64 (h 5), .int .u64 (h 6), .int .u64 (h 7)], .int .i64 0]) ∧ Below w.heap.size w w')
    (w : World) : Calls Try.prog 8 #[.agg #[.int .u64 c, .int .u64 (h 0), .int .u64 (h 1), .int .u64 (h 2), .int .u64 (h 3), .int .u64 (h 4), .int .u64 (h 5), .int .u64 (h 6), .int .u64 (h 7)], .int .i64 p, .int .u64 bw] w fun e w' => e = .returned (.bool true) ∧ Below w.heap.size w w' := by
  have H1 := Lib.hid alive_calls
  have H2 := Lib.hid (theirs_calls c h)
  have H3 := Lib.hid HP
  have H4 := Lib.hid HT
  clear HP HT
  go_enter Try.func8, Try.ntmps8
  go_wp2_with (first | (go_at_call 10; (with_reducible refine (H1.out _).mono ?_); rintro e w1 ⟨rfl, hb⟩; obtain ⟨hb1, hb2⟩ := bcell hb; have hbz0 : w.heap.size < w1.heap.size := size_lt hb (by first | omega | (simp <;> omega))) | (go_at_call 14; (with_reducible refine (H2.out _).mono ?_); rintro e w2 ⟨rfl, hg⟩; obtain ⟨hg1, hg2⟩ := bcell hg; have hgz0 : w.heap.size < w2.heap.size := size_lt hg (by first | omega | (simp <;> omega))) | (go_at_call 20; (with_reducible refine (H3.out _).mono ?_); rintro e w3 ⟨rfl, hd⟩; obtain ⟨hd1, hd2⟩ := bcell hd; have hdz0 : w.heap.size < w3.heap.size := size_lt hd (by first | omega | (simp <;> omega))) | (go_at_call 23; (with_reducible refine (H4.out _).mono ?_); rintro e w4 ⟨rfl, hf⟩; obtain ⟨hf1, hf2⟩ := bcell hf; have hfz0 : w.heap.size < w4.heap.size := size_lt hf (by first | omega | (simp <;> omega)); have hfzw3 : w3.heap.size < w4.heap.size := size_lt hf (by first | omega | (simp <;> omega))))
  have hbel : Below w.heap.size w (w4.alloc (.cells #[.int .u64 c, .int .u64 (h 0), .int .u64 (h 1), .int .u64 (h 2), .int .u64 (h 3), .int .u64 (h 4), .int .u64 (h 5), .int .u64 (h 6), .int .u64 (h 7)] 30)) := (by repeat (first | (with_reducible exact Below.refl _ _) | (with_reducible assumption) | ((with_reducible refine Below.setCell ?_ ?_ _); rotate_left; (first | omega | (simp <;> omega))) | ((with_reducible refine Below.alloc ?_ ?_ _); rotate_left; (first | omega | (simp <;> omega))) | ((with_reducible refine Below.drew ?_)) | ((with_reducible refine below_drewN ?_ _)) | ((with_reducible refine Below.trans ?_ (Below.mono (by with_reducible assumption) ?_)); rotate_left; (first | omega | (simp <;> omega)))))
  have r1 : Row (w4.alloc (.cells #[.int .u64 c, .int .u64 (h 0), .int .u64 (h 1), .int .u64 (h 2), .int .u64 (h 3), .int .u64 (h 4), .int .u64 (h 5), .int .u64 (h 6), .int .u64 (h 7)] 30)) w4.heap.size #[.int .u64 c, .int .u64 (h 0), .int .u64 (h 1), .int .u64 (h 2), .int .u64 (h 3), .int .u64 (h 4), .int .u64 (h 5), .int .u64 (h 6), .int .u64 (h 7)] := Row.new w4 _ _
  have r2 : Row (w4.alloc (.cells #[.int .u64 c, .int .u64 (h 0), .int .u64 (h 1), .int .u64 (h 2), .int .u64 (h 3), .int .u64 (h 4), .int .u64 (h 5), .int .u64 (h 6), .int .u64 (h 7)] 30)) w.heap.size #[.int .u64 c, .int .u64 (h 0), .int .u64 (h 1), .int .u64 (h 2), .int .u64 (h 3), .int .u64 (h 4), .int .u64 (h 5), .int .u64 (h 6), .int .u64 (h 7)] := ((((Row.new w _ _).later hb).later hg).later hd |>.alloc _).later hf |>.alloc _
  have HB := Lib.hid hbel
  clear hbel hb hb1 hb2 hg hg1 hg2 hd hd1 hd2 hf hf1 hf2 H1 H2 H3 H4
  generalize w4.alloc (.cells #[.int .u64 c, .int .u64 (h 0), .int .u64 (h 1), .int .u64 (h 2), .int .u64 (h 3), .int .u64 (h 4), .int .u64 (h 5), .int .u64 (h 6), .int .u64 (h 7)] 30) = W at *
  generalize w4.heap.size = B4 at *
  obtain ⟨c1, f1, s1⟩ := r1
  obtain ⟨c2, f2, s2⟩ := r2
  have E := eql_led 25 (.inl rfl) c h
  (refine q_region (by kernel_rfl) (by kernel_rfl) ?_; (repeat (first | ((refine q_pure (v := ?_) rfl (fun w' hC => ?hrun) ?_); (case hrun => (obtain ⟨hq1, hq2⟩ := bcell hC; go_simp; with_reducible rfl)); refine q_norm (a' := ?_) ?_ ?_; rotate_left; (simp only [Act.put, List.setIfInBounds_toArray, List.set_cons_zero, List.set_cons_succ]; rfl)) | ((refine q_skip rfl ?_); refine q_norm (a' := ?_) ?_ ?_; rotate_left; (simp only [Act.put, List.setIfInBounds_toArray, List.set_cons_zero, List.set_cons_succ]; rfl)) | ((with_reducible refine q_callB (f := 21) (fun w' _ => ours_calls c h w') Try.func21 (by kernel_rfl) rfl rfl ?hw ?hargs ?_); (case hw => rfl); (case hargs => (simp only [List.map_toArray, List.map_cons, List.map_nil]; rfl)); refine q_norm (a' := ?_) ?_ ?_; rotate_left; (simp only [Act.put, List.setIfInBounds_toArray, List.set_cons_zero, List.set_cons_succ]; rfl)) )); with_reducible refine wpQuiet_nil ?_; intro wq hq)
  go_wp2
  go_ret
  exact ⟨rfl, HB.out.trans (hq.mono HB.out.size)⟩

theorem setAt_back (h : Nat → Int) (q : Nat) (b : Int) : setAt (setAt h q (h q + b)) q (setAt h q (h q + b) q - b) = h := by
  funext k
  unfold setAt
  by_cases e : k = q
  · subst e; simp
  · simp [e]

theorem LedgerBack_walk (c : Int) (h : Nat → Int) (p bw : Int) (hh : Nums h) (h0c : 0 ≤ c) (hc : c < 18446744073709551616) (h0 : 0 ≤ bw) (h1 : bw < 18446744073709551616) (w : World) :
    Calls Try.prog 8 #[.agg #[.int .u64 c, .int .u64 (h 0), .int .u64 (h 1), .int .u64 (h 2), .int .u64 (h 3), .int .u64 (h 4), .int .u64 (h 5), .int .u64 (h 6), .int .u64 (h 7)], .int .i64 p, .int .u64 bw] w fun e w' => e = .returned (.bool true) ∧ Below w.heap.size w w' := by
  cases hm : mayB c h p with
  | false => exact Back_no c h p bw 2 (by decide) (Put_arg c h p bw hh hc hm) w
  | true =>
    by_cases hr : sumTo h 8 + bw ≤ c
    · obtain ⟨hp0, hp8, hs⟩ := may_bounds hm
      have hle : h p.toNat ≤ sumTo h 8 := le_sumTo hh (by omega)
      have hv := (hh p.toNat (by omega)).1
      have hn : Nums (setAt h p.toNat (h p.toNat + bw)) := setAt_nums hh (by omega) (by omega)
      have hm' : mayB c (setAt h p.toNat (h p.toNat + bw)) p = true := by
        rw [mayB, decide_eq_true (show 0 ≤ p ∧ p < 8 from ⟨hp0, hp8⟩), Bool.true_and]
        exact right_yes (by rw [sumTo_setAt h p.toNat _ 8, if_pos (by omega)]; omega)
      have ht := Take_ok c _ p bw hn hc h0 hm' (by rw [setAt_same]; omega)
      rw [setAt_back] at ht
      exact Back_yes c h _ p bw (Put_ok c h p bw hh h0c hc h0 h1 hm hr) ht w
    · exact Back_no c h p bw 14 (by decide) (Put_room c h p bw hh hc h0 h1 hm hr) w
end Go.Proofs.Ytbbhbfeafdibmaa
