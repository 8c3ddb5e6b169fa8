/- Any ledger with more held at any priority, or less, is the document's, or refused. The walk of the law. -/
import Derived.Test.YtbbhbfeafdibmaaAlive
import Derived.Test.YtbbhbfeafdibmaaTake
import Derived.Test.YtbbhbfeafdibmaaEq
import Derived.Test.YtbbhbfeafdibmaaCallB
namespace Go.Proofs.Ytbbhbfeafdibmaa
open Go.RowKit Plain
attribute [local go_sem] cell_set_self

set_option maxHeartbeats 4000000 in
theorem Moves_core (c : Int) (h : Nat → Int) (p bw : Int) (c1 : Int) (h1 : Nat → Int) (e1 c2 : Int) (h2 : Nat → Int) (e2 : Int)
    (HP : ∀ w, Calls Try.prog 20 #[.agg #[.int .u64 c, .int .u64 (h 0), .int .u64 (h 1), .int .u64 (h 2), .int .u64 (h 3), .int .u64 (h 4), .int .u64 (h 5), .int .u64 (h 6), .int .u64 (h 7)], .int .i64 p, .int .u64 bw] w fun e w' => e = .returned (.tuple #[.agg #[.int .u64 c1, .int .u64 (h1 0), .int .u64 (h1 1), .int .u64 (h1 2), .int .u64 (h1 3), .int .u64 (h1 4), .int .u64 (h1 5), .int .u64 (h1 6), .int .u64 (h1 7)], .int .i64 e1]) ∧ Below w.heap.size w w')
    (HR : ∀ w, Calls Try.prog 22 #[.agg #[.int .u64 c, .int .u64 (h 0), .int .u64 (h 1), .int .u64 (h 2), .int .u64 (h 3), .int .u64 (h 4), .int .u64 (h 5), .int .u64 (h 6), .int .u64 (h 7)], .int .i64 p, .int .u64 bw] w fun e w' => e = .returned (.tuple #[.agg #[.int .u64 c1, .int .u64 (h1 0), .int .u64 (h1 1), .int .u64 (h1 2), .int .u64 (h1 3), .int .u64 (h1 4), .int .u64 (h1 5), .int .u64 (h1 6), .int .u64 (h1 7)], .int .i64 e1]) ∧ Below w.heap.size w w')
    (HT : ∀ w, Calls Try.prog 23 #[.agg #[.int .u64 c, .int .u64 (h 0), .int .u64 (h 1), .int .u64 (h 2), .int .u64 (h 3), .int .u64 (h 4), .int .u64 (h 5), .int .u64 (h 6), .int .u64 (h 7)], .int .i64 p, .int .u64 bw] w fun e w' => e = .returned (.tuple #[.agg #[.int .u64 c2, .int .u64 (h2 0), .int .u64 (h2 1), .int .u64 (h2 2), .int .u64 (h2 3), .int .u64 (h2 4), .int .u64 (h2 5), .int .u64 (h2 6), .int .u64 (h2 7)], .int .i64 e2]) ∧ Below w.heap.size w w')
    (HQ : ∀ w, Calls Try.prog 24 #[.agg #[.int .u64 c, .int .u64 (h 0), .int .u64 (h 1), .int .u64 (h 2), .int .u64 (h 3), .int .u64 (h 4), .int .u64 (h 5), .int .u64 (h 6), .int .u64 (h 7)], .int .i64 p, .int .u64 bw] w fun e w' => e = .returned (.tuple #[.agg #[.int .u64 c2, .int .u64 (h2 0), .int .u64 (h2 1), .int .u64 (h2 2), .int .u64 (h2 3), .int .u64 (h2 4), .int .u64 (h2 5), .int .u64 (h2 6), .int .u64 (h2 7)], .int .i64 e2]) ∧ Below w.heap.size w w')
    (w : World) : Calls Try.prog 7 #[.agg #[.int .u64 c, .int .u64 (h 0), .int .u64 (h 1), .int .u64 (h 2), .int .u64 (h 3), .int .u64 (h 4), .int .u64 (h 5), .int .u64 (h 6), .int .u64 (h 7)], .int .i64 p, .int .u64 bw] w fun e w' => e = .returned (.bool true) ∧ Below w.heap.size w w' := by
  have H1 := Lib.hid alive_calls
  have H2 := Lib.hid (theirs_calls c h)
  have H3 := Lib.hid HP
  have H4 := Lib.hid HR
  have H5 := Lib.hid HT
  have H6 := Lib.hid HQ
  clear HP HR HT HQ
  go_enter Try.func7, Try.ntmps7
  go_wp2_with (first | (go_at_call 10; (with_reducible refine (H1.out _).mono ?_); rintro e w1 ⟨rfl, hb⟩; obtain ⟨hb1, hb2⟩ := bcell hb; have hbz0 : w.heap.size < w1.heap.size := size_lt hb (by first | omega | (simp <;> omega))) | (go_at_call 20; (with_reducible refine (H3.out _).mono ?_); rintro e w3 ⟨rfl, hd⟩; obtain ⟨hd1, hd2⟩ := bcell hd; have hdz0 : w.heap.size < w3.heap.size := size_lt hd (by first | omega | (simp <;> omega))) | (go_at_call 22; (with_reducible refine (H4.out _).mono ?_); rintro e w4 ⟨rfl, hf⟩; obtain ⟨hf1, hf2⟩ := bcell hf; have hfz0 : w.heap.size < w4.heap.size := size_lt hf (by first | omega | (simp <;> omega)); have hfzw3 : w3.heap.size < w4.heap.size := size_lt hf (by first | omega | (simp <;> omega))) | (go_at_call 23; (with_reducible refine (H5.out _).mono ?_); rintro e w6 ⟨rfl, hi⟩; obtain ⟨hi1, hi2⟩ := bcell hi; have hiz0 : w.heap.size < w6.heap.size := size_lt hi (by first | omega | (simp <;> omega)); have hizw3 : w3.heap.size < w6.heap.size := size_lt hi (by first | omega | (simp <;> omega)); have hizw4 : w4.heap.size < w6.heap.size := size_lt hi (by first | omega | (simp <;> omega))) | (go_at_call 24; (with_reducible refine (H6.out _).mono ?_); rintro e w7 ⟨rfl, hj⟩; obtain ⟨hj1, hj2⟩ := bcell hj; have hjz0 : w.heap.size < w7.heap.size := size_lt hj (by first | omega | (simp <;> omega)); have hjzw3 : w3.heap.size < w7.heap.size := size_lt hj (by first | omega | (simp <;> omega)); have hjzw4 : w4.heap.size < w7.heap.size := size_lt hj (by first | omega | (simp <;> omega)); have hjzw6 : w6.heap.size < w7.heap.size := size_lt hj (by first | omega | (simp <;> omega))) | (go_at_call 14; (with_reducible refine (H2.out _).mono ?_); rintro e w2 ⟨rfl, hg⟩; obtain ⟨hg1, hg2⟩ := bcell hg; have hgz0 : w.heap.size < w2.heap.size := size_lt hg (by first | omega | (simp <;> omega)); try (have hgz3 : w3.heap.size < w2.heap.size := size_lt hg (by first | omega | (simp <;> omega))); try (have hgz4 : w4.heap.size < w2.heap.size := size_lt hg (by first | omega | (simp <;> omega)))))
  have hbel : Below w.heap.size w (w7.alloc (.cells #[.int .u64 c2, .int .u64 (h2 0), .int .u64 (h2 1), .int .u64 (h2 2), .int .u64 (h2 3), .int .u64 (h2 4), .int .u64 (h2 5), .int .u64 (h2 6), .int .u64 (h2 7)] 25)) := (by repeat (first | (with_reducible exact Below.refl _ _) | (with_reducible assumption) | ((with_reducible refine Below.setCell ?_ ?_ _); rotate_left; (first | omega | (simp <;> omega))) | ((with_reducible refine Below.alloc ?_ ?_ _); rotate_left; (first | omega | (simp <;> omega))) | ((with_reducible refine Below.drew ?_)) | ((with_reducible refine below_drewN ?_ _)) | ((with_reducible refine Below.trans ?_ (Below.mono (by with_reducible assumption) ?_)); rotate_left; (first | omega | (simp <;> omega)))))
  have r1 : Row (w7.alloc (.cells #[.int .u64 c2, .int .u64 (h2 0), .int .u64 (h2 1), .int .u64 (h2 2), .int .u64 (h2 3), .int .u64 (h2 4), .int .u64 (h2 5), .int .u64 (h2 6), .int .u64 (h2 7)] 25)) w3.heap.size #[.int .u64 c1, .int .u64 (h1 0), .int .u64 (h1 1), .int .u64 (h1 2), .int .u64 (h1 3), .int .u64 (h1 4), .int .u64 (h1 5), .int .u64 (h1 6), .int .u64 (h1 7)] := (((((Row.new w3 _ _).later hf).alloc _).later hg).later hi |>.alloc _).later hj |>.alloc _
  have r2 : Row (w7.alloc (.cells #[.int .u64 c2, .int .u64 (h2 0), .int .u64 (h2 1), .int .u64 (h2 2), .int .u64 (h2 3), .int .u64 (h2 4), .int .u64 (h2 5), .int .u64 (h2 6), .int .u64 (h2 7)] 25)) w4.heap.size #[.int .u64 c1, .int .u64 (h1 0), .int .u64 (h1 1), .int .u64 (h1 2), .int .u64 (h1 3), .int .u64 (h1 4), .int .u64 (h1 5), .int .u64 (h1 6), .int .u64 (h1 7)] := ((((Row.new w4 _ _).later hg).later hi).alloc _).later hj |>.alloc _
  have r3 : Row (w7.alloc (.cells #[.int .u64 c2, .int .u64 (h2 0), .int .u64 (h2 1), .int .u64 (h2 2), .int .u64 (h2 3), .int .u64 (h2 4), .int .u64 (h2 5), .int .u64 (h2 6), .int .u64 (h2 7)] 25)) w6.heap.size #[.int .u64 c2, .int .u64 (h2 0), .int .u64 (h2 1), .int .u64 (h2 2), .int .u64 (h2 3), .int .u64 (h2 4), .int .u64 (h2 5), .int .u64 (h2 6), .int .u64 (h2 7)] := ((Row.new w6 _ _).later hj).alloc _
  have r4 : Row (w7.alloc (.cells #[.int .u64 c2, .int .u64 (h2 0), .int .u64 (h2 1), .int .u64 (h2 2), .int .u64 (h2 3), .int .u64 (h2 4), .int .u64 (h2 5), .int .u64 (h2 6), .int .u64 (h2 7)] 25)) w7.heap.size #[.int .u64 c2, .int .u64 (h2 0), .int .u64 (h2 1), .int .u64 (h2 2), .int .u64 (h2 3), .int .u64 (h2 4), .int .u64 (h2 5), .int .u64 (h2 6), .int .u64 (h2 7)] := Row.new w7 _ _
  have HB := Lib.hid hbel
  clear hbel hf hf1 hf2 hg hg1 hg2 hi hi1 hi2 hj hj1 hj2 H1 H2 H3 H4 H5 H6
  generalize w7.alloc (.cells #[.int .u64 c2, .int .u64 (h2 0), .int .u64 (h2 1), .int .u64 (h2 2), .int .u64 (h2 3), .int .u64 (h2 4), .int .u64 (h2 5), .int .u64 (h2 6), .int .u64 (h2 7)] 25) = W at *
  generalize w7.heap.size = B7 at *
  generalize w6.heap.size = B6 at *
  generalize w4.heap.size = B4 at *
  generalize w3.heap.size = B3 at *
  obtain ⟨c3, f3, s3⟩ := r1
  obtain ⟨c4, f4, s4⟩ := r2
  obtain ⟨c6, f6, s6⟩ := r3
  obtain ⟨c7, f7, s7⟩ := r4
  have E1 := eql_led 25 (.inl rfl) c1 h1
  have E2 := eql_led 25 (.inl rfl) c2 h2
  (refine q_region (by kernel_rfl) (by kernel_rfl) ?_; (repeat (first | ((refine q_pure (v := ?_) rfl (fun w' hC => ?hrun) ?_); (case hrun => (obtain ⟨hq1, hq2⟩ := bcell hC; go_simp; with_reducible rfl)); refine q_norm (a' := ?_) ?_ ?_; rotate_left; (simp only [Act.put, List.setIfInBounds_toArray, List.set_cons_zero, List.set_cons_succ]; rfl)) | ((refine q_skip rfl ?_); refine q_norm (a' := ?_) ?_ ?_; rotate_left; (simp only [Act.put, List.setIfInBounds_toArray, List.set_cons_zero, List.set_cons_succ]; rfl)) | ((with_reducible refine q_callB (f := 21) (fun w' _ => ours_calls c1 h1 w') Try.func21 (by kernel_rfl) rfl rfl ?hw ?hargs ?_); (case hw => rfl); (case hargs => (simp only [List.map_toArray, List.map_cons, List.map_nil]; rfl)); refine q_norm (a' := ?_) ?_ ?_; rotate_left; (simp only [Act.put, List.setIfInBounds_toArray, List.set_cons_zero, List.set_cons_succ]; rfl)) | ((with_reducible refine q_callB (f := 21) (fun w' _ => ours_calls c2 h2 w') Try.func21 (by kernel_rfl) rfl rfl ?hw ?hargs ?_); (case hw => rfl); (case hargs => (simp only [List.map_toArray, List.map_cons, List.map_nil]; rfl)); refine q_norm (a' := ?_) ?_ ?_; rotate_left; (simp only [Act.put, List.setIfInBounds_toArray, List.set_cons_zero, List.set_cons_succ]; rfl)) )); with_reducible refine wpQuiet_nil ?_; intro wq hq)
  go_wp2
  go_ret
  exact ⟨rfl, HB.out.trans (hq.mono HB.out.size)⟩

/-- No ledger. -/
def none_ : Nat → Int := fun _ => 0
theorem LedgerMoves_walk (c : Int) (h : Nat → Int) (p bw : Int) (hh : Nums h) (h0c : 0 ≤ c) (hc : c < 18446744073709551616) (h0 : 0 ≤ bw) (h1 : bw < 18446744073709551616) (w : World) :
    Calls Try.prog 7 #[.agg #[.int .u64 c, .int .u64 (h 0), .int .u64 (h 1), .int .u64 (h 2), .int .u64 (h 3), .int .u64 (h 4), .int .u64 (h 5), .int .u64 (h 6), .int .u64 (h 7)], .int .i64 p, .int .u64 bw] w fun e w' => e = .returned (.bool true) ∧ Below w.heap.size w w' := by
  cases hm : mayB c h p with
  | false => exact Moves_core c h p bw 0 none_ 2 0 none_ 2 (Put_arg c h p bw hh hc hm) (RPut_arg c h p bw hh hc hm) (Take_arg c h p bw hh hc hm) (RTake_arg c h p bw hh hc hm) w
  | true =>
    by_cases hr : sumTo h 8 + bw ≤ c
    · by_cases ht : h p.toNat < bw
      · exact Moves_core c h p bw c _ 0 0 none_ 8 (Put_ok c h p bw hh h0c hc h0 h1 hm hr) (RPut_ok c h p bw hh h0c hc h0 h1 hm hr) (Take_none c h p bw hh hc hm ht) (RTake_none c h p bw hh hc hm ht) w
      · exact Moves_core c h p bw c _ 0 c _ 0 (Put_ok c h p bw hh h0c hc h0 h1 hm hr) (RPut_ok c h p bw hh h0c hc h0 h1 hm hr) (Take_ok c h p bw hh hc h0 hm (Int.not_lt.1 ht)) (RTake_ok c h p bw hh hc h0 hm (Int.not_lt.1 ht)) w
    · by_cases ht : h p.toNat < bw
      · exact Moves_core c h p bw 0 none_ 14 0 none_ 8 (Put_room c h p bw hh hc h0 h1 hm hr) (RPut_room c h p bw hh hc h0 h1 hm hr) (Take_none c h p bw hh hc hm ht) (RTake_none c h p bw hh hc hm ht) w
      · exact Moves_core c h p bw 0 none_ 14 c _ 0 (Put_room c h p bw hh hc h0 h1 hm hr) (RPut_room c h p bw hh hc h0 h1 hm hr) (Take_ok c h p bw hh hc h0 hm (Int.not_lt.1 ht)) (RTake_ok c h p bw hh hc h0 hm (Int.not_lt.1 ht)) w
end Go.Proofs.Ytbbhbfeafdibmaa
