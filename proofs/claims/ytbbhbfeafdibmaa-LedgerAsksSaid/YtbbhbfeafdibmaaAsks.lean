/- What is held, what is free, and which ledgers are right, is told as the document says. The walk of the law. -/
import Derived.Test.YtbbhbfeafdibmaaAlive
import Derived.Test.YtbbhbfeafdibmaaRFree
import Derived.Test.YtbbhbfeafdibmaaEq
import Derived.Test.YtbbhbfeafdibmaaCallB
namespace Go.Proofs.Ytbbhbfeafdibmaa
open Go.RowKit Plain
attribute [local go_sem] cell_set_self

set_option maxHeartbeats 4000000 in
theorem Asks_core (c : Int) (h : Nat → Int) (a b n s : Int) (u v r : Bool)
    (HA : ∀ w, Calls Try.prog 11 #[.int .u64 a, .int .u64 b] w fun e w' => e = .returned (.tuple #[.int .u64 n, .bool u]) ∧ w = w')
    (HB : ∀ w, Calls Try.prog 12 #[.int .u64 a, .int .u64 b] w fun e w' => e = .returned (.tuple #[.int .u64 n, .bool u]) ∧ w = w')
    (HS : ∀ w, Calls Try.prog 13 #[.agg #[.int .u64 c, .int .u64 (h 0), .int .u64 (h 1), .int .u64 (h 2), .int .u64 (h 3), .int .u64 (h 4), .int .u64 (h 5), .int .u64 (h 6), .int .u64 (h 7)]] w fun e w' => e = .returned (.tuple #[.int .u64 s, .bool v]) ∧ Below w.heap.size w w')
    (HT : ∀ w, Calls Try.prog 15 #[.agg #[.int .u64 c, .int .u64 (h 0), .int .u64 (h 1), .int .u64 (h 2), .int .u64 (h 3), .int .u64 (h 4), .int .u64 (h 5), .int .u64 (h 6), .int .u64 (h 7)]] w fun e w' => e = .returned (.tuple #[.int .u64 s, .bool v]) ∧ Below w.heap.size w w')
    (HR : ∀ w, Calls Try.prog 16 #[.agg #[.int .u64 c, .int .u64 (h 0), .int .u64 (h 1), .int .u64 (h 2), .int .u64 (h 3), .int .u64 (h 4), .int .u64 (h 5), .int .u64 (h 6), .int .u64 (h 7)]] w fun e w' => e = .returned (.bool r) ∧ Below w.heap.size w w')
    (HQ : ∀ w, Calls Try.prog 17 #[.agg #[.int .u64 c, .int .u64 (h 0), .int .u64 (h 1), .int .u64 (h 2), .int .u64 (h 3), .int .u64 (h 4), .int .u64 (h 5), .int .u64 (h 6), .int .u64 (h 7)]] w fun e w' => e = .returned (.bool r) ∧ Below w.heap.size w w')
    (HF : ∀ w, Calls Try.prog 18 #[.agg #[.int .u64 c, .int .u64 (h 0), .int .u64 (h 1), .int .u64 (h 2), .int .u64 (h 3), .int .u64 (h 4), .int .u64 (h 5), .int .u64 (h 6), .int .u64 (h 7)]] w fun e w' => e = .returned (.agg #[.int .u64 (freeN c h 0), .int .u64 (freeN c h 1), .int .u64 (freeN c h 2), .int .u64 (freeN c h 3), .int .u64 (freeN c h 4), .int .u64 (freeN c h 5), .int .u64 (freeN c h 6), .int .u64 (freeN c h 7)]) ∧ Below w.heap.size w w')
    (HG : ∀ w, Calls Try.prog 19 #[.agg #[.int .u64 c, .int .u64 (h 0), .int .u64 (h 1), .int .u64 (h 2), .int .u64 (h 3), .int .u64 (h 4), .int .u64 (h 5), .int .u64 (h 6), .int .u64 (h 7)]] w fun e w' => e = .returned (.agg #[.int .u64 (freeN c h 0), .int .u64 (freeN c h 1), .int .u64 (freeN c h 2), .int .u64 (freeN c h 3), .int .u64 (freeN c h 4), .int .u64 (freeN c h 5), .int .u64 (freeN c h 6), .int .u64 (freeN c h 7)]) ∧ Below w.heap.size w w')
    (w : World) : Calls Try.prog 3 #[.agg #[.int .u64 c, .int .u64 (h 0), .int .u64 (h 1), .int .u64 (h 2), .int .u64 (h 3), .int .u64 (h 4), .int .u64 (h 5), .int .u64 (h 6), .int .u64 (h 7)], .int .u64 a, .int .u64 b] w fun e w' => e = .returned (.bool true) ∧ Below w.heap.size w w' := by
  have H1 := Lib.hid alive_calls
  have H2 := Lib.hid (theirs_calls c h)
  have H3 := Lib.hid HA
  have H4 := Lib.hid HB
  have H5 := Lib.hid HS
  have H6 := Lib.hid HT
  have H7 := Lib.hid HR
  have H8 := Lib.hid HQ
  have H9 := Lib.hid HF
  have H10 := Lib.hid HG
  clear HA HB HS HT HR HQ HF HG
  go_enter Try.func3, Try.ntmps3
  go_wp2_with (first | (go_at_call 10; (with_reducible refine (H1.out _).mono ?_); rintro e w1 ⟨rfl, hb⟩; obtain ⟨hb1, hb2⟩ := bcell hb; have hbz0 : w.heap.size < w1.heap.size := size_lt hb (by first | omega | (simp <;> omega))) | (go_at_call 11; (with_reducible refine (H3.out _).mono ?_); rintro e w' ⟨rfl, rfl⟩) | (go_at_call 12; (with_reducible refine (H4.out _).mono ?_); rintro e w' ⟨rfl, rfl⟩) | (go_at_call 14; (with_reducible refine (H2.out _).mono ?_); rintro e w2 ⟨rfl, hg⟩; obtain ⟨hg1, hg2⟩ := bcell hg; have hgz0 : w.heap.size < w2.heap.size := size_lt hg (by first | omega | (simp <;> omega))) | (go_at_call 13; (with_reducible refine (H5.out _).mono ?_); rintro e w3 ⟨rfl, hd⟩; obtain ⟨hd1, hd2⟩ := bcell hd; have hdz0 : w.heap.size < w3.heap.size := size_lt hd (by first | omega | (simp <;> omega))) | (go_at_call 15; (with_reducible refine (H6.out _).mono ?_); rintro e w4 ⟨rfl, hf⟩; obtain ⟨hf1, hf2⟩ := bcell hf; have hfz0 : w.heap.size < w4.heap.size := size_lt hf (by first | omega | (simp <;> omega))))
  have hbel : Below w.heap.size w w4 := (by repeat (first | (with_reducible exact Below.refl _ _) | (with_reducible assumption) | ((with_reducible refine Below.setCell ?_ ?_ _); rotate_left; (first | omega | (simp <;> omega))) | ((with_reducible refine Below.alloc ?_ ?_ _); rotate_left; (first | omega | (simp <;> omega))) | ((with_reducible refine Below.drew ?_)) | ((with_reducible refine below_drewN ?_ _)) | ((with_reducible refine Below.trans ?_ (Below.mono (by with_reducible assumption) ?_)); rotate_left; (first | omega | (simp <;> omega)))))
  have r1 : Row w4 w.heap.size #[.int .u64 c, .int .u64 (h 0), .int .u64 (h 1), .int .u64 (h 2), .int .u64 (h 3), .int .u64 (h 4), .int .u64 (h 5), .int .u64 (h 6), .int .u64 (h 7)] := ((((Row.new w _ _).later hb).later hg).later hd).later hf
  have HB := Lib.hid hbel
  clear hbel hb hb1 hb2 hg hg1 hg2 hd hd1 hd2 hf hf1 hf2
  obtain ⟨c1, f1, s1⟩ := r1
  have E := eql_arr (freeN c h)
  (refine q_region (by kernel_rfl) (by kernel_rfl) ?_; (repeat (first | ((refine q_pure (v := ?_) rfl (fun w' hC => ?hrun) ?_); (case hrun => (obtain ⟨hq1, hq2⟩ := bcell hC; go_simp; with_reducible rfl)); refine q_norm (a' := ?_) ?_ ?_; rotate_left; (simp only [Act.put, List.setIfInBounds_toArray, List.set_cons_zero, List.set_cons_succ]; rfl)) | ((refine q_skip rfl ?_); refine q_norm (a' := ?_) ?_ ?_; rotate_left; (simp only [Act.put, List.setIfInBounds_toArray, List.set_cons_zero, List.set_cons_succ]; rfl)) | ((with_reducible refine q_callB (f := 14) (fun w' _ => H2.out w') Try.func14 (by kernel_rfl) rfl rfl ?hw ?hargs ?_); (case hw => rfl); (case hargs => (simp only [List.map_toArray, List.map_cons, List.map_nil]; rfl)); refine q_norm (a' := ?_) ?_ ?_; rotate_left; (simp only [Act.put, List.setIfInBounds_toArray, List.set_cons_zero, List.set_cons_succ]; rfl)) | ((with_reducible refine q_callB (f := 16) (fun w' _ => H7.out w') Try.func16 (by kernel_rfl) rfl rfl ?hw ?hargs ?_); (case hw => rfl); (case hargs => (simp only [List.map_toArray, List.map_cons, List.map_nil]; rfl)); refine q_norm (a' := ?_) ?_ ?_; rotate_left; (simp only [Act.put, List.setIfInBounds_toArray, List.set_cons_zero, List.set_cons_succ]; rfl)) | ((with_reducible refine q_callB (f := 17) (fun w' _ => H8.out w') Try.func17 (by kernel_rfl) rfl rfl ?hw ?hargs ?_); (case hw => rfl); (case hargs => (simp only [List.map_toArray, List.map_cons, List.map_nil]; rfl)); refine q_norm (a' := ?_) ?_ ?_; rotate_left; (simp only [Act.put, List.setIfInBounds_toArray, List.set_cons_zero, List.set_cons_succ]; rfl)) | ((with_reducible refine q_callB (f := 18) (fun w' _ => H9.out w') Try.func18 (by kernel_rfl) rfl rfl ?hw ?hargs ?_); (case hw => rfl); (case hargs => (simp only [List.map_toArray, List.map_cons, List.map_nil]; rfl)); refine q_norm (a' := ?_) ?_ ?_; rotate_left; (simp only [Act.put, List.setIfInBounds_toArray, List.set_cons_zero, List.set_cons_succ]; rfl)) | ((with_reducible refine q_callB (f := 19) (fun w' _ => H10.out w') Try.func19 (by kernel_rfl) rfl rfl ?hw ?hargs ?_); (case hw => rfl); (case hargs => (simp only [List.map_toArray, List.map_cons, List.map_nil]; rfl)); refine q_norm (a' := ?_) ?_ ?_; rotate_left; (simp only [Act.put, List.setIfInBounds_toArray, List.set_cons_zero, List.set_cons_succ]; rfl)) )); with_reducible refine wpQuiet_nil ?_; intro wq hq)
  go_wp2
  go_ret
  exact ⟨rfl, HB.out.trans (hq.mono HB.out.size)⟩

theorem LedgerAsks_walk (c : Int) (h : Nat → Int) (a b : Int) (hh : Nums h) (h0c : 0 ≤ c) (hc : c < 18446744073709551616) (ha0 : 0 ≤ a) (ha1 : a < 18446744073709551616) (hb0 : 0 ≤ b) (hb1 : b < 18446744073709551616) (w : World) :
    Calls Try.prog 3 #[.agg #[.int .u64 c, .int .u64 (h 0), .int .u64 (h 1), .int .u64 (h 2), .int .u64 (h 3), .int .u64 (h 4), .int .u64 (h 5), .int .u64 (h 6), .int .u64 (h 7)], .int .u64 a, .int .u64 b] w fun e w' => e = .returned (.bool true) ∧ Below w.heap.size w w' :=
  Asks_core c h a b _ _ _ _ _ (Add_calls a b ha0 hb0 ha1 hb1) (RAdd_calls a b ha0 hb0 ha1 hb1) (Sum_calls c h hh) (RSum_calls c h hh) (Right_calls c h hh hc) (RRight_calls c h hh hc) (Free_calls c h hh h0c hc) (RFree_calls c h hh h0c hc) w
end Go.Proofs.Ytbbhbfeafdibmaa
