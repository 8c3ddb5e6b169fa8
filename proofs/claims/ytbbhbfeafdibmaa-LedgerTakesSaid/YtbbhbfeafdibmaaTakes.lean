/- What is put at a priority is taken from what is free there, and for all lower ones; the higher ones keep theirs. The walk of the law. -/
import Derived.Test.YtbbhbfeafdibmaaEither
import Derived.LoopTactic
import Derived.Deep.QuietTactic
import Derived.BigQuiet
import Derived.Test.YtbbhbfeafdibmaaFalls
namespace Go.Proofs.Ytbbhbfeafdibmaa
open Go.RowKit Plain
attribute [local go_sem] cell_set_self

theorem row_set8 {w : World} {p : Nat} {x0 x1 x2 x3 x4 x5 x6 x7 : Value} (hr : Row w p #[x0, x1, x2, x3, x4, x5, x6, x7]) (f : Nat → Int) : Row ((((((((w.setCell ⟨p, 0, none⟩ (.int .u64 (f 0))).setCell ⟨p, 1, none⟩ (.int .u64 (f 1))).setCell ⟨p, 2, none⟩ (.int .u64 (f 2))).setCell ⟨p, 3, none⟩ (.int .u64 (f 3))).setCell ⟨p, 4, none⟩ (.int .u64 (f 4))).setCell ⟨p, 5, none⟩ (.int .u64 (f 5))).setCell ⟨p, 6, none⟩ (.int .u64 (f 6))).setCell ⟨p, 7, none⟩ (.int .u64 (f 7))) p #[.int .u64 (f 0), .int .u64 (f 1), .int .u64 (f 2), .int .u64 (f 3), .int .u64 (f 4), .int .u64 (f 5), .int .u64 (f 6), .int .u64 (f 7)] := by
  have r := (((((((hr.set 0 (.int .u64 (f 0))).set 1 (.int .u64 (f 1))).set 2 (.int .u64 (f 2))).set 3 (.int .u64 (f 3))).set 4 (.int .u64 (f 4))).set 5 (.int .u64 (f 5))).set 6 (.int .u64 (f 6))).set 7 (.int .u64 (f 7))
  simp only [List.setIfInBounds_toArray, List.set_cons_zero, List.set_cons_succ] at r
  exact r
theorem row_far8 {w : World} {p B : Nat} {xs : Array Value} (hr : Row w B xs) (hne : p ≠ B) (f : Nat → Int) : Row ((((((((w.setCell ⟨p, 0, none⟩ (.int .u64 (f 0))).setCell ⟨p, 1, none⟩ (.int .u64 (f 1))).setCell ⟨p, 2, none⟩ (.int .u64 (f 2))).setCell ⟨p, 3, none⟩ (.int .u64 (f 3))).setCell ⟨p, 4, none⟩ (.int .u64 (f 4))).setCell ⟨p, 5, none⟩ (.int .u64 (f 5))).setCell ⟨p, 6, none⟩ (.int .u64 (f 6))).setCell ⟨p, 7, none⟩ (.int .u64 (f 7))) B xs :=
  (((((((hr.far hne _).far hne _).far hne _).far hne _).far hne _).far hne _).far hne _).far hne _
theorem below_set8 {w0 w : World} {B p : Nat} (hb : Below B w0 w) (hp : B ≤ p) (f : Nat → Int) : Below B w0 ((((((((w.setCell ⟨p, 0, none⟩ (.int .u64 (f 0))).setCell ⟨p, 1, none⟩ (.int .u64 (f 1))).setCell ⟨p, 2, none⟩ (.int .u64 (f 2))).setCell ⟨p, 3, none⟩ (.int .u64 (f 3))).setCell ⟨p, 4, none⟩ (.int .u64 (f 4))).setCell ⟨p, 5, none⟩ (.int .u64 (f 5))).setCell ⟨p, 6, none⟩ (.int .u64 (f 6))).setCell ⟨p, 7, none⟩ (.int .u64 (f 7))) :=
  (((((((hb.setCell hp _).setCell hp _).setCell hp _).setCell hp _).setCell hp _).setCell hp _).setCell hp _).setCell hp _

/-- What is free at k, when bw more is held at p. -/
theorem free_put {c : Int} {h : Nat → Int} {p : Nat} {bw : Int} (hh : Nums h) (h0 : 0 ≤ bw) (hs : sumTo h 8 + bw ≤ c) (k : Nat) (hk : k < 8) :
    (k < p → freeN c (setAt h p (h p + bw)) k = freeN c h k) ∧ (p ≤ k → freeN c (setAt h p (h p + bw)) k = freeN c h k - bw) ∧ 0 ≤ freeN c h k ∧ (p ≤ k → bw ≤ freeN c h k) ∧ freeN c h k ≤ c := by
  have e := sumTo_setAt h p (h p + bw) (k + 1)
  have m := sumTo_mono hh (i := k + 1) 8 (by omega) (by omega)
  have z := sumTo_nonneg hh (k + 1) (by omega)
  have f1 : freeN c h k = c - sumTo h (k + 1) := free_yes (by omega)
  by_cases hp : p < k + 1
  · rw [if_pos hp] at e
    have f2 : freeN c (setAt h p (h p + bw)) k = c - sumTo (setAt h p (h p + bw)) (k + 1) := free_yes (by omega)
    exact ⟨fun h' => by omega, fun _ => by omega, by omega, fun _ => by omega, by omega⟩
  · rw [if_neg hp] at e
    have f2 : freeN c (setAt h p (h p + bw)) k = c - sumTo (setAt h p (h p + bw)) (k + 1) := free_yes (by omega)
    exact ⟨fun _ => by omega, fun h' => by omega, by omega, fun h' => by omega, by omega⟩

set_option maxRecDepth 100000 in
set_option maxHeartbeats 8000000 in
theorem Takes_no (c : Int) (h : Nat → Int) (p bw c1 e1 : Int) (h1 : Nat → Int) (he : (e1 != 0) = true)
    (HP : ∀ w, Calls Try.prog 20 #[.agg #[.int .u64 c, .int .u64 (h 0), .int .u64 (h 1), .int .u64 (h 2), .int .u64 (h 3), .int .u64 (h 4), .int .u64 (h 5), .int .u64 (h 6), .int .u64 (h 7)], .int .i64 p, .int .u64 bw] w fun e w' => e = .returned (.tuple #[.agg #[.int .u64 c1, .int .u64 (h1 0), .int .u64 (h1 1), .int .u64 (h1 2), .int .u64 (h1 3), .int .u64 (h1 4), .int .u64 (h1 5), .int .u64 (h1 6), .int .u64 (h1 7)], .int .i64 e1]) ∧ Below w.heap.size w w')
    (w : World) : Calls Try.prog 5 #[.agg #[.int .u64 c, .int .u64 (h 0), .int .u64 (h 1), .int .u64 (h 2), .int .u64 (h 3), .int .u64 (h 4), .int .u64 (h 5), .int .u64 (h 6), .int .u64 (h 7)], .int .i64 p, .int .u64 bw] w fun e w' => e = .returned (.bool true) ∧ Below w.heap.size w w' := by
  have H1 := Lib.hid alive_calls
  have H2 := Lib.hid (theirs_calls c h)
  have H3 := Lib.hid HP
  clear HP
  go_enter Try.func5, Try.ntmps5
  go_wp2_with (first | (go_at_call 10; (with_reducible refine (H1.out _).mono ?_); rintro e w1 ⟨rfl, hb⟩; obtain ⟨hb1, hb2⟩ := bcell hb; have hbz0 : w.heap.size < w1.heap.size := size_lt hb (by first | omega | (simp <;> omega))) | (go_at_call 14; (with_reducible refine (H2.out _).mono ?_); rintro e w2 ⟨rfl, hg⟩; obtain ⟨hg1, hg2⟩ := bcell hg; have hgz0 : w.heap.size < w2.heap.size := size_lt hg (by first | omega | (simp <;> omega))) | (go_at_call 20; (with_reducible refine (H3.out _).mono ?_); rintro e w3 ⟨rfl, hd⟩; obtain ⟨hd1, hd2⟩ := bcell hd; have hdz0 : w.heap.size < w3.heap.size := size_lt hd (by first | omega | (simp <;> omega))))
  go_ret
  exact ⟨rfl, (by repeat (first | (with_reducible exact Below.refl _ _) | (with_reducible assumption) | ((with_reducible refine Below.setCell ?_ ?_ _); rotate_left; (first | omega | (simp <;> omega))) | ((with_reducible refine Below.alloc ?_ ?_ _); rotate_left; (first | omega | (simp <;> omega))) | ((with_reducible refine Below.drew ?_)) | ((with_reducible refine below_drewN ?_ _)) | ((with_reducible refine Below.trans ?_ (Below.mono (by with_reducible assumption) ?_)); rotate_left; (first | omega | (simp <;> omega)))))⟩

set_option maxRecDepth 100000 in
set_option maxHeartbeats 8000000 in
theorem Takes_yes (c : Int) (h : Nat → Int) (p bw : Int) (h1 : Nat → Int)
    (hlo : ∀ k : Nat, k < 8 → (k : Int) < p → freeN c h1 k = freeN c h k) (hhi : ∀ k : Nat, k < 8 → p ≤ (k : Int) → IntKind.u64.wrap (freeN c h k - bw) = freeN c h1 k)
    (HP : ∀ w, Calls Try.prog 20 #[.agg #[.int .u64 c, .int .u64 (h 0), .int .u64 (h 1), .int .u64 (h 2), .int .u64 (h 3), .int .u64 (h 4), .int .u64 (h 5), .int .u64 (h 6), .int .u64 (h 7)], .int .i64 p, .int .u64 bw] w fun e w' => e = .returned (.tuple #[.agg #[.int .u64 c, .int .u64 (h1 0), .int .u64 (h1 1), .int .u64 (h1 2), .int .u64 (h1 3), .int .u64 (h1 4), .int .u64 (h1 5), .int .u64 (h1 6), .int .u64 (h1 7)], .int .i64 0]) ∧ Below w.heap.size w w')
    (HF : ∀ w, Calls Try.prog 18 #[.agg #[.int .u64 c, .int .u64 (h 0), .int .u64 (h 1), .int .u64 (h 2), .int .u64 (h 3), .int .u64 (h 4), .int .u64 (h 5), .int .u64 (h 6), .int .u64 (h 7)]] w fun e w' => e = .returned (.agg #[.int .u64 (freeN c h 0), .int .u64 (freeN c h 1), .int .u64 (freeN c h 2), .int .u64 (freeN c h 3), .int .u64 (freeN c h 4), .int .u64 (freeN c h 5), .int .u64 (freeN c h 6), .int .u64 (freeN c h 7)]) ∧ Below w.heap.size w w')
    (HG : ∀ w, Calls Try.prog 18 #[.agg #[.int .u64 c, .int .u64 (h1 0), .int .u64 (h1 1), .int .u64 (h1 2), .int .u64 (h1 3), .int .u64 (h1 4), .int .u64 (h1 5), .int .u64 (h1 6), .int .u64 (h1 7)]] w fun e w' => e = .returned (.agg #[.int .u64 (freeN c h1 0), .int .u64 (freeN c h1 1), .int .u64 (freeN c h1 2), .int .u64 (freeN c h1 3), .int .u64 (freeN c h1 4), .int .u64 (freeN c h1 5), .int .u64 (freeN c h1 6), .int .u64 (freeN c h1 7)]) ∧ Below w.heap.size w w')
    (w : World) : Calls Try.prog 5 #[.agg #[.int .u64 c, .int .u64 (h 0), .int .u64 (h 1), .int .u64 (h 2), .int .u64 (h 3), .int .u64 (h 4), .int .u64 (h 5), .int .u64 (h 6), .int .u64 (h 7)], .int .i64 p, .int .u64 bw] w fun e w' => e = .returned (.bool true) ∧ Below w.heap.size w w' := by
  have HLO := Lib.hid hlo
  have HHI := Lib.hid hhi
  clear hlo hhi
  have H1 := Lib.hid alive_calls
  have H2 := Lib.hid (theirs_calls c h)
  have H3 := Lib.hid HP
  have H4 := Lib.hid HF
  have H5 := Lib.hid HG
  clear HP HF HG
  go_enter Try.func5, Try.ntmps5
  go_wp2_with (first | (go_at_call 10; (with_reducible refine (H1.out _).mono ?_); rintro e w1 ⟨rfl, hb⟩; obtain ⟨hb1, hb2⟩ := bcell hb; have hbz0 : w.heap.size < w1.heap.size := size_lt hb (by first | omega | (simp <;> omega))) | (go_at_call 14; (with_reducible refine (H2.out _).mono ?_); rintro e w2 ⟨rfl, hg⟩; obtain ⟨hg1, hg2⟩ := bcell hg; have hgz0 : w.heap.size < w2.heap.size := size_lt hg (by first | omega | (simp <;> omega))) | (go_at_call 20; (with_reducible refine (H3.out _).mono ?_); rintro e w3 ⟨rfl, hd⟩; obtain ⟨hd1, hd2⟩ := bcell hd; have hdz0 : w.heap.size < w3.heap.size := size_lt hd (by first | omega | (simp <;> omega))))
  have hbel : Below w.heap.size w (w3.alloc (.cells #[.int .u64 c, .int .u64 (h1 0), .int .u64 (h1 1), .int .u64 (h1 2), .int .u64 (h1 3), .int .u64 (h1 4), .int .u64 (h1 5), .int .u64 (h1 6), .int .u64 (h1 7)] 30)) := (by repeat (first | (with_reducible exact Below.refl _ _) | (with_reducible assumption) | ((with_reducible refine Below.setCell ?_ ?_ _); rotate_left; (first | omega | (simp <;> omega))) | ((with_reducible refine Below.alloc ?_ ?_ _); rotate_left; (first | omega | (simp <;> omega))) | ((with_reducible refine Below.drew ?_)) | ((with_reducible refine below_drewN ?_ _)) | ((with_reducible refine Below.trans ?_ (Below.mono (by with_reducible assumption) ?_)); rotate_left; (first | omega | (simp <;> omega)))))
  have HB := Lib.hid hbel
  have r1 := ((((Row.new w #[.int .u64 c, .int .u64 (h 0), .int .u64 (h 1), .int .u64 (h 2), .int .u64 (h 3), .int .u64 (h 4), .int .u64 (h 5), .int .u64 (h 6), .int .u64 (h 7)] 25).later hb).later hg).later hd).alloc (.cells #[.int .u64 c, .int .u64 (h1 0), .int .u64 (h1 1), .int .u64 (h1 2), .int .u64 (h1 3), .int .u64 (h1 4), .int .u64 (h1 5), .int .u64 (h1 6), .int .u64 (h1 7)] 30)
  have r2 := Row.new w3 #[.int .u64 c, .int .u64 (h1 0), .int .u64 (h1 1), .int .u64 (h1 2), .int .u64 (h1 3), .int .u64 (h1 4), .int .u64 (h1 5), .int .u64 (h1 6), .int .u64 (h1 7)] 30
  clear hbel hb hb1 hb2 hbz0 hg hg1 hg2 hgz0 hd hd1 hd2 hdz0 H1
  generalize w3.alloc (.cells #[.int .u64 c, .int .u64 (h1 0), .int .u64 (h1 1), .int .u64 (h1 2), .int .u64 (h1 3), .int .u64 (h1 4), .int .u64 (h1 5), .int .u64 (h1 6), .int .u64 (h1 7)] 30) = W at *
  generalize w3.heap.size = B7 at *
  obtain ⟨x1, y1, z1⟩ := r1
  obtain ⟨x2, y2, z2⟩ := r2
  (refine reg2 [0,0,0,0,0,1,1] 5 6 9 10 _ _ #[.int .u64 0, .int .u64 0, .int .u64 0, .int .u64 0, .int .u64 0, .int .u64 0, .int .u64 0, .int .u64 0] #[.int .u64 0, .int .u64 0, .int .u64 0, .int .u64 0, .int .u64 0, .int .u64 0, .int .u64 0, .int .u64 0] (by kernel_rfl) _ rfl (by kernel_rfl) ?hlen rfl (by decide) rfl rfl rfl rfl ⟨rfl, fun ρ w => ⟨23, by kernel_rfl⟩⟩ ⟨rfl, fun ρ w => ⟨23, by kernel_rfl⟩⟩ ?hQ ?_; (case hlen => decide); (case hQ => (intro c a o v w h; cases o <;> exact h)); (repeat (first | (with_reducible refine p_fresh ?_) | ((with_reducible refine p_pure (v := ?_) ?hw (fun w' hC => ?hrun) ?_); (case hw => rfl); (case hrun => (obtain ⟨hq1, hq2⟩ := bcell hC; go_simp; with_reducible rfl)); refine p_norm (a' := ?_) ?_ ?_; rotate_left; (simp only [Act.put, List.setIfInBounds_toArray, List.set_cons_zero, List.set_cons_succ]; rfl)) | ((with_reducible refine p_late (v := ?_) ?hw (fun w' => ?hrun) ?_); (case hw => rfl); (case hrun => (go_simp; with_reducible rfl)); refine p_norm (a' := ?_) ?_ ?_; rotate_left; (simp only [Act.put, List.setIfInBounds_toArray, List.set_cons_zero, List.set_cons_succ]; rfl)) | ((with_reducible refine p_skip ?hw ?_); (case hw => rfl); refine p_norm (a' := ?_) ?_ ?_; rotate_left; (simp only [Act.put, List.setIfInBounds_toArray, List.set_cons_zero, List.set_cons_succ]; rfl)) | ((with_reducible refine p_lateskip ?hw ?_); (case hw => rfl); refine p_norm (a' := ?_) ?_ ?_; rotate_left; (simp only [Act.put, List.setIfInBounds_toArray, List.set_cons_zero, List.set_cons_succ]; rfl)) | ((with_reducible refine p_call (f := 14) (fun w' _ => H2.out w') Try.func14 (by kernel_rfl) rfl rfl ?hw ?hargs ?_); (case hw => rfl); (case hargs => (simp only [List.map_toArray, List.map_cons, List.map_nil]; rfl)); refine p_norm (a' := ?_) ?_ ?_; rotate_left; (simp only [Act.put, List.setIfInBounds_toArray, List.set_cons_zero, List.set_cons_succ]; rfl)) | ((with_reducible refine p_call (f := 18) (fun w' _ => H4.out w') Try.func18 (by kernel_rfl) rfl rfl ?hw ?hargs ?_); (case hw => rfl); (case hargs => (simp only [List.map_toArray, List.map_cons, List.map_nil]; rfl)); refine p_norm (a' := ?_) ?_ ?_; rotate_left; (simp only [Act.put, List.setIfInBounds_toArray, List.set_cons_zero, List.set_cons_succ]; rfl)) | ((with_reducible refine p_call (f := 18) (fun w' _ => H5.out w') Try.func18 (by kernel_rfl) rfl rfl ?hw ?hargs ?_); (case hw => rfl); (case hargs => (simp only [List.map_toArray, List.map_cons, List.map_nil]; rfl)); refine p_norm (a' := ?_) ?_ ?_; rotate_left; (simp only [Act.put, List.setIfInBounds_toArray, List.set_cons_zero, List.set_cons_succ]; rfl)) )); with_reducible refine p_nil ?_; intro w4 q r hq hp hr hne rq rr; simp only [List.length_cons, List.length_nil, Nat.reduceAdd, List.drop_succ_cons, List.drop_zero, Act.put, List.setIfInBounds_toArray, List.set_cons_zero, List.set_cons_succ])
  have hq0 : w.heap.size ≤ q := by omega
  have hr0 : w.heap.size ≤ r := by omega
  have HNE := Lib.hid hne
  have HRQ := Lib.hid rq
  have HRR := Lib.hid rr
  have HB1 := Lib.hid (HB.out.trans (hq.mono HB.out.size))
  clear hq hp hr x1 y1 z1 x2 y2 z2 H2 H3 H4 H5 HB
  have hn2 : ¬ r = q := fun e => hne e.symm
  obtain ⟨x1, y1, z1⟩ := rq
  obtain ⟨x2, y2, z2⟩ := rr
  go_wp2_with fail
  have HB2 := Lib.hid (below_set8 (below_set8 HB1.out hq0 (freeN c h)) hr0 (freeN c h1))
  have HQ := Lib.hid (row_far8 (row_set8 HRQ.out (freeN c h)) hn2 (freeN c h1))
  have HR := Lib.hid (row_set8 (row_far8 HRR.out hne (freeN c h)) (freeN c h1))
  clear x1 y1 z1 x2 y2 z2 hq0 hr0 HRQ HRR HB1 hne hn2
  go_loopw [29] (fun i wr => ∃ k : Int, 0 ≤ k ∧ k ≤ 8 ∧ i = .int .i64 k ∧ Below w.heap.size w wr ∧ Row wr q #[.int .u64 (freeN c h 0), .int .u64 (freeN c h 1), .int .u64 (freeN c h 2), .int .u64 (freeN c h 3), .int .u64 (freeN c h 4), .int .u64 (freeN c h 5), .int .u64 (freeN c h 6), .int .u64 (freeN c h 7)] ∧ Row wr r #[.int .u64 (freeN c h1 0), .int .u64 (freeN c h1 1), .int .u64 (freeN c h1 2), .int .u64 (freeN c h1 3), .int .u64 (freeN c h1 4), .int .u64 (freeN c h1 5), .int .u64 (freeN c h1 6), .int .u64 (freeN c h1 7)]) (fun i _ => 8 - (intOf i).toNat)
  case atStart => exact ⟨0, by omega, by omega, rfl, HB2.out, HQ.out, HR.out⟩
  case round =>
    obtain ⟨k, hk0, hk8, rfl, hbel, hr1, hr2⟩ := hrel
    clear HB2 HQ HR
    have HB2 := Lib.hid hbel
    have HQ := Lib.hid hr1
    have HR := Lib.hid hr2
    clear hbel
    obtain ⟨x1, y1, z1⟩ := hr1
    obtain ⟨x2, y2, z2⟩ := hr2
    have hkc : k = 0 ∨ k = 1 ∨ k = 2 ∨ k = 3 ∨ k = 4 ∨ k = 5 ∨ k = 6 ∨ k = 7 ∨ k = 8 := by omega
    clear hk0 hk8
    rcases hkc with rfl | rfl | rfl | rfl | rfl | rfl | rfl | rfl | rfl
    · by_cases hc : (0 : Int) < p
      · have e := HLO.out 0 (by omega) hc
        have hd : decide ((0 : Int) < p) = true := decide_eq_true hc
        have hd2 : decide (p ≤ (0 : Int)) = false := decide_eq_false (by omega)
        clear hc
        go_wp2_with fail
        go_quiet (fail)
        go_wp2_with fail
        go_roundw
        case rel => exact ⟨_, by omega, by omega, rfl, Go.Proofs.Ytbbhbfeafdibmaa.below_drewN HB2.out _, HQ.out.drewN _, HR.out.drewN _⟩
        case measure => simp [intOf]
      · have e := HHI.out 0 (by omega) (by omega)
        have hd : decide ((0 : Int) < p) = false := decide_eq_false hc
        have hd2 : decide (p ≤ (0 : Int)) = true := decide_eq_true (by omega)
        clear hc
        go_wp2_with fail
        go_quiet (fail)
        go_wp2_with fail
        go_roundw
        case rel => exact ⟨_, by omega, by omega, rfl, Go.Proofs.Ytbbhbfeafdibmaa.below_drewN HB2.out _, HQ.out.drewN _, HR.out.drewN _⟩
        case measure => simp [intOf]
    · by_cases hc : (1 : Int) < p
      · have e := HLO.out 1 (by omega) hc
        have hd : decide ((1 : Int) < p) = true := decide_eq_true hc
        have hd2 : decide (p ≤ (1 : Int)) = false := decide_eq_false (by omega)
        clear hc
        go_wp2_with fail
        go_quiet (fail)
        go_wp2_with fail
        go_roundw
        case rel => exact ⟨_, by omega, by omega, rfl, Go.Proofs.Ytbbhbfeafdibmaa.below_drewN HB2.out _, HQ.out.drewN _, HR.out.drewN _⟩
        case measure => simp [intOf]
      · have e := HHI.out 1 (by omega) (by omega)
        have hd : decide ((1 : Int) < p) = false := decide_eq_false hc
        have hd2 : decide (p ≤ (1 : Int)) = true := decide_eq_true (by omega)
        clear hc
        go_wp2_with fail
        go_quiet (fail)
        go_wp2_with fail
        go_roundw
        case rel => exact ⟨_, by omega, by omega, rfl, Go.Proofs.Ytbbhbfeafdibmaa.below_drewN HB2.out _, HQ.out.drewN _, HR.out.drewN _⟩
        case measure => simp [intOf]
    · by_cases hc : (2 : Int) < p
      · have e := HLO.out 2 (by omega) hc
        have hd : decide ((2 : Int) < p) = true := decide_eq_true hc
        have hd2 : decide (p ≤ (2 : Int)) = false := decide_eq_false (by omega)
        clear hc
        go_wp2_with fail
        go_quiet (fail)
        go_wp2_with fail
        go_roundw
        case rel => exact ⟨_, by omega, by omega, rfl, Go.Proofs.Ytbbhbfeafdibmaa.below_drewN HB2.out _, HQ.out.drewN _, HR.out.drewN _⟩
        case measure => simp [intOf]
      · have e := HHI.out 2 (by omega) (by omega)
        have hd : decide ((2 : Int) < p) = false := decide_eq_false hc
        have hd2 : decide (p ≤ (2 : Int)) = true := decide_eq_true (by omega)
        clear hc
        go_wp2_with fail
        go_quiet (fail)
        go_wp2_with fail
        go_roundw
        case rel => exact ⟨_, by omega, by omega, rfl, Go.Proofs.Ytbbhbfeafdibmaa.below_drewN HB2.out _, HQ.out.drewN _, HR.out.drewN _⟩
        case measure => simp [intOf]
    · by_cases hc : (3 : Int) < p
      · have e := HLO.out 3 (by omega) hc
        have hd : decide ((3 : Int) < p) = true := decide_eq_true hc
        have hd2 : decide (p ≤ (3 : Int)) = false := decide_eq_false (by omega)
        clear hc
        go_wp2_with fail
        go_quiet (fail)
        go_wp2_with fail
        go_roundw
        case rel => exact ⟨_, by omega, by omega, rfl, Go.Proofs.Ytbbhbfeafdibmaa.below_drewN HB2.out _, HQ.out.drewN _, HR.out.drewN _⟩
        case measure => simp [intOf]
      · have e := HHI.out 3 (by omega) (by omega)
        have hd : decide ((3 : Int) < p) = false := decide_eq_false hc
        have hd2 : decide (p ≤ (3 : Int)) = true := decide_eq_true (by omega)
        clear hc
        go_wp2_with fail
        go_quiet (fail)
        go_wp2_with fail
        go_roundw
        case rel => exact ⟨_, by omega, by omega, rfl, Go.Proofs.Ytbbhbfeafdibmaa.below_drewN HB2.out _, HQ.out.drewN _, HR.out.drewN _⟩
        case measure => simp [intOf]
    · by_cases hc : (4 : Int) < p
      · have e := HLO.out 4 (by omega) hc
        have hd : decide ((4 : Int) < p) = true := decide_eq_true hc
        have hd2 : decide (p ≤ (4 : Int)) = false := decide_eq_false (by omega)
        clear hc
        go_wp2_with fail
        go_quiet (fail)
        go_wp2_with fail
        go_roundw
        case rel => exact ⟨_, by omega, by omega, rfl, Go.Proofs.Ytbbhbfeafdibmaa.below_drewN HB2.out _, HQ.out.drewN _, HR.out.drewN _⟩
        case measure => simp [intOf]
      · have e := HHI.out 4 (by omega) (by omega)
        have hd : decide ((4 : Int) < p) = false := decide_eq_false hc
        have hd2 : decide (p ≤ (4 : Int)) = true := decide_eq_true (by omega)
        clear hc
        go_wp2_with fail
        go_quiet (fail)
        go_wp2_with fail
        go_roundw
        case rel => exact ⟨_, by omega, by omega, rfl, Go.Proofs.Ytbbhbfeafdibmaa.below_drewN HB2.out _, HQ.out.drewN _, HR.out.drewN _⟩
        case measure => simp [intOf]
    · by_cases hc : (5 : Int) < p
      · have e := HLO.out 5 (by omega) hc
        have hd : decide ((5 : Int) < p) = true := decide_eq_true hc
        have hd2 : decide (p ≤ (5 : Int)) = false := decide_eq_false (by omega)
        clear hc
        go_wp2_with fail
        go_quiet (fail)
        go_wp2_with fail
        go_roundw
        case rel => exact ⟨_, by omega, by omega, rfl, Go.Proofs.Ytbbhbfeafdibmaa.below_drewN HB2.out _, HQ.out.drewN _, HR.out.drewN _⟩
        case measure => simp [intOf]
      · have e := HHI.out 5 (by omega) (by omega)
        have hd : decide ((5 : Int) < p) = false := decide_eq_false hc
        have hd2 : decide (p ≤ (5 : Int)) = true := decide_eq_true (by omega)
        clear hc
        go_wp2_with fail
        go_quiet (fail)
        go_wp2_with fail
        go_roundw
        case rel => exact ⟨_, by omega, by omega, rfl, Go.Proofs.Ytbbhbfeafdibmaa.below_drewN HB2.out _, HQ.out.drewN _, HR.out.drewN _⟩
        case measure => simp [intOf]
    · by_cases hc : (6 : Int) < p
      · have e := HLO.out 6 (by omega) hc
        have hd : decide ((6 : Int) < p) = true := decide_eq_true hc
        have hd2 : decide (p ≤ (6 : Int)) = false := decide_eq_false (by omega)
        clear hc
        go_wp2_with fail
        go_quiet (fail)
        go_wp2_with fail
        go_roundw
        case rel => exact ⟨_, by omega, by omega, rfl, Go.Proofs.Ytbbhbfeafdibmaa.below_drewN HB2.out _, HQ.out.drewN _, HR.out.drewN _⟩
        case measure => simp [intOf]
      · have e := HHI.out 6 (by omega) (by omega)
        have hd : decide ((6 : Int) < p) = false := decide_eq_false hc
        have hd2 : decide (p ≤ (6 : Int)) = true := decide_eq_true (by omega)
        clear hc
        go_wp2_with fail
        go_quiet (fail)
        go_wp2_with fail
        go_roundw
        case rel => exact ⟨_, by omega, by omega, rfl, Go.Proofs.Ytbbhbfeafdibmaa.below_drewN HB2.out _, HQ.out.drewN _, HR.out.drewN _⟩
        case measure => simp [intOf]
    · by_cases hc : (7 : Int) < p
      · have e := HLO.out 7 (by omega) hc
        have hd : decide ((7 : Int) < p) = true := decide_eq_true hc
        have hd2 : decide (p ≤ (7 : Int)) = false := decide_eq_false (by omega)
        clear hc
        go_wp2_with fail
        go_quiet (fail)
        go_wp2_with fail
        go_roundw
        case rel => exact ⟨_, by omega, by omega, rfl, Go.Proofs.Ytbbhbfeafdibmaa.below_drewN HB2.out _, HQ.out.drewN _, HR.out.drewN _⟩
        case measure => simp [intOf]
      · have e := HHI.out 7 (by omega) (by omega)
        have hd : decide ((7 : Int) < p) = false := decide_eq_false hc
        have hd2 : decide (p ≤ (7 : Int)) = true := decide_eq_true (by omega)
        clear hc
        go_wp2_with fail
        go_quiet (fail)
        go_wp2_with fail
        go_roundw
        case rel => exact ⟨_, by omega, by omega, rfl, Go.Proofs.Ytbbhbfeafdibmaa.below_drewN HB2.out _, HQ.out.drewN _, HR.out.drewN _⟩
        case measure => simp [intOf]
    · go_wp2_with fail
      go_ret
      exact ⟨rfl, HB2.out⟩

theorem LedgerTakes_walk (c : Int) (h : Nat → Int) (p bw : Int) (hh : Nums h) (h0c : 0 ≤ c) (hc : c < 18446744073709551616) (h0 : 0 ≤ bw) (h1 : bw < 18446744073709551616) (w : World) :
    Calls Try.prog 5 #[.agg #[.int .u64 c, .int .u64 (h 0), .int .u64 (h 1), .int .u64 (h 2), .int .u64 (h 3), .int .u64 (h 4), .int .u64 (h 5), .int .u64 (h 6), .int .u64 (h 7)], .int .i64 p, .int .u64 bw] w fun e w' => e = .returned (.bool true) ∧ Below w.heap.size w w' := by
  have HP := Put_any c h p bw hh h0c hc h0 h1
  by_cases hp : 0 ≤ p ∧ p < 8 ∧ sumTo h 8 ≤ c ∧ sumTo h 8 + bw ≤ c
  · obtain ⟨hp0, hp8, hs, hr⟩ := hp
    have hf := put_facts (p := p) hh hc h0 (by rw [putR_ok ⟨hp0, hp8⟩ hs hr])
    rw [putR_ok ⟨hp0, hp8⟩ hs hr] at HP hf
    have key := fun k hk => free_put (p := p.toNat) hh h0 hr k hk
    refine Takes_yes c h p bw _ (fun k hk hkp => (key k hk).1 (by omega)) (fun k hk hkp => ?_) HP (Free_calls c h hh h0c hc) (Free_calls c _ hf.2.1 h0c hc) w
    obtain ⟨_, e2, e3, e4, e5⟩ := key k hk
    rw [e2 (by omega), IntKind.wrap_u64]
    have := e4 (by omega)
    omega
  · exact Takes_no c h p bw _ _ _ (putR_err hp) HP w
end Go.Proofs.Ytbbhbfeafdibmaa
