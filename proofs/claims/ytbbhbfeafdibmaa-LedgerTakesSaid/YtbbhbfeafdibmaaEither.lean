/- Two things that are put, one behind the other, leave the same in either order. The walk of the law. -/
import Derived.Test.YtbbhbfeafdibmaaRightLaw
import Derived.Test.YtbbhbfeafdibmaaReg
import Derived.Test.YtbbhbfeafdibmaaRFree
import Derived.Test.YtbbhbfeafdibmaaCallB
namespace Go.Proofs.Ytbbhbfeafdibmaa
open Go.RowKit Plain
attribute [local go_sem] cell_set_self

/-- A ledger stored into a row of nine cells. -/
theorem row_set9 {w : World} {p : Nat} {x0 x1 x2 x3 x4 x5 x6 x7 x8 : Value} (hr : Row w p #[x0, x1, x2, x3, x4, x5, x6, x7, x8]) (c : Int) (h : Nat → Int) : Row (((((((((w.setCell ⟨p, 0, none⟩ (.int .u64 c)).setCell ⟨p, 1, none⟩ (.int .u64 (h 0))).setCell ⟨p, 2, none⟩ (.int .u64 (h 1))).setCell ⟨p, 3, none⟩ (.int .u64 (h 2))).setCell ⟨p, 4, none⟩ (.int .u64 (h 3))).setCell ⟨p, 5, none⟩ (.int .u64 (h 4))).setCell ⟨p, 6, none⟩ (.int .u64 (h 5))).setCell ⟨p, 7, none⟩ (.int .u64 (h 6))).setCell ⟨p, 8, none⟩ (.int .u64 (h 7))) p #[.int .u64 c, .int .u64 (h 0), .int .u64 (h 1), .int .u64 (h 2), .int .u64 (h 3), .int .u64 (h 4), .int .u64 (h 5), .int .u64 (h 6), .int .u64 (h 7)] := by
  have r := ((((((((hr.set 0 (.int .u64 c)).set 1 (.int .u64 (h 0))).set 2 (.int .u64 (h 1))).set 3 (.int .u64 (h 2))).set 4 (.int .u64 (h 3))).set 5 (.int .u64 (h 4))).set 6 (.int .u64 (h 5))).set 7 (.int .u64 (h 6))).set 8 (.int .u64 (h 7))
  simp only [List.setIfInBounds_toArray, List.set_cons_zero, List.set_cons_succ] at r
  exact r
theorem row_far9 {w : World} {p B : Nat} {xs : Array Value} (hr : Row w B xs) (hne : p ≠ B) (c : Int) (h : Nat → Int) : Row (((((((((w.setCell ⟨p, 0, none⟩ (.int .u64 c)).setCell ⟨p, 1, none⟩ (.int .u64 (h 0))).setCell ⟨p, 2, none⟩ (.int .u64 (h 1))).setCell ⟨p, 3, none⟩ (.int .u64 (h 2))).setCell ⟨p, 4, none⟩ (.int .u64 (h 3))).setCell ⟨p, 5, none⟩ (.int .u64 (h 4))).setCell ⟨p, 6, none⟩ (.int .u64 (h 5))).setCell ⟨p, 7, none⟩ (.int .u64 (h 6))).setCell ⟨p, 8, none⟩ (.int .u64 (h 7))) B xs :=
  ((((((((hr.far hne _).far hne _).far hne _).far hne _).far hne _).far hne _).far hne _).far hne _).far hne _
theorem below_set9 {w0 w : World} {B p : Nat} (hb : Below B w0 w) (hp : B ≤ p) (c : Int) (h : Nat → Int) : Below B w0 (((((((((w.setCell ⟨p, 0, none⟩ (.int .u64 c)).setCell ⟨p, 1, none⟩ (.int .u64 (h 0))).setCell ⟨p, 2, none⟩ (.int .u64 (h 1))).setCell ⟨p, 3, none⟩ (.int .u64 (h 2))).setCell ⟨p, 4, none⟩ (.int .u64 (h 3))).setCell ⟨p, 5, none⟩ (.int .u64 (h 4))).setCell ⟨p, 6, none⟩ (.int .u64 (h 5))).setCell ⟨p, 7, none⟩ (.int .u64 (h 6))).setCell ⟨p, 8, none⟩ (.int .u64 (h 7))) :=
  ((((((((hb.setCell hp _).setCell hp _).setCell hp _).setCell hp _).setCell hp _).setCell hp _).setCell hp _).setCell hp _).setCell hp _

set_option maxRecDepth 100000 in
set_option maxHeartbeats 8000000 in
theorem Either_yes (c : Int) (h : Nat → Int) (t1 : Bool) (p1 b1 : Int) (t2 : Bool) (p2 b2 c1 c2 c3 : Int) (h1 h2 h3 : Nat → Int)
    (HP1 : ∀ w, Calls Try.prog 20 #[.agg #[.int .u64 c, .int .u64 (h 0), .int .u64 (h 1), .int .u64 (h 2), .int .u64 (h 3), .int .u64 (h 4), .int .u64 (h 5), .int .u64 (h 6), .int .u64 (h 7)], .int .i64 p1, .int .u64 b1] w fun e w' => e = .returned (.tuple #[.agg #[.int .u64 c1, .int .u64 (h1 0), .int .u64 (h1 1), .int .u64 (h1 2), .int .u64 (h1 3), .int .u64 (h1 4), .int .u64 (h1 5), .int .u64 (h1 6), .int .u64 (h1 7)], .int .i64 0]) ∧ Below w.heap.size w w')
    (HP2 : ∀ w, Calls Try.prog 20 #[.agg #[.int .u64 c1, .int .u64 (h1 0), .int .u64 (h1 1), .int .u64 (h1 2), .int .u64 (h1 3), .int .u64 (h1 4), .int .u64 (h1 5), .int .u64 (h1 6), .int .u64 (h1 7)], .int .i64 p2, .int .u64 b2] w fun e w' => e = .returned (.tuple #[.agg #[.int .u64 c2, .int .u64 (h2 0), .int .u64 (h2 1), .int .u64 (h2 2), .int .u64 (h2 3), .int .u64 (h2 4), .int .u64 (h2 5), .int .u64 (h2 6), .int .u64 (h2 7)], .int .i64 0]) ∧ Below w.heap.size w w')
    (HP3 : ∀ w, Calls Try.prog 20 #[.agg #[.int .u64 c, .int .u64 (h 0), .int .u64 (h 1), .int .u64 (h 2), .int .u64 (h 3), .int .u64 (h 4), .int .u64 (h 5), .int .u64 (h 6), .int .u64 (h 7)], .int .i64 p2, .int .u64 b2] w fun e w' => e = .returned (.tuple #[.agg #[.int .u64 c3, .int .u64 (h3 0), .int .u64 (h3 1), .int .u64 (h3 2), .int .u64 (h3 3), .int .u64 (h3 4), .int .u64 (h3 5), .int .u64 (h3 6), .int .u64 (h3 7)], .int .i64 0]) ∧ Below w.heap.size w w')
    (HP4 : ∀ w, Calls Try.prog 20 #[.agg #[.int .u64 c3, .int .u64 (h3 0), .int .u64 (h3 1), .int .u64 (h3 2), .int .u64 (h3 3), .int .u64 (h3 4), .int .u64 (h3 5), .int .u64 (h3 6), .int .u64 (h3 7)], .int .i64 p1, .int .u64 b1] w fun e w' => e = .returned (.tuple #[.agg #[.int .u64 c2, .int .u64 (h2 0), .int .u64 (h2 1), .int .u64 (h2 2), .int .u64 (h2 3), .int .u64 (h2 4), .int .u64 (h2 5), .int .u64 (h2 6), .int .u64 (h2 7)], .int .i64 0]) ∧ Below w.heap.size w w')
    (w : World) : Calls Try.prog 6 #[.agg #[.int .u64 c, .int .u64 (h 0), .int .u64 (h 1), .int .u64 (h 2), .int .u64 (h 3), .int .u64 (h 4), .int .u64 (h 5), .int .u64 (h 6), .int .u64 (h 7)], .agg #[.bool t1, .int .i64 p1, .int .u64 b1], .agg #[.bool t2, .int .i64 p2, .int .u64 b2]] w fun e w' => e = .returned (.bool true) ∧ Below w.heap.size w w' := by
  have H1 := Lib.hid alive_calls
  have H2 := Lib.hid (theirs_calls c h)
  have K1 := Lib.hid HP1
  have K2 := Lib.hid HP2
  have K3 := Lib.hid HP3
  have K4 := Lib.hid HP4
  clear HP1 HP2 HP3 HP4
  go_enter Try.func6, Try.ntmps6
  go_wp2_with fail
  with_reducible refine (H1.out _).mono ?_
  rintro e w1 ⟨rfl, hb⟩
  have r1 := (((Row.new w #[.int .u64 c, .int .u64 (h 0), .int .u64 (h 1), .int .u64 (h 2), .int .u64 (h 3), .int .u64 (h 4), .int .u64 (h 5), .int .u64 (h 6), .int .u64 (h 7)] 25).alloc (.cells #[.bool t1, .int .i64 p1, .int .u64 b1] 43)).alloc (.cells #[.bool t2, .int .i64 p2, .int .u64 b2] 43)).later hb
  have r2 := ((Row.new' (B := w.heap.size + 1) (w.alloc (.cells #[.int .u64 c, .int .u64 (h 0), .int .u64 (h 1), .int .u64 (h 2), .int .u64 (h 3), .int .u64 (h 4), .int .u64 (h 5), .int .u64 (h 6), .int .u64 (h 7)] 25)) #[.bool t1, .int .i64 p1, .int .u64 b1] 43 (by simp)).alloc (.cells #[.bool t2, .int .i64 p2, .int .u64 b2] 43)).later hb
  have r3 := (Row.new' (B := w.heap.size + 1 + 1) ((w.alloc (.cells #[.int .u64 c, .int .u64 (h 0), .int .u64 (h 1), .int .u64 (h 2), .int .u64 (h 3), .int .u64 (h 4), .int .u64 (h 5), .int .u64 (h 6), .int .u64 (h 7)] 25)).alloc (.cells #[.bool t1, .int .i64 p1, .int .u64 b1] 43)) #[.bool t2, .int .i64 p2, .int .u64 b2] 43 (by simp)).later hb
  have hbel : Below w.heap.size w w1 := (by repeat (first | (with_reducible exact Below.refl _ _) | (with_reducible assumption) | ((with_reducible refine Below.setCell ?_ ?_ _); rotate_left; (first | omega | (simp <;> omega))) | ((with_reducible refine Below.alloc ?_ ?_ _); rotate_left; (first | omega | (simp <;> omega))) | ((with_reducible refine Below.drew ?_)) | ((with_reducible refine below_drewN ?_ _)) | ((with_reducible refine Below.trans ?_ (Below.mono (by with_reducible assumption) ?_)); rotate_left; (first | omega | (simp <;> omega)))))
  have HB := Lib.hid hbel
  have R1 := Lib.hid r1
  have R2 := Lib.hid r2
  have R3 := Lib.hid r3
  clear hb hbel
  generalize w.heap.size + 1 + 1 = B3 at *
  generalize w.heap.size + 1 = B2 at *
  obtain ⟨x1, y1, z1⟩ := r1
  obtain ⟨x2, y2, z2⟩ := r2
  obtain ⟨x3, y3, z3⟩ := r3
  go_wp2_with fail
  (refine reg1 [0,0,0,0,0,0,0,0,0,2,1] 10 7 _ #[.int .u64 0, .int .u64 0, .int .u64 0, .int .u64 0, .int .u64 0, .int .u64 0, .int .u64 0, .int .u64 0, .int .u64 0] (by kernel_rfl) _ rfl (by kernel_rfl) ?hlen rfl rfl rfl ⟨rfl, fun ρ w => ⟨30, by kernel_rfl⟩⟩ ?hQ ?_; (case hlen => decide); (case hQ => (intro c a o v w h; cases o <;> exact h)); (repeat (first | (with_reducible refine p_fresh ?_) | ((with_reducible refine p_pure (v := ?_) ?hw (fun w' hC => ?hrun) ?_); (case hw => rfl); (case hrun => (obtain ⟨hq1, hq2⟩ := bcell hC; go_simp; with_reducible rfl)); refine p_norm (a' := ?_) ?_ ?_; rotate_left; (simp only [Act.put, List.setIfInBounds_toArray, List.set_cons_zero, List.set_cons_succ]; rfl)) | ((with_reducible refine p_late (v := ?_) ?hw (fun w' => ?hrun) ?_); (case hw => rfl); (case hrun => (go_simp; with_reducible rfl)); refine p_norm (a' := ?_) ?_ ?_; rotate_left; (simp only [Act.put, List.setIfInBounds_toArray, List.set_cons_zero, List.set_cons_succ]; rfl)) | ((with_reducible refine p_skip ?hw ?_); (case hw => rfl); refine p_norm (a' := ?_) ?_ ?_; rotate_left; (simp only [Act.put, List.setIfInBounds_toArray, List.set_cons_zero, List.set_cons_succ]; rfl)) | ((with_reducible refine p_lateskip ?hw ?_); (case hw => rfl); refine p_norm (a' := ?_) ?_ ?_; rotate_left; (simp only [Act.put, List.setIfInBounds_toArray, List.set_cons_zero, List.set_cons_succ]; rfl)) | ((with_reducible refine p_call (f := 14) (fun w' _ => H2.out w') Try.func14 (by kernel_rfl) rfl rfl ?hw ?hargs ?_); (case hw => rfl); (case hargs => (simp only [List.map_toArray, List.map_cons, List.map_nil]; rfl)); refine p_norm (a' := ?_) ?_ ?_; rotate_left; (simp only [Act.put, List.setIfInBounds_toArray, List.set_cons_zero, List.set_cons_succ]; rfl)) | ((with_reducible refine p_call (f := 20) (fun w' _ => K1.out w') Try.func20 (by kernel_rfl) rfl rfl ?hw ?hargs ?_); (case hw => rfl); (case hargs => (simp only [List.map_toArray, List.map_cons, List.map_nil]; rfl)); refine p_norm (a' := ?_) ?_ ?_; rotate_left; (simp only [Act.put, List.setIfInBounds_toArray, List.set_cons_zero, List.set_cons_succ]; rfl)) )); with_reducible refine p_nil ?_; intro w2 p hq hp hr; simp only [List.length_cons, List.length_nil, Nat.reduceAdd, List.drop_succ_cons, List.drop_zero, Act.put, List.setIfInBounds_toArray, List.set_cons_zero, List.set_cons_succ])
  have hne1 : p ≠ w.heap.size := by omega
  have hne2 : p ≠ B2 := by omega
  have hne3 : p ≠ B3 := by omega
  have HP := Lib.hid hr
  have q1 := R1.out.later hq
  have q2 := R2.out.later hq
  have q3 := R3.out.later hq
  have HB2 := Lib.hid (HB.out.trans (hq.mono (Nat.le_of_lt z1)))
  have hpw : w.heap.size ≤ p := by omega
  clear x1 y1 z1 x2 y2 z2 x3 y3 z3 R1 R2 R3 HB
  have Q1 := Lib.hid q1
  have Q2 := Lib.hid q2
  have Q3 := Lib.hid q3
  obtain ⟨x1, y1, z1⟩ := q1
  obtain ⟨x2, y2, z2⟩ := q2
  obtain ⟨x3, y3, z3⟩ := q3
  obtain ⟨x4, y4, z4⟩ := hr
  go_wp2_with fail
  with_reducible refine (K2.out _).mono ?_
  rintro e w3 ⟨rfl, hb⟩
  have q1 := (row_far9 Q1.out hne1 c1 h1).later hb
  have q2 := (row_far9 Q2.out hne2 c1 h1).later hb
  have q3 := (row_far9 Q3.out hne3 c1 h1).later hb
  have q4 := (row_set9 HP.out c1 h1).later hb
  have hbe := below_set9 HB2.out hpw c1 h1
  have HB3 := Lib.hid (hbe.trans (hb.mono hbe.size))
  clear hb hbe x1 y1 z1 x2 y2 z2 x3 y3 z3 x4 y4 z4 Q1 Q2 Q3 HP HB2 hq hp
  have Q1 := Lib.hid q1
  have Q2 := Lib.hid q2
  have Q3 := Lib.hid q3
  have Q4 := Lib.hid q4
  obtain ⟨x1, y1, z1⟩ := q1
  obtain ⟨x2, y2, z2⟩ := q2
  obtain ⟨x3, y3, z3⟩ := q3
  obtain ⟨x4, y4, z4⟩ := q4
  go_wp2_with fail
  have hbel := HB3.out.alloc HB3.out.size (.cells #[.int .u64 c2, .int .u64 (h2 0), .int .u64 (h2 1), .int .u64 (h2 2), .int .u64 (h2 3), .int .u64 (h2 4), .int .u64 (h2 5), .int .u64 (h2 6), .int .u64 (h2 7)] 30)
  have HB4 := Lib.hid hbel
  have q1 := Q1.out.alloc (.cells #[.int .u64 c2, .int .u64 (h2 0), .int .u64 (h2 1), .int .u64 (h2 2), .int .u64 (h2 3), .int .u64 (h2 4), .int .u64 (h2 5), .int .u64 (h2 6), .int .u64 (h2 7)] 30)
  have q2 := Q2.out.alloc (.cells #[.int .u64 c2, .int .u64 (h2 0), .int .u64 (h2 1), .int .u64 (h2 2), .int .u64 (h2 3), .int .u64 (h2 4), .int .u64 (h2 5), .int .u64 (h2 6), .int .u64 (h2 7)] 30)
  have q3 := Q3.out.alloc (.cells #[.int .u64 c2, .int .u64 (h2 0), .int .u64 (h2 1), .int .u64 (h2 2), .int .u64 (h2 3), .int .u64 (h2 4), .int .u64 (h2 5), .int .u64 (h2 6), .int .u64 (h2 7)] 30)
  have q4 := Q4.out.alloc (.cells #[.int .u64 c2, .int .u64 (h2 0), .int .u64 (h2 1), .int .u64 (h2 2), .int .u64 (h2 3), .int .u64 (h2 4), .int .u64 (h2 5), .int .u64 (h2 6), .int .u64 (h2 7)] 30)
  have q5 := Row.new w3 #[.int .u64 c2, .int .u64 (h2 0), .int .u64 (h2 1), .int .u64 (h2 2), .int .u64 (h2 3), .int .u64 (h2 4), .int .u64 (h2 5), .int .u64 (h2 6), .int .u64 (h2 7)] 30
  clear hbel x1 y1 z1 x2 y2 z2 x3 y3 z3 x4 y4 z4 Q1 Q2 Q3 Q4 HB3
  generalize w3.alloc (.cells #[.int .u64 c2, .int .u64 (h2 0), .int .u64 (h2 1), .int .u64 (h2 2), .int .u64 (h2 3), .int .u64 (h2 4), .int .u64 (h2 5), .int .u64 (h2 6), .int .u64 (h2 7)] 30) = W at *
  generalize w3.heap.size = B9 at *
  have Q1 := Lib.hid q1
  have Q2 := Lib.hid q2
  have Q3 := Lib.hid q3
  have Q5 := Lib.hid q5
  clear q4
  obtain ⟨x1, y1, z1⟩ := q1
  obtain ⟨x2, y2, z2⟩ := q2
  obtain ⟨x3, y3, z3⟩ := q3
  obtain ⟨x5, y5, z5⟩ := q5
  (refine reg1 [0,0,0,0,0,0,0,0,0,2,1] 10 11 _ #[.int .u64 0, .int .u64 0, .int .u64 0, .int .u64 0, .int .u64 0, .int .u64 0, .int .u64 0, .int .u64 0, .int .u64 0] (by kernel_rfl) _ rfl (by kernel_rfl) ?hlen rfl rfl rfl ⟨rfl, fun ρ w => ⟨30, by kernel_rfl⟩⟩ ?hQ ?_; (case hlen => decide); (case hQ => (intro c a o v w h; cases o <;> exact h)); (repeat (first | (with_reducible refine p_fresh ?_) | ((with_reducible refine p_pure (v := ?_) ?hw (fun w' hC => ?hrun) ?_); (case hw => rfl); (case hrun => (obtain ⟨hq1, hq2⟩ := bcell hC; go_simp; with_reducible rfl)); refine p_norm (a' := ?_) ?_ ?_; rotate_left; (simp only [Act.put, List.setIfInBounds_toArray, List.set_cons_zero, List.set_cons_succ]; rfl)) | ((with_reducible refine p_late (v := ?_) ?hw (fun w' => ?hrun) ?_); (case hw => rfl); (case hrun => (go_simp; with_reducible rfl)); refine p_norm (a' := ?_) ?_ ?_; rotate_left; (simp only [Act.put, List.setIfInBounds_toArray, List.set_cons_zero, List.set_cons_succ]; rfl)) | ((with_reducible refine p_skip ?hw ?_); (case hw => rfl); refine p_norm (a' := ?_) ?_ ?_; rotate_left; (simp only [Act.put, List.setIfInBounds_toArray, List.set_cons_zero, List.set_cons_succ]; rfl)) | ((with_reducible refine p_lateskip ?hw ?_); (case hw => rfl); refine p_norm (a' := ?_) ?_ ?_; rotate_left; (simp only [Act.put, List.setIfInBounds_toArray, List.set_cons_zero, List.set_cons_succ]; rfl)) | ((with_reducible refine p_call (f := 14) (fun w' _ => H2.out w') Try.func14 (by kernel_rfl) rfl rfl ?hw ?hargs ?_); (case hw => rfl); (case hargs => (simp only [List.map_toArray, List.map_cons, List.map_nil]; rfl)); refine p_norm (a' := ?_) ?_ ?_; rotate_left; (simp only [Act.put, List.setIfInBounds_toArray, List.set_cons_zero, List.set_cons_succ]; rfl)) | ((with_reducible refine p_call (f := 20) (fun w' _ => K3.out w') Try.func20 (by kernel_rfl) rfl rfl ?hw ?hargs ?_); (case hw => rfl); (case hargs => (simp only [List.map_toArray, List.map_cons, List.map_nil]; rfl)); refine p_norm (a' := ?_) ?_ ?_; rotate_left; (simp only [Act.put, List.setIfInBounds_toArray, List.set_cons_zero, List.set_cons_succ]; rfl)) )); with_reducible refine p_nil ?_; intro w4 r hq hp hr; simp only [List.length_cons, List.length_nil, Nat.reduceAdd, List.drop_succ_cons, List.drop_zero, Act.put, List.setIfInBounds_toArray, List.set_cons_zero, List.set_cons_succ])
  have hrw : w.heap.size ≤ r := by omega
  have hn1 : r ≠ w.heap.size := by omega
  have hn2 : r ≠ B2 := by omega
  have hn3 : r ≠ B3 := by omega
  have hn5 : r ≠ B9 := by omega
  have HP := Lib.hid hr
  have q1 := Q1.out.later hq
  have q2 := Q2.out.later hq
  have q5 := Q5.out.later hq
  have HB5 := Lib.hid (HB4.out.trans (hq.mono HB4.out.size))
  clear x1 y1 z1 x2 y2 z2 x3 y3 z3 x5 y5 z5 Q1 Q2 Q3 Q5 HB4 hq hp
  have Q1 := Lib.hid q1
  have Q2 := Lib.hid q2
  have Q5 := Lib.hid q5
  obtain ⟨x1, y1, z1⟩ := q1
  obtain ⟨x2, y2, z2⟩ := q2
  obtain ⟨x5, y5, z5⟩ := q5
  obtain ⟨x4, y4, z4⟩ := hr
  go_wp2_with fail
  with_reducible refine (K4.out _).mono ?_
  rintro e w5 ⟨rfl, hb⟩
  have q5 := (row_far9 Q5.out hn5 c3 h3).later hb
  have hbe := below_set9 HB5.out hrw c3 h3
  have HB6 := Lib.hid (hbe.trans (hb.mono hbe.size))
  clear hb hbe x1 y1 z1 x2 y2 z2 x5 y5 z5 x4 y4 z4 Q1 Q2 Q5 HP HB5
  have Q5 := Lib.hid q5
  obtain ⟨x5, y5, z5⟩ := q5
  go_wp2_with fail
  have hbel := HB6.out.alloc HB6.out.size (.cells #[.int .u64 c2, .int .u64 (h2 0), .int .u64 (h2 1), .int .u64 (h2 2), .int .u64 (h2 3), .int .u64 (h2 4), .int .u64 (h2 5), .int .u64 (h2 6), .int .u64 (h2 7)] 30)
  have q5 := Q5.out.alloc (.cells #[.int .u64 c2, .int .u64 (h2 0), .int .u64 (h2 1), .int .u64 (h2 2), .int .u64 (h2 3), .int .u64 (h2 4), .int .u64 (h2 5), .int .u64 (h2 6), .int .u64 (h2 7)] 30)
  have q6 := Row.new w5 #[.int .u64 c2, .int .u64 (h2 0), .int .u64 (h2 1), .int .u64 (h2 2), .int .u64 (h2 3), .int .u64 (h2 4), .int .u64 (h2 5), .int .u64 (h2 6), .int .u64 (h2 7)] 30
  have HB7 := Lib.hid hbel
  clear hbel x5 y5 z5 Q5 HB6
  generalize w5.alloc (.cells #[.int .u64 c2, .int .u64 (h2 0), .int .u64 (h2 1), .int .u64 (h2 2), .int .u64 (h2 3), .int .u64 (h2 4), .int .u64 (h2 5), .int .u64 (h2 6), .int .u64 (h2 7)] 30) = W' at *
  generalize w5.heap.size = B10 at *
  obtain ⟨x5, y5, z5⟩ := q5
  obtain ⟨x6, y6, z6⟩ := q6
  have E := eql_led 25 (.inl rfl) c2 h2
  (refine q_region (by kernel_rfl) (by kernel_rfl) ?_; (repeat (first | ((refine q_pure (v := ?_) rfl (fun w' hC => ?hrun) ?_); (case hrun => (obtain ⟨hq1, hq2⟩ := bcell hC; go_simp; with_reducible rfl)); refine q_norm (a' := ?_) ?_ ?_; rotate_left; (simp only [Act.put, List.setIfInBounds_toArray, List.set_cons_zero, List.set_cons_succ]; rfl)) | ((refine q_skip rfl ?_); refine q_norm (a' := ?_) ?_ ?_; rotate_left; (simp only [Act.put, List.setIfInBounds_toArray, List.set_cons_zero, List.set_cons_succ]; rfl)) | ((with_reducible refine q_callB (f := 21) (fun w' _ => ours_calls c2 h2 w') Try.func21 (by kernel_rfl) rfl rfl ?hw ?hargs ?_); (case hw => rfl); (case hargs => (simp only [List.map_toArray, List.map_cons, List.map_nil]; rfl)); refine q_norm (a' := ?_) ?_ ?_; rotate_left; (simp only [Act.put, List.setIfInBounds_toArray, List.set_cons_zero, List.set_cons_succ]; rfl)) )); with_reducible refine wpQuiet_nil ?_; intro wq hq)
  go_wp2
  go_ret
  exact ⟨rfl, HB7.out.trans (hq.mono HB7.out.size)⟩
set_option maxRecDepth 100000 in
set_option maxHeartbeats 8000000 in
theorem Either_no (c : Int) (h : Nat → Int) (t1 : Bool) (p1 b1 : Int) (t2 : Bool) (p2 b2 c1 c2 c3 c4 e1 e2 e3 e4 : Int) (h1 h2 h3 h4 : Nat → Int) (he : (e1 != 0) = true ∨ ((e1 != 0) = false ∧ (e2 != 0) = true)) (hg : (e3 != 0) = true ∨ ((e3 != 0) = false ∧ (e4 != 0) = true))
    (HP1 : ∀ w, Calls Try.prog 20 #[.agg #[.int .u64 c, .int .u64 (h 0), .int .u64 (h 1), .int .u64 (h 2), .int .u64 (h 3), .int .u64 (h 4), .int .u64 (h 5), .int .u64 (h 6), .int .u64 (h 7)], .int .i64 p1, .int .u64 b1] w fun e w' => e = .returned (.tuple #[.agg #[.int .u64 c1, .int .u64 (h1 0), .int .u64 (h1 1), .int .u64 (h1 2), .int .u64 (h1 3), .int .u64 (h1 4), .int .u64 (h1 5), .int .u64 (h1 6), .int .u64 (h1 7)], .int .i64 e1]) ∧ Below w.heap.size w w')
    (HP2 : ∀ w, Calls Try.prog 20 #[.agg #[.int .u64 c1, .int .u64 (h1 0), .int .u64 (h1 1), .int .u64 (h1 2), .int .u64 (h1 3), .int .u64 (h1 4), .int .u64 (h1 5), .int .u64 (h1 6), .int .u64 (h1 7)], .int .i64 p2, .int .u64 b2] w fun e w' => e = .returned (.tuple #[.agg #[.int .u64 c2, .int .u64 (h2 0), .int .u64 (h2 1), .int .u64 (h2 2), .int .u64 (h2 3), .int .u64 (h2 4), .int .u64 (h2 5), .int .u64 (h2 6), .int .u64 (h2 7)], .int .i64 e2]) ∧ Below w.heap.size w w')
    (HP3 : ∀ w, Calls Try.prog 20 #[.agg #[.int .u64 c, .int .u64 (h 0), .int .u64 (h 1), .int .u64 (h 2), .int .u64 (h 3), .int .u64 (h 4), .int .u64 (h 5), .int .u64 (h 6), .int .u64 (h 7)], .int .i64 p2, .int .u64 b2] w fun e w' => e = .returned (.tuple #[.agg #[.int .u64 c3, .int .u64 (h3 0), .int .u64 (h3 1), .int .u64 (h3 2), .int .u64 (h3 3), .int .u64 (h3 4), .int .u64 (h3 5), .int .u64 (h3 6), .int .u64 (h3 7)], .int .i64 e3]) ∧ Below w.heap.size w w')
    (HP4 : ∀ w, Calls Try.prog 20 #[.agg #[.int .u64 c3, .int .u64 (h3 0), .int .u64 (h3 1), .int .u64 (h3 2), .int .u64 (h3 3), .int .u64 (h3 4), .int .u64 (h3 5), .int .u64 (h3 6), .int .u64 (h3 7)], .int .i64 p1, .int .u64 b1] w fun e w' => e = .returned (.tuple #[.agg #[.int .u64 c4, .int .u64 (h4 0), .int .u64 (h4 1), .int .u64 (h4 2), .int .u64 (h4 3), .int .u64 (h4 4), .int .u64 (h4 5), .int .u64 (h4 6), .int .u64 (h4 7)], .int .i64 e4]) ∧ Below w.heap.size w w')
    (w : World) : Calls Try.prog 6 #[.agg #[.int .u64 c, .int .u64 (h 0), .int .u64 (h 1), .int .u64 (h 2), .int .u64 (h 3), .int .u64 (h 4), .int .u64 (h 5), .int .u64 (h 6), .int .u64 (h 7)], .agg #[.bool t1, .int .i64 p1, .int .u64 b1], .agg #[.bool t2, .int .i64 p2, .int .u64 b2]] w fun e w' => e = .returned (.bool true) ∧ Below w.heap.size w w' := by
  have HE0 := Lib.hid he
  have HG0 := Lib.hid hg
  clear he hg
  have H1 := Lib.hid alive_calls
  have H2 := Lib.hid (theirs_calls c h)
  have K1 := Lib.hid HP1
  have K2 := Lib.hid HP2
  have K3 := Lib.hid HP3
  have K4 := Lib.hid HP4
  clear HP1 HP2 HP3 HP4
  go_enter Try.func6, Try.ntmps6
  go_wp2_with fail
  with_reducible refine (H1.out _).mono ?_
  rintro e w1 ⟨rfl, hb⟩
  have r1 := (((Row.new w #[.int .u64 c, .int .u64 (h 0), .int .u64 (h 1), .int .u64 (h 2), .int .u64 (h 3), .int .u64 (h 4), .int .u64 (h 5), .int .u64 (h 6), .int .u64 (h 7)] 25).alloc (.cells #[.bool t1, .int .i64 p1, .int .u64 b1] 43)).alloc (.cells #[.bool t2, .int .i64 p2, .int .u64 b2] 43)).later hb
  have r2 := ((Row.new' (B := w.heap.size + 1) (w.alloc (.cells #[.int .u64 c, .int .u64 (h 0), .int .u64 (h 1), .int .u64 (h 2), .int .u64 (h 3), .int .u64 (h 4), .int .u64 (h 5), .int .u64 (h 6), .int .u64 (h 7)] 25)) #[.bool t1, .int .i64 p1, .int .u64 b1] 43 (by simp)).alloc (.cells #[.bool t2, .int .i64 p2, .int .u64 b2] 43)).later hb
  have r3 := (Row.new' (B := w.heap.size + 1 + 1) ((w.alloc (.cells #[.int .u64 c, .int .u64 (h 0), .int .u64 (h 1), .int .u64 (h 2), .int .u64 (h 3), .int .u64 (h 4), .int .u64 (h 5), .int .u64 (h 6), .int .u64 (h 7)] 25)).alloc (.cells #[.bool t1, .int .i64 p1, .int .u64 b1] 43)) #[.bool t2, .int .i64 p2, .int .u64 b2] 43 (by simp)).later hb
  have hbel : Below w.heap.size w w1 := (by repeat (first | (with_reducible exact Below.refl _ _) | (with_reducible assumption) | ((with_reducible refine Below.setCell ?_ ?_ _); rotate_left; (first | omega | (simp <;> omega))) | ((with_reducible refine Below.alloc ?_ ?_ _); rotate_left; (first | omega | (simp <;> omega))) | ((with_reducible refine Below.drew ?_)) | ((with_reducible refine below_drewN ?_ _)) | ((with_reducible refine Below.trans ?_ (Below.mono (by with_reducible assumption) ?_)); rotate_left; (first | omega | (simp <;> omega)))))
  have HB := Lib.hid hbel
  have R1 := Lib.hid r1
  have R2 := Lib.hid r2
  have R3 := Lib.hid r3
  clear hb hbel
  generalize w.heap.size + 1 + 1 = B3 at *
  generalize w.heap.size + 1 = B2 at *
  obtain ⟨x1, y1, z1⟩ := r1
  obtain ⟨x2, y2, z2⟩ := r2
  obtain ⟨x3, y3, z3⟩ := r3
  go_wp2_with fail
  (refine reg1 [0,0,0,0,0,0,0,0,0,2,1] 10 7 _ #[.int .u64 0, .int .u64 0, .int .u64 0, .int .u64 0, .int .u64 0, .int .u64 0, .int .u64 0, .int .u64 0, .int .u64 0] (by kernel_rfl) _ rfl (by kernel_rfl) ?hlen rfl rfl rfl ⟨rfl, fun ρ w => ⟨30, by kernel_rfl⟩⟩ ?hQ ?_; (case hlen => decide); (case hQ => (intro c a o v w h; cases o <;> exact h)); (repeat (first | (with_reducible refine p_fresh ?_) | ((with_reducible refine p_pure (v := ?_) ?hw (fun w' hC => ?hrun) ?_); (case hw => rfl); (case hrun => (obtain ⟨hq1, hq2⟩ := bcell hC; go_simp; with_reducible rfl)); refine p_norm (a' := ?_) ?_ ?_; rotate_left; (simp only [Act.put, List.setIfInBounds_toArray, List.set_cons_zero, List.set_cons_succ]; rfl)) | ((with_reducible refine p_late (v := ?_) ?hw (fun w' => ?hrun) ?_); (case hw => rfl); (case hrun => (go_simp; with_reducible rfl)); refine p_norm (a' := ?_) ?_ ?_; rotate_left; (simp only [Act.put, List.setIfInBounds_toArray, List.set_cons_zero, List.set_cons_succ]; rfl)) | ((with_reducible refine p_skip ?hw ?_); (case hw => rfl); refine p_norm (a' := ?_) ?_ ?_; rotate_left; (simp only [Act.put, List.setIfInBounds_toArray, List.set_cons_zero, List.set_cons_succ]; rfl)) | ((with_reducible refine p_lateskip ?hw ?_); (case hw => rfl); refine p_norm (a' := ?_) ?_ ?_; rotate_left; (simp only [Act.put, List.setIfInBounds_toArray, List.set_cons_zero, List.set_cons_succ]; rfl)) | ((with_reducible refine p_call (f := 14) (fun w' _ => H2.out w') Try.func14 (by kernel_rfl) rfl rfl ?hw ?hargs ?_); (case hw => rfl); (case hargs => (simp only [List.map_toArray, List.map_cons, List.map_nil]; rfl)); refine p_norm (a' := ?_) ?_ ?_; rotate_left; (simp only [Act.put, List.setIfInBounds_toArray, List.set_cons_zero, List.set_cons_succ]; rfl)) | ((with_reducible refine p_call (f := 20) (fun w' _ => K1.out w') Try.func20 (by kernel_rfl) rfl rfl ?hw ?hargs ?_); (case hw => rfl); (case hargs => (simp only [List.map_toArray, List.map_cons, List.map_nil]; rfl)); refine p_norm (a' := ?_) ?_ ?_; rotate_left; (simp only [Act.put, List.setIfInBounds_toArray, List.set_cons_zero, List.set_cons_succ]; rfl)) )); with_reducible refine p_nil ?_; intro w2 p hq hp hr; simp only [List.length_cons, List.length_nil, Nat.reduceAdd, List.drop_succ_cons, List.drop_zero, Act.put, List.setIfInBounds_toArray, List.set_cons_zero, List.set_cons_succ])
  have hne1 : p ≠ w.heap.size := by omega
  have hne2 : p ≠ B2 := by omega
  have hne3 : p ≠ B3 := by omega
  have HP := Lib.hid hr
  have q1 := R1.out.later hq
  have q2 := R2.out.later hq
  have q3 := R3.out.later hq
  have HB2 := Lib.hid (HB.out.trans (hq.mono (Nat.le_of_lt z1)))
  have hpw : w.heap.size ≤ p := by omega
  clear x1 y1 z1 x2 y2 z2 x3 y3 z3 R1 R2 R3 HB
  have Q1 := Lib.hid q1
  have Q2 := Lib.hid q2
  have Q3 := Lib.hid q3
  obtain ⟨x1, y1, z1⟩ := q1
  obtain ⟨x2, y2, z2⟩ := q2
  obtain ⟨x3, y3, z3⟩ := q3
  obtain ⟨x4, y4, z4⟩ := hr
  go_wp2_with fail
  with_reducible refine (K2.out _).mono ?_
  rintro e w3 ⟨rfl, hb⟩
  have q1 := (row_far9 Q1.out hne1 c1 h1).later hb
  have q2 := (row_far9 Q2.out hne2 c1 h1).later hb
  have q3 := (row_far9 Q3.out hne3 c1 h1).later hb
  have q4 := (row_set9 HP.out c1 h1).later hb
  have hbe := below_set9 HB2.out hpw c1 h1
  have HB3 := Lib.hid (hbe.trans (hb.mono hbe.size))
  clear hb hbe x1 y1 z1 x2 y2 z2 x3 y3 z3 x4 y4 z4 Q1 Q2 Q3 HP HB2 hq hp
  have Q1 := Lib.hid q1
  have Q2 := Lib.hid q2
  have Q3 := Lib.hid q3
  have Q4 := Lib.hid q4
  obtain ⟨x1, y1, z1⟩ := q1
  obtain ⟨x2, y2, z2⟩ := q2
  obtain ⟨x3, y3, z3⟩ := q3
  obtain ⟨x4, y4, z4⟩ := q4
  go_wp2_with fail
  have hbel := HB3.out.alloc HB3.out.size (.cells #[.int .u64 c2, .int .u64 (h2 0), .int .u64 (h2 1), .int .u64 (h2 2), .int .u64 (h2 3), .int .u64 (h2 4), .int .u64 (h2 5), .int .u64 (h2 6), .int .u64 (h2 7)] 30)
  have HB4 := Lib.hid hbel
  have q1 := Q1.out.alloc (.cells #[.int .u64 c2, .int .u64 (h2 0), .int .u64 (h2 1), .int .u64 (h2 2), .int .u64 (h2 3), .int .u64 (h2 4), .int .u64 (h2 5), .int .u64 (h2 6), .int .u64 (h2 7)] 30)
  have q2 := Q2.out.alloc (.cells #[.int .u64 c2, .int .u64 (h2 0), .int .u64 (h2 1), .int .u64 (h2 2), .int .u64 (h2 3), .int .u64 (h2 4), .int .u64 (h2 5), .int .u64 (h2 6), .int .u64 (h2 7)] 30)
  have q3 := Q3.out.alloc (.cells #[.int .u64 c2, .int .u64 (h2 0), .int .u64 (h2 1), .int .u64 (h2 2), .int .u64 (h2 3), .int .u64 (h2 4), .int .u64 (h2 5), .int .u64 (h2 6), .int .u64 (h2 7)] 30)
  have q4 := Q4.out.alloc (.cells #[.int .u64 c2, .int .u64 (h2 0), .int .u64 (h2 1), .int .u64 (h2 2), .int .u64 (h2 3), .int .u64 (h2 4), .int .u64 (h2 5), .int .u64 (h2 6), .int .u64 (h2 7)] 30)
  have q5 := Row.new w3 #[.int .u64 c2, .int .u64 (h2 0), .int .u64 (h2 1), .int .u64 (h2 2), .int .u64 (h2 3), .int .u64 (h2 4), .int .u64 (h2 5), .int .u64 (h2 6), .int .u64 (h2 7)] 30
  clear hbel x1 y1 z1 x2 y2 z2 x3 y3 z3 x4 y4 z4 Q1 Q2 Q3 Q4 HB3
  generalize w3.alloc (.cells #[.int .u64 c2, .int .u64 (h2 0), .int .u64 (h2 1), .int .u64 (h2 2), .int .u64 (h2 3), .int .u64 (h2 4), .int .u64 (h2 5), .int .u64 (h2 6), .int .u64 (h2 7)] 30) = W at *
  generalize w3.heap.size = B9 at *
  have Q1 := Lib.hid q1
  have Q2 := Lib.hid q2
  have Q3 := Lib.hid q3
  have Q5 := Lib.hid q5
  clear q4
  obtain ⟨x1, y1, z1⟩ := q1
  obtain ⟨x2, y2, z2⟩ := q2
  obtain ⟨x3, y3, z3⟩ := q3
  obtain ⟨x5, y5, z5⟩ := q5
  (refine reg1 [0,0,0,0,0,0,0,0,0,2,1] 10 11 _ #[.int .u64 0, .int .u64 0, .int .u64 0, .int .u64 0, .int .u64 0, .int .u64 0, .int .u64 0, .int .u64 0, .int .u64 0] (by kernel_rfl) _ rfl (by kernel_rfl) ?hlen rfl rfl rfl ⟨rfl, fun ρ w => ⟨30, by kernel_rfl⟩⟩ ?hQ ?_; (case hlen => decide); (case hQ => (intro c a o v w h; cases o <;> exact h)); (repeat (first | (with_reducible refine p_fresh ?_) | ((with_reducible refine p_pure (v := ?_) ?hw (fun w' hC => ?hrun) ?_); (case hw => rfl); (case hrun => (obtain ⟨hq1, hq2⟩ := bcell hC; go_simp; with_reducible rfl)); refine p_norm (a' := ?_) ?_ ?_; rotate_left; (simp only [Act.put, List.setIfInBounds_toArray, List.set_cons_zero, List.set_cons_succ]; rfl)) | ((with_reducible refine p_late (v := ?_) ?hw (fun w' => ?hrun) ?_); (case hw => rfl); (case hrun => (go_simp; with_reducible rfl)); refine p_norm (a' := ?_) ?_ ?_; rotate_left; (simp only [Act.put, List.setIfInBounds_toArray, List.set_cons_zero, List.set_cons_succ]; rfl)) | ((with_reducible refine p_skip ?hw ?_); (case hw => rfl); refine p_norm (a' := ?_) ?_ ?_; rotate_left; (simp only [Act.put, List.setIfInBounds_toArray, List.set_cons_zero, List.set_cons_succ]; rfl)) | ((with_reducible refine p_lateskip ?hw ?_); (case hw => rfl); refine p_norm (a' := ?_) ?_ ?_; rotate_left; (simp only [Act.put, List.setIfInBounds_toArray, List.set_cons_zero, List.set_cons_succ]; rfl)) | ((with_reducible refine p_call (f := 14) (fun w' _ => H2.out w') Try.func14 (by kernel_rfl) rfl rfl ?hw ?hargs ?_); (case hw => rfl); (case hargs => (simp only [List.map_toArray, List.map_cons, List.map_nil]; rfl)); refine p_norm (a' := ?_) ?_ ?_; rotate_left; (simp only [Act.put, List.setIfInBounds_toArray, List.set_cons_zero, List.set_cons_succ]; rfl)) | ((with_reducible refine p_call (f := 20) (fun w' _ => K3.out w') Try.func20 (by kernel_rfl) rfl rfl ?hw ?hargs ?_); (case hw => rfl); (case hargs => (simp only [List.map_toArray, List.map_cons, List.map_nil]; rfl)); refine p_norm (a' := ?_) ?_ ?_; rotate_left; (simp only [Act.put, List.setIfInBounds_toArray, List.set_cons_zero, List.set_cons_succ]; rfl)) )); with_reducible refine p_nil ?_; intro w4 r hq hp hr; simp only [List.length_cons, List.length_nil, Nat.reduceAdd, List.drop_succ_cons, List.drop_zero, Act.put, List.setIfInBounds_toArray, List.set_cons_zero, List.set_cons_succ])
  have hrw : w.heap.size ≤ r := by omega
  have hn1 : r ≠ w.heap.size := by omega
  have hn2 : r ≠ B2 := by omega
  have hn3 : r ≠ B3 := by omega
  have hn5 : r ≠ B9 := by omega
  have HP := Lib.hid hr
  have q1 := Q1.out.later hq
  have q2 := Q2.out.later hq
  have q5 := Q5.out.later hq
  have HB5 := Lib.hid (HB4.out.trans (hq.mono HB4.out.size))
  clear x1 y1 z1 x2 y2 z2 x3 y3 z3 x5 y5 z5 Q1 Q2 Q3 Q5 HB4 hq hp
  have Q1 := Lib.hid q1
  have Q2 := Lib.hid q2
  have Q5 := Lib.hid q5
  obtain ⟨x1, y1, z1⟩ := q1
  obtain ⟨x2, y2, z2⟩ := q2
  obtain ⟨x5, y5, z5⟩ := q5
  obtain ⟨x4, y4, z4⟩ := hr
  go_wp2_with fail
  with_reducible refine (K4.out _).mono ?_
  rintro e w5 ⟨rfl, hb⟩
  have q5 := (row_far9 Q5.out hn5 c3 h3).later hb
  have hbe := below_set9 HB5.out hrw c3 h3
  have HB6 := Lib.hid (hbe.trans (hb.mono hbe.size))
  clear hb hbe x1 y1 z1 x2 y2 z2 x5 y5 z5 x4 y4 z4 Q1 Q2 Q5 HP HB5
  clear q5
  rcases HE0.out with he | ⟨he, hf⟩
  · rcases HG0.out with hg | ⟨hg, hh⟩
    · clear HE0 HG0
      go_wp2
      go_ret
      exact ⟨rfl, HB6.out.alloc HB6.out.size _⟩
    · clear HE0 HG0
      go_wp2
      go_ret
      exact ⟨rfl, HB6.out.alloc HB6.out.size _⟩
  · rcases HG0.out with hg | ⟨hg, hh⟩
    · clear HE0 HG0
      go_wp2
      go_ret
      exact ⟨rfl, HB6.out.alloc HB6.out.size _⟩
    · clear HE0 HG0
      go_wp2
      go_ret
      exact ⟨rfl, HB6.out.alloc HB6.out.size _⟩

theorem putR_ok {c : Int} {h : Nat → Int} {p bw : Int} (hp : 0 ≤ p ∧ p < 8) (hs : sumTo h 8 ≤ c) (hr : sumTo h 8 + bw ≤ c) : putR c h p bw = (c, setAt h p.toNat (h p.toNat + bw), 0) := by
  have hm : mayB c h p = true := by
    rw [mayB, decide_eq_true hp, Bool.true_and]
    exact right_yes hs
  simp [putR, hm, hr]
theorem putR_err {c : Int} {h : Nat → Int} {p bw : Int} (hn : ¬ (0 ≤ p ∧ p < 8 ∧ sumTo h 8 ≤ c ∧ sumTo h 8 + bw ≤ c)) : ((putR c h p bw).2.2 != 0) = true := by
  unfold putR
  by_cases hm : mayB c h p = true
  · obtain ⟨h1, h2, h3⟩ := may_bounds hm
    rw [if_pos hm, if_neg (fun h4 => hn ⟨h1, h2, h3, h4⟩)]
    decide
  · rw [if_neg hm]
    decide
/-- Both may be put, whatever comes first. -/
def Both (c : Int) (h : Nat → Int) (p1 b1 p2 b2 : Int) : Prop := (0 ≤ p1 ∧ p1 < 8) ∧ (0 ≤ p2 ∧ p2 < 8) ∧ sumTo h 8 + b1 + b2 ≤ c
theorem both_err {c : Int} {h : Nat → Int} {p1 b1 p2 b2 : Int} (hn : ¬ Both c h p1 b1 p2 b2) :
    ((putR c h p1 b1).2.2 != 0) = true ∨ (((putR c h p1 b1).2.2 != 0) = false ∧ ((putR (putR c h p1 b1).1 (putR c h p1 b1).2.1 p2 b2).2.2 != 0) = true) := by
  by_cases h1 : 0 ≤ p1 ∧ p1 < 8 ∧ sumTo h 8 ≤ c ∧ sumTo h 8 + b1 ≤ c
  · refine .inr ?_
    rw [putR_ok ⟨h1.1, h1.2.1⟩ h1.2.2.1 h1.2.2.2]
    refine ⟨rfl, putR_err fun h2 => hn ⟨⟨h1.1, h1.2.1⟩, ⟨h2.1, h2.2.1⟩, ?_⟩⟩
    have := h2.2.2.2
    rw [sumTo_setAt h p1.toNat _ 8, if_pos (by omega)] at this
    omega
  · exact .inl (putR_err h1)
theorem setAt_both (h : Nat → Int) (p q : Nat) (a b : Int) : setAt (setAt h p (h p + a)) q (setAt h p (h p + a) q + b) = setAt (setAt h q (h q + b)) p (setAt h q (h q + b) p + a) := by
  funext k
  unfold setAt
  by_cases h1 : k = p <;> by_cases h2 : k = q <;> by_cases h3 : p = q <;> simp_all <;> omega

theorem LedgerEither_walk (c : Int) (h : Nat → Int) (t1 : Bool) (p1 b1 : Int) (t2 : Bool) (p2 b2 : Int) (hh : Nums h) (h0c : 0 ≤ c) (hc : c < 18446744073709551616) (ha0 : 0 ≤ b1) (ha1 : b1 < 18446744073709551616) (hb0 : 0 ≤ b2) (hb1 : b2 < 18446744073709551616) (w : World) :
    Calls Try.prog 6 #[.agg #[.int .u64 c, .int .u64 (h 0), .int .u64 (h 1), .int .u64 (h 2), .int .u64 (h 3), .int .u64 (h 4), .int .u64 (h 5), .int .u64 (h 6), .int .u64 (h 7)], .agg #[.bool t1, .int .i64 p1, .int .u64 b1], .agg #[.bool t2, .int .i64 p2, .int .u64 b2]] w fun e w' => e = .returned (.bool true) ∧ Below w.heap.size w w' := by
  have nums : ∀ p b, 0 ≤ b → Nums (putR c h p b).2.1 ∧ 0 ≤ (putR c h p b).1 ∧ (putR c h p b).1 < 18446744073709551616 := by
    intro p b hb
    by_cases he : (putR c h p b).2.2 = 0
    · obtain ⟨e1, e2, _, _⟩ := put_facts hh hc hb he
      exact ⟨e2, by rw [e1]; exact h0c, by rw [e1]; exact hc⟩
    · have : putR c h p b = (0, none_, 14) ∨ putR c h p b = (0, none_, 2) := by
        unfold putR at he ⊢
        split
        · split
          · rename_i hm hr; rw [if_pos hm, if_pos hr] at he; exact absurd rfl he
          · exact .inl rfl
        · exact .inr rfl
      rcases this with e | e <;> rw [e] <;> exact ⟨fun k _ => ⟨Int.le_refl _, by simp [none_]⟩, Int.le_refl _, by decide⟩
  obtain ⟨n1, n2, n3⟩ := nums p1 b1 ha0
  obtain ⟨m1, m2, m3⟩ := nums p2 b2 hb0
  have H1 := Put_any c h p1 b1 hh h0c hc ha0 ha1
  have H3 := Put_any c h p2 b2 hh h0c hc hb0 hb1
  have H2 := Put_any _ _ p2 b2 n1 n2 n3 hb0 hb1
  have H4 := Put_any _ _ p1 b1 m1 m2 m3 ha0 ha1
  by_cases hB : Both c h p1 b1 p2 b2
  · obtain ⟨hp1, hp2, hs⟩ := hB
    have hz := sumTo_nonneg hh 8 (by omega)
    rw [putR_ok hp1 (by omega) (by omega)] at H1 H2
    rw [putR_ok hp2 (by omega) (by omega)] at H3 H4
    have e1 : sumTo (setAt h p1.toNat (h p1.toNat + b1)) 8 = sumTo h 8 + b1 := by rw [sumTo_setAt h p1.toNat _ 8, if_pos (by omega)]; omega
    have e2 : sumTo (setAt h p2.toNat (h p2.toNat + b2)) 8 = sumTo h 8 + b2 := by rw [sumTo_setAt h p2.toNat _ 8, if_pos (by omega)]; omega
    simp only at H2 H4
    rw [putR_ok hp2 (by rw [e1]; omega) (by rw [e1]; omega)] at H2
    rw [putR_ok hp1 (by rw [e2]; omega) (by rw [e2]; omega), ← setAt_both] at H4
    exact Either_yes c h t1 p1 b1 t2 p2 b2 c c c _ _ _ H1 H2 H3 H4 w
  · have hB' : ¬ Both c h p2 b2 p1 b1 := fun hx => hB ⟨hx.2.1, hx.1, by have := hx.2.2; omega⟩
    exact Either_no c h t1 p1 b1 t2 p2 b2 _ _ _ _ _ _ _ _ _ _ _ _ (both_err hB) (both_err hB') H1 H2 H3 H4 w
end Go.Proofs.Ytbbhbfeafdibmaa
