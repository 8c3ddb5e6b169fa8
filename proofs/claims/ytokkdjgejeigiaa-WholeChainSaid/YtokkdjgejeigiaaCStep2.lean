/- Where a packet goes on, and as what: Step, at the first table, at one on the way, at the last one. -/
import Derived.Test.YtokkdjgejeigiaaCStep
import Derived.Deep.DeepCutAuto
namespace Go.Proofs.Ytokkdjgejeigiaa
open Go.RowKit
attribute [local go_sem] cell_set_self
set_option linter.unusedVariables false

/-- A packet that is told together with a number and an error. -/
def Told3 (w : World) (nx : Int) (v : Value) (t : Int) (s : ByteArray) (e : Ending) (w' : World) : Prop := e = .returned (.tuple #[.int .i64 nx, .agg #[v, .int .i64 7, .int .i64 t, .string s], .int .i64 0]) ∧ Below w.heap.size w w'
def Fell3 (w : World) (k : Int) (e : Ending) (w' : World) : Prop := e = .returned (.tuple #[.int .i64 0, .agg #[.slice none 0 0, .int .i64 0, .int .i64 0, .string ⟨#[]⟩], .int .i64 k]) ∧ Below w.heap.size w w'
/-- A table in memory: who its labels' rows are; its tunnels' row. -/
def Tab (w : World) (B : Nat) (A : Value) (g c : Nat) : Prop := Blk w B 45 #[A, .int .i64 4, .slice (some ⟨g, 0, none⟩) 1 c, .int .i64 4, .bool true]
theorem Tab.later {w w' : World} {B : Nat} {A : Value} {g c : Nat} (h : Tab w B A g c) (hb : Below w.heap.size w w') : Tab w' B A g c := Blk.later h hb
theorem Tab.alloc {w : World} {B : Nat} {A : Value} {g c : Nat} (h : Tab w B A g c) (o : Obj) : Tab (w.alloc o) B A g c := Blk.alloc h o
theorem good_tab (w : World) (B : Nat) (A : Value) (g c : Nat) (h : Tab w B A g c) : Calls Try.prog 9 #[.pointer (some ⟨B, 0, none⟩)] w fun e w' => e = .returned (.bool true) ∧ w = w' := good_calls w B _ _ _ _ h
def FirstPost (w : World) (o1 o2 T : Int) (s : ByteArray) (e : Ending) (w' : World) : Prop := if T = 0 then Fell3 w 10 e w' else ∃ p, Told3 w o1 (.slice (some ⟨p, 0, none⟩) 1 1) (T - 1) s e w' ∧ Ent w' p o2 0 (T - 1) ∧ w.heap.size ≤ p
theorem Row.second (w : World) (xs ys : Array Value) (t u : TypeId) : Row ((w.alloc (.cells xs t)).alloc (.cells ys u)) (w.heap.size + 1) ys := Row.new' _ _ _ (by simp)

set_option maxHeartbeats 4000000 in
theorem Step_arg (w : World) (B : Nat) (A : Value) (g c : Nat) (T : Int) (s : ByteArray) (hT : Tab w B A g c) (h1 : 0 ≤ T) (h2 : T ≤ 255) (h3 : ¬ s.size ≤ 4096) : Calls Try.prog 7 #[.pointer (some ⟨B, 0, none⟩), .agg #[.slice none 0 0, .int .i64 7, .int .i64 T, .string s]] w (Fell3 w 2) := by
  have HT := Lib.hid hT
  have HM := Lib.hid fun (w' : World) (_ : Below w.heap.size w w') => may_no w' 7 T s h1 h2 h3
  clear hT h3
  go_enter Try.func7, Try.ntmps7
  go_wp2_with (first | (go_at_call 9; (with_reducible refine (good_tab _ B A g c ((HT.out.alloc _).alloc _)).mono ?_); rintro e w1 ⟨rfl, rfl⟩) | (go_at_call 13; (with_reducible refine (HM.out _ (by repeat (first | (with_reducible exact Below.refl _ _) | (with_reducible assumption) | ((with_reducible refine Below.setCell ?_ ?_ _); rotate_left; (first | omega | (simp <;> omega))) | ((with_reducible refine Below.alloc ?_ ?_ _); rotate_left; (first | omega | (simp <;> omega))) | ((with_reducible refine Below.drew ?_)) | ((with_reducible refine below_drewN ?_ _)) | ((with_reducible refine Below.trans ?_ (Below.mono (by with_reducible assumption) ?_)); rotate_left; (first | omega | (simp <;> omega)))))).mono ?_); rintro e w1 ⟨rfl, hb⟩; have HP := Lib.hid (((Row.new w #[.slice none 0 0, .int .i64 7, .int .i64 T, .string s] 31).alloc (.cells #[.slice none 0 0, .int .i64 0, .int .i64 0, .string ⟨#[]⟩] 31)).later hb); have HZ := Lib.hid ((Row.second w #[.slice none 0 0, .int .i64 7, .int .i64 T, .string s] #[.slice none 0 0, .int .i64 0, .int .i64 0, .string ⟨#[]⟩] 31 31).later hb); have HW := Lib.hid (show Below w.heap.size w w1 from (by repeat (first | (with_reducible exact Below.refl _ _) | (with_reducible assumption) | ((with_reducible refine Below.setCell ?_ ?_ _); rotate_left; (first | omega | (simp <;> omega))) | ((with_reducible refine Below.alloc ?_ ?_ _); rotate_left; (first | omega | (simp <;> omega))) | ((with_reducible refine Below.drew ?_)) | ((with_reducible refine below_drewN ?_ _)) | ((with_reducible refine Below.trans ?_ (Below.mono (by with_reducible assumption) ?_)); rotate_left; (first | omega | (simp <;> omega)))))); clear hb; obtain ⟨c1, f1, s1⟩ := HP.out; obtain ⟨c2, f2, s2⟩ := HZ.out))
  have hz : w.heap.size < w1.heap.size := by omega
  exact bodyPost_ret (v := .tuple #[.int .i64 0, .agg #[.slice none 0 0, .int .i64 0, .int .i64 0, .string ⟨#[]⟩], .int .i64 2]) (by simp [results, Try.results7, go_sem, c2]) rfl (show Fell3 w 2 _ _ from ⟨rfl, (((HW.out.setCell (by simp) _).setCell (by simp) _).setCell (by simp) _).setCell (by simp) _⟩)

set_option maxHeartbeats 16000000 in
theorem Step_first (w : World) (B : Nat) (A : Value) (g c : Nat) (o1 o2 T : Int) (s : ByteArray) (hT : Tab w B A g c) (hg : At w g 7 o1 o2) (h1 : 0 ≤ T) (h2 : T ≤ 255) (h3 : s.size ≤ 4096) (h4 : 16 ≤ o2) (h5 : o2 ≤ 1048575) : Calls Try.prog 7 #[.pointer (some ⟨B, 0, none⟩), .agg #[.slice none 0 0, .int .i64 7, .int .i64 T, .string s]] w (FirstPost w o1 o2 T s) := by
  have HT := Lib.hid hT
  have HG := Lib.hid hg
  have HM := Lib.hid fun (w' : World) (_ : Below w.heap.size w w') => may_yes w' (.slice none 0 0) 7 T s (.inl rfl) h1 h2 h3
  clear hT h3 hg
  go_enter Try.func7, Try.ntmps7
  go_wp2_with (first | (go_at_call 9; (with_reducible refine (good_tab _ B A g c ((HT.out.alloc _).alloc _)).mono ?_); rintro e w1 ⟨rfl, rfl⟩) | (go_at_call 13; (with_reducible refine (HM.out _ (by repeat (first | (with_reducible exact Below.refl _ _) | (with_reducible assumption) | ((with_reducible refine Below.setCell ?_ ?_ _); rotate_left; (first | omega | (simp <;> omega))) | ((with_reducible refine Below.alloc ?_ ?_ _); rotate_left; (first | omega | (simp <;> omega))) | ((with_reducible refine Below.drew ?_)) | ((with_reducible refine below_drewN ?_ _)) | ((with_reducible refine Below.trans ?_ (Below.mono (by with_reducible assumption) ?_)); rotate_left; (first | omega | (simp <;> omega)))))).mono ?_); rintro e w1 ⟨rfl, hb⟩; have HP := Lib.hid (((Row.new w #[.slice none 0 0, .int .i64 7, .int .i64 T, .string s] 31).alloc (.cells #[.slice none 0 0, .int .i64 0, .int .i64 0, .string ⟨#[]⟩] 31)).later hb); have HZ := Lib.hid ((Row.second w #[.slice none 0 0, .int .i64 7, .int .i64 T, .string s] #[.slice none 0 0, .int .i64 0, .int .i64 0, .string ⟨#[]⟩] 31 31).later hb); have HW := Lib.hid (show Below w.heap.size w w1 from (by repeat (first | (with_reducible exact Below.refl _ _) | (with_reducible assumption) | ((with_reducible refine Below.setCell ?_ ?_ _); rotate_left; (first | omega | (simp <;> omega))) | ((with_reducible refine Below.alloc ?_ ?_ _); rotate_left; (first | omega | (simp <;> omega))) | ((with_reducible refine Below.drew ?_)) | ((with_reducible refine below_drewN ?_ _)) | ((with_reducible refine Below.trans ?_ (Below.mono (by with_reducible assumption) ?_)); rotate_left; (first | omega | (simp <;> omega)))))); clear hb; obtain ⟨c1, f1, s1⟩ := HP.out; obtain ⟨c2, f2, s2⟩ := HZ.out))
  have HT := Lib.hid (HT.out.later HW.out)
  have HG := Lib.hid (HG.out.later HW.out)
  have HPop := Lib.hid Pop0_calls
  have hz : w.heap.size ≤ w1.heap.size := HW.out.size
  have hPZ : w.heap.size < w.heap.size + 1 := Nat.lt_succ_self _
  generalize w.heap.size + 1 = Z at *
  generalize hPP : w.heap.size = P at *
  have HPP := Lib.hid hPP
  clear hPP
  go_wp2_with (go_at_call 14; (with_reducible refine (HPop.out _).mono ?_); rintro e w2 ⟨rfl, hb⟩; have HP := Lib.hid (HP.out.later hb); have HZ := Lib.hid (HZ.out.later hb); have HT := Lib.hid (HT.out.later hb); have HG := Lib.hid (HG.out.later hb); have HW := Lib.hid (HW.out.trans (hb.mono hz)); clear hb; clear c1 f1 s1 c2 f2 s2; obtain ⟨c1, f1, s1⟩ := HP.out; obtain ⟨c2, f2, s2⟩ := HZ.out)
  have HP := Lib.hid (HP.out.alloc (.cells #[.int .i64 0, .int .i64 0, .int .i64 0] 36))
  have HZ := Lib.hid (HZ.out.alloc (.cells #[.int .i64 0, .int .i64 0, .int .i64 0] 36))
  have HT := Lib.hid (HT.out.alloc (.cells #[.int .i64 0, .int .i64 0, .int .i64 0] 36))
  have HG := Lib.hid (HG.out.later (show Below w2.heap.size w2 (w2.alloc (.cells #[.int .i64 0, .int .i64 0, .int .i64 0] 36)) from (by repeat (first | (with_reducible exact Below.refl _ _) | (with_reducible assumption) | ((with_reducible refine Below.setCell ?_ ?_ _); rotate_left; (first | omega | (simp <;> omega))) | ((with_reducible refine Below.alloc ?_ ?_ _); rotate_left; (first | omega | (simp <;> omega))) | ((with_reducible refine Below.drew ?_)) | ((with_reducible refine below_drewN ?_ _)) | ((with_reducible refine Below.trans ?_ (Below.mono (by with_reducible assumption) ?_)); rotate_left; (first | omega | (simp <;> omega)))))))
  have HE := Lib.hid (Row.new w2 #[.int .i64 0, .int .i64 0, .int .i64 0] 36)
  have HW := Lib.hid (HW.out.alloc (Nat.le_of_lt s1) (.cells #[.int .i64 0, .int .i64 0, .int .i64 0] 36))
  have hPE : P < w2.heap.size := s1
  have hZE : Z < w2.heap.size := s2
  clear c1 f1 s1 c2 f2 s2 hz HPop HM
  generalize w2.alloc (.cells #[.int .i64 0, .int .i64 0, .int .i64 0] 36) = W at *
  generalize w2.heap.size = E at *
  have HGet := Lib.hid fun (w' : World) (hb : Below W.heap.size W w') => get_calls w' B 2 g c 7 o1 o2 ((Blk.later HT.out hb).cell 2) (Blk.later HT.out hb).lt (HG.out.later hb)
  obtain ⟨c1, f1, s1⟩ := HP.out
  obtain ⟨c2, f2, s2⟩ := HZ.out
  obtain ⟨c3, f3, s3⟩ := HE.out
  obtain ⟨c4, f4, s4⟩ := (show Blk _ _ _ _ from HT.out).row
  (refine reg1 [0,0,0,0,0,0,0,0,0,2,1] 10 10 _ #[.int .i64 0, .int .i64 0] (by kernel_rfl) _ rfl (by kernel_rfl) ?hlen rfl rfl rfl ⟨rfl, fun ρ w => ⟨26, by kernel_rfl⟩⟩ ?hQ ?_; (case hlen => decide); (case hQ => (intro c a o v w h; cases o <;> exact h)); (repeat (first | (with_reducible refine p_fresh ?_) | ((with_reducible refine p_pure (v := ?_) ?hw (fun w' hC => ?hrun) ?_); (case hw => rfl); (case hrun => (obtain ⟨hq1, hq2⟩ := bcell hC; go_simp; with_reducible rfl)); refine p_norm (a' := ?_) ?_ ?_; rotate_left; (simp only [Act.put, List.setIfInBounds_toArray, List.set_cons_zero, List.set_cons_succ]; rfl)) | ((with_reducible refine p_late (v := ?_) ?hw (fun w' => ?hrun) ?_); (case hw => rfl); (case hrun => (go_simp; with_reducible rfl)); refine p_norm (a' := ?_) ?_ ?_; rotate_left; (simp only [Act.put, List.setIfInBounds_toArray, List.set_cons_zero, List.set_cons_succ]; rfl)) | ((with_reducible refine p_skip ?hw ?_); (case hw => rfl); refine p_norm (a' := ?_) ?_ ?_; rotate_left; (simp only [Act.put, List.setIfInBounds_toArray, List.set_cons_zero, List.set_cons_succ]; rfl)) | ((with_reducible refine p_lateskip ?hw ?_); (case hw => rfl); refine p_norm (a' := ?_) ?_ ?_; rotate_left; (simp only [Act.put, List.setIfInBounds_toArray, List.set_cons_zero, List.set_cons_succ]; rfl)) | ((with_reducible refine p_call (f := 15) (fun w' hb => HGet.out w' hb) Try.func15 (by kernel_rfl) rfl rfl ?hw ?hargs ?_); (case hw => rfl); (case hargs => (simp only [List.map_toArray, List.map_cons, List.map_nil]; rfl)); refine p_norm (a' := ?_) ?_ ?_; rotate_left; (simp only [Act.put, List.setIfInBounds_toArray, List.set_cons_zero, List.set_cons_succ]; rfl)) )); with_reducible refine p_nil ?_; intro w3 q hq hp hr; simp only [List.length_cons, List.length_nil, Nat.reduceAdd, List.drop_succ_cons, List.drop_zero, Act.put, List.setIfInBounds_toArray, List.set_cons_zero, List.set_cons_succ])
  have hEq : E < q := by omega
  have HP := Lib.hid (HP.out.later hq)
  have HZ := Lib.hid (HZ.out.later hq)
  have HE := Lib.hid (HE.out.later hq)
  have HQ := Lib.hid hr
  have hPw : P ≤ W.heap.size := by omega
  have HW := Lib.hid (HW.out.trans (hq.mono hPw))
  clear c1 f1 s1 c2 f2 s2 c3 f3 s3 c4 f4 s4 hr HGet HT HG hq
  obtain ⟨oc0, of0, os0⟩ := HP.out
  obtain ⟨oc1, of1, os1⟩ := HZ.out
  obtain ⟨oc2, of2, os2⟩ := HE.out
  obtain ⟨oc3, of3, os3⟩ := HQ.out
  go_upto_region 14 with (fail)
  clear oc0 of0 os0 oc1 of1 os1 oc2 of2 os2 oc3 of3 os3
  have HP : Row (((w3.setCell ⟨q, 0, none⟩ (.int .i64 o1)).setCell ⟨q, 1, none⟩ (.int .i64 o2)).setCell ⟨E, 2, none⟩ (.int .i64 T)) P #[.slice none 0 0, .int .i64 7, .int .i64 T, .string s] := by simpa using (((HP.out.far (a := ⟨q, 0, none⟩) (by show q ≠ P; omega) (.int .i64 o1)).far (a := ⟨q, 1, none⟩) (by show q ≠ P; omega) (.int .i64 o2)).far (a := ⟨E, 2, none⟩) (by show E ≠ P; omega) (.int .i64 T))
  have HP := Lib.hid HP
  have HZ : Row (((w3.setCell ⟨q, 0, none⟩ (.int .i64 o1)).setCell ⟨q, 1, none⟩ (.int .i64 o2)).setCell ⟨E, 2, none⟩ (.int .i64 T)) Z #[.slice none 0 0, .int .i64 0, .int .i64 0, .string ⟨#[]⟩] := by simpa using (((HZ.out.far (a := ⟨q, 0, none⟩) (by show q ≠ Z; omega) (.int .i64 o1)).far (a := ⟨q, 1, none⟩) (by show q ≠ Z; omega) (.int .i64 o2)).far (a := ⟨E, 2, none⟩) (by show E ≠ Z; omega) (.int .i64 T))
  have HZ := Lib.hid HZ
  have HE : Row (((w3.setCell ⟨q, 0, none⟩ (.int .i64 o1)).setCell ⟨q, 1, none⟩ (.int .i64 o2)).setCell ⟨E, 2, none⟩ (.int .i64 T)) E #[.int .i64 0, .int .i64 0, .int .i64 T] := by simpa using (((HE.out.far (a := ⟨q, 0, none⟩) (by show q ≠ E; omega) (.int .i64 o1)).far (a := ⟨q, 1, none⟩) (by show q ≠ E; omega) (.int .i64 o2)).set 2 (.int .i64 T))
  have HE := Lib.hid HE
  have HQ : Row (((w3.setCell ⟨q, 0, none⟩ (.int .i64 o1)).setCell ⟨q, 1, none⟩ (.int .i64 o2)).setCell ⟨E, 2, none⟩ (.int .i64 T)) q #[.int .i64 o1, .int .i64 o2] := by simpa using (((HQ.out.set 0 (.int .i64 o1)).set 1 (.int .i64 o2)).far (a := ⟨E, 2, none⟩) (by show E ≠ q; omega) (.int .i64 T))
  have HQ := Lib.hid HQ
  have HW := Lib.hid (show Below P w (((w3.setCell ⟨q, 0, none⟩ (.int .i64 o1)).setCell ⟨q, 1, none⟩ (.int .i64 o2)).setCell ⟨E, 2, none⟩ (.int .i64 T)) from (((HW.out.setCell (by first | omega | (simp; done) | (simp; omega)) _).setCell (by first | omega | (simp; done) | (simp; omega)) _).setCell (by first | omega | (simp; done) | (simp; omega)) _))
  generalize (((w3.setCell ⟨q, 0, none⟩ (.int .i64 o1)).setCell ⟨q, 1, none⟩ (.int .i64 o2)).setCell ⟨E, 2, none⟩ (.int .i64 T)) = w4 at *
  by_cases h0 : T = 0
  · subst h0
    obtain ⟨oc0, of0, os0⟩ := HP.out
    obtain ⟨oc1, of1, os1⟩ := HZ.out
    obtain ⟨oc2, of2, os2⟩ := HE.out
    obtain ⟨oc3, of3, os3⟩ := HQ.out
    go_wp2
    exact bodyPost_ret (v := .tuple #[.int .i64 0, .agg #[.slice none 0 0, .int .i64 0, .int .i64 0, .string ⟨#[]⟩], .int .i64 10]) (by simp [results, Try.results7, go_sem, oc1]) rfl (show FirstPost w o1 o2 0 s _ _ from (by unfold FirstPost; rw [if_pos rfl]; exact ⟨rfl, by rw [HPP.out]; exact (((HW.out.setCell (by simp; omega) _).setCell (by simp; omega) _).setCell (by simp; omega) _).setCell (by simp; omega) _⟩))
  · have hT1 : 1 ≤ T := by omega
    have hT0 : ¬ T = 0 := h0
    clear h0
    obtain ⟨oc0, of0, os0⟩ := HP.out
    obtain ⟨oc1, of1, os1⟩ := HZ.out
    obtain ⟨oc2, of2, os2⟩ := HE.out
    obtain ⟨oc3, of3, os3⟩ := HQ.out
    go_upto_region 18 with (fail)
    go_outline
    clear oc0 of0 os0 oc1 of1 os1 oc2 of2 os2 oc3 of3 os3
    have HP : Row ((w4.setCell ⟨E, 2, none⟩ (.int .i64 (T - 1))).setCell ⟨E, 0, none⟩ (.int .i64 o2)) P #[.slice none 0 0, .int .i64 7, .int .i64 T, .string s] := by simpa using ((HP.out.far (a := ⟨E, 2, none⟩) (by show E ≠ P; omega) (.int .i64 (T - 1))).far (a := ⟨E, 0, none⟩) (by show E ≠ P; omega) (.int .i64 o2))
    have HP := Lib.hid HP
    have HZ : Row ((w4.setCell ⟨E, 2, none⟩ (.int .i64 (T - 1))).setCell ⟨E, 0, none⟩ (.int .i64 o2)) Z #[.slice none 0 0, .int .i64 0, .int .i64 0, .string ⟨#[]⟩] := by simpa using ((HZ.out.far (a := ⟨E, 2, none⟩) (by show E ≠ Z; omega) (.int .i64 (T - 1))).far (a := ⟨E, 0, none⟩) (by show E ≠ Z; omega) (.int .i64 o2))
    have HZ := Lib.hid HZ
    have HE : Row ((w4.setCell ⟨E, 2, none⟩ (.int .i64 (T - 1))).setCell ⟨E, 0, none⟩ (.int .i64 o2)) E #[.int .i64 o2, .int .i64 0, .int .i64 (T - 1)] := by simpa using ((HE.out.set 2 (.int .i64 (T - 1))).set 0 (.int .i64 o2))
    have HE := Lib.hid HE
    have HQ : Row ((w4.setCell ⟨E, 2, none⟩ (.int .i64 (T - 1))).setCell ⟨E, 0, none⟩ (.int .i64 o2)) q #[.int .i64 o1, .int .i64 o2] := by simpa using ((HQ.out.far (a := ⟨E, 2, none⟩) (by show E ≠ q; omega) (.int .i64 (T - 1))).far (a := ⟨E, 0, none⟩) (by show E ≠ q; omega) (.int .i64 o2))
    have HQ := Lib.hid HQ
    have HW := Lib.hid (show Below P w ((w4.setCell ⟨E, 2, none⟩ (.int .i64 (T - 1))).setCell ⟨E, 0, none⟩ (.int .i64 o2)) from ((HW.out.setCell (by first | omega | (simp; done) | (simp; omega)) _).setCell (by first | omega | (simp; done) | (simp; omega)) _))
    generalize ((w4.setCell ⟨E, 2, none⟩ (.int .i64 (T - 1))).setCell ⟨E, 0, none⟩ (.int .i64 o2)) = w5 at *
    obtain ⟨oc0, of0, os0⟩ := HP.out
    obtain ⟨oc1, of1, os1⟩ := HZ.out
    obtain ⟨oc2, of2, os2⟩ := HE.out
    obtain ⟨oc3, of3, os3⟩ := HQ.out
    go_upto_region 25 with (fail)
    go_outline
    clear oc0 of0 os0 oc1 of1 os1 oc2 of2 os2 oc3 of3 os3
    have HP : Row ((w5.setCell ⟨P, 2, none⟩ (.int .i64 (T - 1))).setCell ⟨P, 0, none⟩ (.slice none 0 0)) P #[.slice none 0 0, .int .i64 7, .int .i64 (T - 1), .string s] := by simpa using ((HP.out.set 2 (.int .i64 (T - 1))).set 0 (.slice none 0 0))
    have HP := Lib.hid HP
    have HZ : Row ((w5.setCell ⟨P, 2, none⟩ (.int .i64 (T - 1))).setCell ⟨P, 0, none⟩ (.slice none 0 0)) Z #[.slice none 0 0, .int .i64 0, .int .i64 0, .string ⟨#[]⟩] := by simpa using ((HZ.out.far (a := ⟨P, 2, none⟩) (by show P ≠ Z; omega) (.int .i64 (T - 1))).far (a := ⟨P, 0, none⟩) (by show P ≠ Z; omega) (.slice none 0 0))
    have HZ := Lib.hid HZ
    have HE : Row ((w5.setCell ⟨P, 2, none⟩ (.int .i64 (T - 1))).setCell ⟨P, 0, none⟩ (.slice none 0 0)) E #[.int .i64 o2, .int .i64 0, .int .i64 (T - 1)] := by simpa using ((HE.out.far (a := ⟨P, 2, none⟩) (by show P ≠ E; omega) (.int .i64 (T - 1))).far (a := ⟨P, 0, none⟩) (by show P ≠ E; omega) (.slice none 0 0))
    have HE := Lib.hid HE
    have HQ : Row ((w5.setCell ⟨P, 2, none⟩ (.int .i64 (T - 1))).setCell ⟨P, 0, none⟩ (.slice none 0 0)) q #[.int .i64 o1, .int .i64 o2] := by simpa using ((HQ.out.far (a := ⟨P, 2, none⟩) (by show P ≠ q; omega) (.int .i64 (T - 1))).far (a := ⟨P, 0, none⟩) (by show P ≠ q; omega) (.slice none 0 0))
    have HQ := Lib.hid HQ
    have HW := Lib.hid (show Below P w ((w5.setCell ⟨P, 2, none⟩ (.int .i64 (T - 1))).setCell ⟨P, 0, none⟩ (.slice none 0 0)) from ((HW.out.setCell (by first | omega | (simp; done) | (simp; omega)) _).setCell (by first | omega | (simp; done) | (simp; omega)) _))
    generalize ((w5.setCell ⟨P, 2, none⟩ (.int .i64 (T - 1))).setCell ⟨P, 0, none⟩ (.slice none 0 0)) = w6 at *
    obtain ⟨oc0, of0, os0⟩ := HP.out
    obtain ⟨oc1, of1, os1⟩ := HZ.out
    obtain ⟨oc2, of2, os2⟩ := HE.out
    obtain ⟨oc3, of3, os3⟩ := HQ.out
    have HPu := Lib.hid fun (w' : World) => Push_calls w' o2 0 (T - 1) (by omega) h5 (by omega) (by omega) (by omega) (by omega)
    have hPw6 : P < w6.heap.size := os0
    have hZw6 : Z < w6.heap.size := os1
    have hEw6 : E < w6.heap.size := os2
    have hQw6 : q < w6.heap.size := os3
    go_wp2_with (go_at_call 16; (with_reducible refine (HPu.out _).mono ?_); rintro e w7 ⟨p, rfl, he, hp, hb⟩; have HN := Lib.hid he; have HB7 := Lib.hid hb; clear oc0 of0 os0 oc1 of1 os1 oc2 of2 os2 oc3 of3 os3; have HP := Lib.hid (HP.out.later hb); have HZ := Lib.hid (HZ.out.later hb); have HE := Lib.hid (HE.out.later hb); have HQ := Lib.hid (HQ.out.later hb); clear he hb; obtain ⟨oc0, of0, os0⟩ := HP.out; obtain ⟨oc1, of1, os1⟩ := HZ.out; obtain ⟨oc2, of2, os2⟩ := HE.out; obtain ⟨oc3, of3, os3⟩ := HQ.out)
    have HW := Lib.hid (HW.out.trans (HB7.out.mono (Nat.le_of_lt hPw6)))
    clear oc0 of0 os0 oc1 of1 os1 oc2 of2 os2 oc3 of3 os3
    have HP : Row (w7.setCell ⟨P, 0, none⟩ (.slice (some ⟨p, 0, none⟩) 1 1)) P #[.slice (some ⟨p, 0, none⟩) 1 1, .int .i64 7, .int .i64 (T - 1), .string s] := by simpa using (HP.out.set 0 (.slice (some ⟨p, 0, none⟩) 1 1))
    have HP := Lib.hid HP
    have HZ : Row (w7.setCell ⟨P, 0, none⟩ (.slice (some ⟨p, 0, none⟩) 1 1)) Z #[.slice none 0 0, .int .i64 0, .int .i64 0, .string ⟨#[]⟩] := by simpa using (HZ.out.far (a := ⟨P, 0, none⟩) (by show P ≠ Z; omega) (.slice (some ⟨p, 0, none⟩) 1 1))
    have HZ := Lib.hid HZ
    have HE : Row (w7.setCell ⟨P, 0, none⟩ (.slice (some ⟨p, 0, none⟩) 1 1)) E #[.int .i64 o2, .int .i64 0, .int .i64 (T - 1)] := by simpa using (HE.out.far (a := ⟨P, 0, none⟩) (by show P ≠ E; omega) (.slice (some ⟨p, 0, none⟩) 1 1))
    have HE := Lib.hid HE
    have HQ : Row (w7.setCell ⟨P, 0, none⟩ (.slice (some ⟨p, 0, none⟩) 1 1)) q #[.int .i64 o1, .int .i64 o2] := by simpa using (HQ.out.far (a := ⟨P, 0, none⟩) (by show P ≠ q; omega) (.slice (some ⟨p, 0, none⟩) 1 1))
    have HQ := Lib.hid HQ
    have HN : Row (w7.setCell ⟨P, 0, none⟩ (.slice (some ⟨p, 0, none⟩) 1 1)) p #[.int .i64 o2, .int .i64 0, .int .i64 (T - 1)] := by simpa using (HN.out.far (a := ⟨P, 0, none⟩) (by show P ≠ p; omega) (.slice (some ⟨p, 0, none⟩) 1 1))
    have HN := Lib.hid HN
    have HW := Lib.hid (show Below P w (w7.setCell ⟨P, 0, none⟩ (.slice (some ⟨p, 0, none⟩) 1 1)) from (HW.out.setCell (by first | omega | (simp; done) | (simp; omega)) _))
    generalize (w7.setCell ⟨P, 0, none⟩ (.slice (some ⟨p, 0, none⟩) 1 1)) = w8 at *
    have hPw8 : P ≤ w8.heap.size := Nat.le_of_lt HP.out.2.2
    obtain ⟨oc0, of0, os0⟩ := HP.out
    obtain ⟨oc1, of1, os1⟩ := HZ.out
    obtain ⟨oc2, of2, os2⟩ := HE.out
    obtain ⟨oc3, of3, os3⟩ := HQ.out
    obtain ⟨oc4, of4, os4⟩ := HN.out
    refine seq_reg [0, 1, 2, 3, 4, 5] [0, 0, 0, 0, 2, 0] (by kernel_rfl) _ rfl (by kernel_rfl) ?_
    intro wd hwd hwh; clear hwh
    clear oc0 of0 os0 oc1 of1 os1 oc2 of2 os2 oc3 of3 os3 oc4 of4 os4; have HP := Lib.hid (HP.out.later hwd); have HZ := Lib.hid (HZ.out.later hwd); have HE := Lib.hid (HE.out.later hwd); have HQ := Lib.hid (HQ.out.later hwd); have HN := Lib.hid (HN.out.later hwd); have HW := Lib.hid (HW.out.trans (hwd.mono (by omega))); obtain ⟨oc0, of0, os0⟩ := HP.out; obtain ⟨oc1, of1, os1⟩ := HZ.out; obtain ⟨oc2, of2, os2⟩ := HE.out; obtain ⟨oc3, of3, os3⟩ := HQ.out; obtain ⟨oc4, of4, os4⟩ := HN.out
    (first | ((with_reducible refine s_read (v := ?_) rfl rfl ?hw (fun w' hC => ?hrun) ?_); (case hw => rfl); (case hrun => (obtain ⟨hq1, hq2⟩ := bcell hC; go_simp; with_reducible rfl)); refine s_norm (a' := ?_) ?_ ?_; rotate_left; (simp only [Act.put, List.getElem_toArray, List.getElem_cons_zero, List.setIfInBounds_toArray, List.set_cons_zero, List.set_cons_succ]; rfl)) | ((with_reducible refine s_skip rfl rfl ?hw ?_); (case hw => rfl); refine s_norm (a' := ?_) ?_ ?_; rotate_left; (simp only [Act.put, List.getElem_toArray, List.getElem_cons_zero, List.setIfInBounds_toArray, List.set_cons_zero, List.set_cons_succ]; rfl)))
    (first | ((with_reducible refine s_read (v := ?_) rfl rfl ?hw (fun w' hC => ?hrun) ?_); (case hw => rfl); (case hrun => (obtain ⟨hq1, hq2⟩ := bcell hC; go_simp; with_reducible rfl)); refine s_norm (a' := ?_) ?_ ?_; rotate_left; (simp only [Act.put, List.getElem_toArray, List.getElem_cons_succ, List.getElem_cons_zero, List.setIfInBounds_toArray, List.set_cons_zero, List.set_cons_succ]; rfl)) | ((with_reducible refine s_skip rfl rfl ?hw ?_); (case hw => rfl); refine s_norm (a' := ?_) ?_ ?_; rotate_left; (simp only [Act.put, List.getElem_toArray, List.getElem_cons_succ, List.getElem_cons_zero, List.setIfInBounds_toArray, List.set_cons_zero, List.set_cons_succ]; rfl)))
    (first | ((with_reducible refine s_read (v := ?_) rfl rfl ?hw (fun w' hC => ?hrun) ?_); (case hw => rfl); (case hrun => (obtain ⟨hq1, hq2⟩ := bcell hC; go_simp; with_reducible rfl)); refine s_norm (a' := ?_) ?_ ?_; rotate_left; (simp only [Act.put, List.getElem_toArray, List.getElem_cons_succ, List.getElem_cons_zero, List.setIfInBounds_toArray, List.set_cons_zero, List.set_cons_succ]; rfl)) | ((with_reducible refine s_skip rfl rfl ?hw ?_); (case hw => rfl); refine s_norm (a' := ?_) ?_ ?_; rotate_left; (simp only [Act.put, List.getElem_toArray, List.getElem_cons_succ, List.getElem_cons_zero, List.setIfInBounds_toArray, List.set_cons_zero, List.set_cons_succ]; rfl)))
    (first | ((with_reducible refine s_read (v := ?_) rfl rfl ?hw (fun w' hC => ?hrun) ?_); (case hw => rfl); (case hrun => (obtain ⟨hq1, hq2⟩ := bcell hC; go_simp; with_reducible rfl)); refine s_norm (a' := ?_) ?_ ?_; rotate_left; (simp only [Act.put, List.getElem_toArray, List.getElem_cons_succ, List.getElem_cons_zero, List.setIfInBounds_toArray, List.set_cons_zero, List.set_cons_succ]; rfl)) | ((with_reducible refine s_skip rfl rfl ?hw ?_); (case hw => rfl); refine s_norm (a' := ?_) ?_ ?_; rotate_left; (simp only [Act.put, List.getElem_toArray, List.getElem_cons_succ, List.getElem_cons_zero, List.setIfInBounds_toArray, List.set_cons_zero, List.set_cons_succ]; rfl)))
    (refine s_store (w' := ((((wd.setCell ⟨Z, 0, none⟩ (.slice (some ⟨p, 0, none⟩) 1 1)).setCell ⟨Z, 1, none⟩ (.int .i64 7)).setCell ⟨Z, 2, none⟩ (.int .i64 (T - 1))).setCell ⟨Z, 3, none⟩ (.string s))) rfl rfl ?hw rfl ?hrun ?_; (case hw => rfl); (case hrun => (go_simp; try rfl)))
    (first | ((with_reducible refine s_read (v := ?_) rfl rfl ?hw (fun w' hC => ?hrun) ?_); (case hw => rfl); (case hrun => (obtain ⟨hq1, hq2⟩ := bcell hC; go_simp; with_reducible rfl)); refine s_norm (a' := ?_) ?_ ?_; rotate_left; (simp only [Act.put, List.getElem_toArray, List.getElem_cons_succ, List.getElem_cons_zero, List.setIfInBounds_toArray, List.set_cons_zero, List.set_cons_succ]; rfl)) | ((with_reducible refine s_skip rfl rfl ?hw ?_); (case hw => rfl); refine s_norm (a' := ?_) ?_ ?_; rotate_left; (simp only [Act.put, List.getElem_toArray, List.getElem_cons_succ, List.getElem_cons_zero, List.setIfInBounds_toArray, List.set_cons_zero, List.set_cons_succ]; rfl)))
    refine s_nil ?_
    clear oc0 of0 os0 oc1 of1 os1 oc2 of2 os2 oc3 of3 os3 oc4 of4 os4
    have HP : Row ((((wd.setCell ⟨Z, 0, none⟩ (.slice (some ⟨p, 0, none⟩) 1 1)).setCell ⟨Z, 1, none⟩ (.int .i64 7)).setCell ⟨Z, 2, none⟩ (.int .i64 (T - 1))).setCell ⟨Z, 3, none⟩ (.string s)) P #[.slice (some ⟨p, 0, none⟩) 1 1, .int .i64 7, .int .i64 (T - 1), .string s] := by simpa using ((((HP.out.far (a := ⟨Z, 0, none⟩) (by show Z ≠ P; omega) (.slice (some ⟨p, 0, none⟩) 1 1)).far (a := ⟨Z, 1, none⟩) (by show Z ≠ P; omega) (.int .i64 7)).far (a := ⟨Z, 2, none⟩) (by show Z ≠ P; omega) (.int .i64 (T - 1))).far (a := ⟨Z, 3, none⟩) (by show Z ≠ P; omega) (.string s))
    have HP := Lib.hid HP
    have HZ : Row ((((wd.setCell ⟨Z, 0, none⟩ (.slice (some ⟨p, 0, none⟩) 1 1)).setCell ⟨Z, 1, none⟩ (.int .i64 7)).setCell ⟨Z, 2, none⟩ (.int .i64 (T - 1))).setCell ⟨Z, 3, none⟩ (.string s)) Z #[.slice (some ⟨p, 0, none⟩) 1 1, .int .i64 7, .int .i64 (T - 1), .string s] := by simpa using ((((HZ.out.set 0 (.slice (some ⟨p, 0, none⟩) 1 1)).set 1 (.int .i64 7)).set 2 (.int .i64 (T - 1))).set 3 (.string s))
    have HZ := Lib.hid HZ
    have HE : Row ((((wd.setCell ⟨Z, 0, none⟩ (.slice (some ⟨p, 0, none⟩) 1 1)).setCell ⟨Z, 1, none⟩ (.int .i64 7)).setCell ⟨Z, 2, none⟩ (.int .i64 (T - 1))).setCell ⟨Z, 3, none⟩ (.string s)) E #[.int .i64 o2, .int .i64 0, .int .i64 (T - 1)] := by simpa using ((((HE.out.far (a := ⟨Z, 0, none⟩) (by show Z ≠ E; omega) (.slice (some ⟨p, 0, none⟩) 1 1)).far (a := ⟨Z, 1, none⟩) (by show Z ≠ E; omega) (.int .i64 7)).far (a := ⟨Z, 2, none⟩) (by show Z ≠ E; omega) (.int .i64 (T - 1))).far (a := ⟨Z, 3, none⟩) (by show Z ≠ E; omega) (.string s))
    have HE := Lib.hid HE
    have HQ : Row ((((wd.setCell ⟨Z, 0, none⟩ (.slice (some ⟨p, 0, none⟩) 1 1)).setCell ⟨Z, 1, none⟩ (.int .i64 7)).setCell ⟨Z, 2, none⟩ (.int .i64 (T - 1))).setCell ⟨Z, 3, none⟩ (.string s)) q #[.int .i64 o1, .int .i64 o2] := by simpa using ((((HQ.out.far (a := ⟨Z, 0, none⟩) (by show Z ≠ q; omega) (.slice (some ⟨p, 0, none⟩) 1 1)).far (a := ⟨Z, 1, none⟩) (by show Z ≠ q; omega) (.int .i64 7)).far (a := ⟨Z, 2, none⟩) (by show Z ≠ q; omega) (.int .i64 (T - 1))).far (a := ⟨Z, 3, none⟩) (by show Z ≠ q; omega) (.string s))
    have HQ := Lib.hid HQ
    have HN : Row ((((wd.setCell ⟨Z, 0, none⟩ (.slice (some ⟨p, 0, none⟩) 1 1)).setCell ⟨Z, 1, none⟩ (.int .i64 7)).setCell ⟨Z, 2, none⟩ (.int .i64 (T - 1))).setCell ⟨Z, 3, none⟩ (.string s)) p #[.int .i64 o2, .int .i64 0, .int .i64 (T - 1)] := by simpa using ((((HN.out.far (a := ⟨Z, 0, none⟩) (by show Z ≠ p; omega) (.slice (some ⟨p, 0, none⟩) 1 1)).far (a := ⟨Z, 1, none⟩) (by show Z ≠ p; omega) (.int .i64 7)).far (a := ⟨Z, 2, none⟩) (by show Z ≠ p; omega) (.int .i64 (T - 1))).far (a := ⟨Z, 3, none⟩) (by show Z ≠ p; omega) (.string s))
    have HN := Lib.hid HN
    have HW := Lib.hid (show Below P w ((((wd.setCell ⟨Z, 0, none⟩ (.slice (some ⟨p, 0, none⟩) 1 1)).setCell ⟨Z, 1, none⟩ (.int .i64 7)).setCell ⟨Z, 2, none⟩ (.int .i64 (T - 1))).setCell ⟨Z, 3, none⟩ (.string s)) from ((((HW.out.setCell (by first | omega | (simp; done) | (simp; omega)) _).setCell (by first | omega | (simp; done) | (simp; omega)) _).setCell (by first | omega | (simp; done) | (simp; omega)) _).setCell (by first | omega | (simp; done) | (simp; omega)) _))
    generalize ((((wd.setCell ⟨Z, 0, none⟩ (.slice (some ⟨p, 0, none⟩) 1 1)).setCell ⟨Z, 1, none⟩ (.int .i64 7)).setCell ⟨Z, 2, none⟩ (.int .i64 (T - 1))).setCell ⟨Z, 3, none⟩ (.string s)) = w9 at *
    obtain ⟨oc0, of0, os0⟩ := HP.out
    obtain ⟨oc1, of1, os1⟩ := HZ.out
    obtain ⟨oc2, of2, os2⟩ := HE.out
    obtain ⟨oc3, of3, os3⟩ := HQ.out
    obtain ⟨oc4, of4, os4⟩ := HN.out
    go_wp2
    exact bodyPost_ret (v := .tuple #[.int .i64 o1, .agg #[.slice (some ⟨p, 0, none⟩) 1 1, .int .i64 7, .int .i64 (T - 1), .string s], .int .i64 0]) (by simp [results, Try.results7, go_sem, oc1]) rfl (show FirstPost w o1 o2 T s _ _ from (by unfold FirstPost; rw [if_neg hT0]; exact ⟨p, ⟨rfl, by rw [HPP.out]; exact HW.out⟩, HN.out.ent, by rw [HPP.out]; omega⟩))
end Go.Proofs.Ytokkdjgejeigiaa
