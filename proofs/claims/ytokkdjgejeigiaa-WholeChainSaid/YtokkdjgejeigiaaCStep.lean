/- A packet's parts, one by one: get, Pop, Push, may. -/
import Derived.Test.YtokkdjgejeigiaaCPut
namespace Go.Proofs.Ytokkdjgejeigiaa
open Go.RowKit
attribute [local go_sem] cell_set_self
set_option linter.unusedVariables false

theorem get_calls (w : World) (B k g c : Nat) (a o1 o2 : Int) (h : w.cell? ⟨B, k, none⟩ = some (.slice (some ⟨g, 0, none⟩) 1 c)) (hB : B < w.heap.size) (ha : At w g a o1 o2) : Calls Try.prog 15 #[.pointer (some ⟨B, k, none⟩), .int .i64 a] w fun e w' => e = .returned (.tuple #[.agg #[.int .i64 o1, .int .i64 o2], .bool true]) ∧ Below w.heap.size w w' := by
  have HF := Lib.hid fun (w' : World) (hb : Below w.heap.size w w') => (show Calls Try.prog 18 #[.pointer (some ⟨B, k, none⟩), .int .i64 a] w' fun e w'' => e = .returned (.tuple #[.int .i64 0, .bool true]) ∧ Below w'.heap.size w' w'' from by
    have h0 := find1 w' B k g c a o1 o2 a (by rw [Int.sub_self]; rfl) ((hb.cell (p := ⟨B, k, none⟩) hB).trans h) (ha.later hb)
    simpa using h0)
  have HA := Lib.hid ha
  have HC := Lib.hid h
  clear ha h
  go_enter Try.func15, Try.ntmps15
  go_wp2_with (go_at_call 18; (with_reducible refine (HF.out _ (by repeat (first | (with_reducible exact Below.refl _ _) | (with_reducible assumption) | ((with_reducible refine Below.setCell ?_ ?_ _); rotate_left; (first | omega | (simp <;> omega))) | ((with_reducible refine Below.alloc ?_ ?_ _); rotate_left; (first | omega | (simp <;> omega))) | ((with_reducible refine Below.drew ?_)) | ((with_reducible refine below_drewN ?_ _)) | ((with_reducible refine Below.trans ?_ (Below.mono (by with_reducible assumption) ?_)); rotate_left; (first | omega | (simp <;> omega)))))).mono ?_); rintro e w1 ⟨rfl, hb⟩; have hb0 : Below w.heap.size w w1 := (by repeat (first | (with_reducible exact Below.refl _ _) | (with_reducible assumption) | ((with_reducible refine Below.setCell ?_ ?_ _); rotate_left; (first | omega | (simp <;> omega))) | ((with_reducible refine Below.alloc ?_ ?_ _); rotate_left; (first | omega | (simp <;> omega))) | ((with_reducible refine Below.drew ?_)) | ((with_reducible refine below_drewN ?_ _)) | ((with_reducible refine Below.trans ?_ (Below.mono (by with_reducible assumption) ?_)); rotate_left; (first | omega | (simp <;> omega))))); have HR := Lib.hid ((Row.new w #[.int .i64 0, .int .i64 0] 26).later hb); obtain ⟨c1, f1, s1⟩ := HR.out; obtain ⟨c2, c3, c4, c5⟩ := (HA.out.later hb0).cells; have c6 := (hb0.cell (p := ⟨B, k, none⟩) hB).trans HC.out)
  exact bodyPost_ret (v := .tuple #[.agg #[.int .i64 o1, .int .i64 o2], .bool true]) (by simp [results, Try.results15, go_sem, c1]) rfl ⟨rfl, (by repeat (first | (with_reducible exact Below.refl _ _) | (with_reducible assumption) | ((with_reducible refine Below.setCell ?_ ?_ _); rotate_left; (first | omega | (simp <;> omega))) | ((with_reducible refine Below.alloc ?_ ?_ _); rotate_left; (first | omega | (simp <;> omega))) | ((with_reducible refine Below.drew ?_)) | ((with_reducible refine below_drewN ?_ _)) | ((with_reducible refine Below.trans ?_ (Below.mono (by with_reducible assumption) ?_)); rotate_left; (first | omega | (simp <;> omega)))))⟩

theorem Pop0_calls (w : World) : Calls Try.prog 14 #[.slice none 0 0] w fun e w' => e = .returned (.tuple #[.agg #[.int .i64 0, .int .i64 0, .int .i64 0], .slice none 0 0, .int .i64 8]) ∧ Below w.heap.size w w' := by
  go_enter Try.func14, Try.ntmps14
  go_wp2
  exact bodyPost_ret (v := .tuple #[.agg #[.int .i64 0, .int .i64 0, .int .i64 0], .slice none 0 0, .int .i64 8]) (by simp [results, Try.results14, go_sem]) rfl ⟨rfl, (by repeat (first | (with_reducible exact Below.refl _ _) | (with_reducible assumption) | ((with_reducible refine Below.setCell ?_ ?_ _); rotate_left; (first | omega | (simp <;> omega))) | ((with_reducible refine Below.alloc ?_ ?_ _); rotate_left; (first | omega | (simp <;> omega))) | ((with_reducible refine Below.drew ?_)) | ((with_reducible refine below_drewN ?_ _)) | ((with_reducible refine Below.trans ?_ (Below.mono (by with_reducible assumption) ?_)); rotate_left; (first | omega | (simp <;> omega)))))⟩
/-- One entry lies at p. -/
def Ent (w : World) (p : Nat) (l k t : Int) : Prop := w.cell? ⟨p, 0, none⟩ = some (.int .i64 l) ∧ w.cell? ⟨p, 1, none⟩ = some (.int .i64 k) ∧ w.cell? ⟨p, 2, none⟩ = some (.int .i64 t) ∧ p < w.heap.size
theorem Ent.later {w w' : World} {p : Nat} {l k t : Int} (h : Ent w p l k t) (hb : Below w.heap.size w w') : Ent w' p l k t := by
  obtain ⟨h0, h1, h2, h3⟩ := h
  exact ⟨(hb.cell (p := ⟨p, 0, none⟩) h3).trans h0, (hb.cell (p := ⟨p, 1, none⟩) h3).trans h1, (hb.cell (p := ⟨p, 2, none⟩) h3).trans h2, Nat.lt_of_lt_of_le h3 hb.size⟩
theorem Row.ent {w : World} {p : Nat} {l k t : Int} (h : Row w p #[.int .i64 l, .int .i64 k, .int .i64 t]) : Ent w p l k t := ⟨h.1 0, h.1 1, h.1 2, h.2.2⟩

set_option maxHeartbeats 4000000 in
theorem Pop1_calls (w : World) (p : Nat) (l k t : Int) (h : Ent w p l k t) : Calls Try.prog 14 #[.slice (some ⟨p, 0, none⟩) 1 1] w fun e w' => e = .returned (.tuple #[.agg #[.int .i64 l, .int .i64 k, .int .i64 t], .slice none 0 0, .int .i64 0]) ∧ Below w.heap.size w w' := by
  have HE := Lib.hid h
  clear h
  go_enter Try.func14, Try.ntmps14
  go_wp2
  have HE := Lib.hid (HE.out.later (show Below w.heap.size w (w.alloc (.cells #[.int .i64 0, .int .i64 0, .int .i64 0] 36)) from (by repeat (first | (with_reducible exact Below.refl _ _) | (with_reducible assumption) | ((with_reducible refine Below.setCell ?_ ?_ _); rotate_left; (first | omega | (simp <;> omega))) | ((with_reducible refine Below.alloc ?_ ?_ _); rotate_left; (first | omega | (simp <;> omega))) | ((with_reducible refine Below.drew ?_)) | ((with_reducible refine below_drewN ?_ _)) | ((with_reducible refine Below.trans ?_ (Below.mono (by with_reducible assumption) ?_)); rotate_left; (first | omega | (simp <;> omega)))))))
  have HR := Lib.hid (Row.new w #[.int .i64 0, .int .i64 0, .int .i64 0] 36)
  have HW := Lib.hid (show Below w.heap.size w (w.alloc (.cells #[.int .i64 0, .int .i64 0, .int .i64 0] 36)) from (by repeat (first | (with_reducible exact Below.refl _ _) | (with_reducible assumption) | ((with_reducible refine Below.setCell ?_ ?_ _); rotate_left; (first | omega | (simp <;> omega))) | ((with_reducible refine Below.alloc ?_ ?_ _); rotate_left; (first | omega | (simp <;> omega))) | ((with_reducible refine Below.drew ?_)) | ((with_reducible refine below_drewN ?_ _)) | ((with_reducible refine Below.trans ?_ (Below.mono (by with_reducible assumption) ?_)); rotate_left; (first | omega | (simp <;> omega))))))
  generalize w.alloc (.cells #[.int .i64 0, .int .i64 0, .int .i64 0] 36) = W at *
  refine seq_reg [0, 1, 2, 3, 4, 5, 6, 7, 8] [0, 0, 0, 0, 0, 0, 2, 0, 0] (by kernel_rfl) _ rfl (by kernel_rfl) ?_
  intro wd hwd hwh; clear hwh
  have HE := Lib.hid (HE.out.later hwd); have HR := Lib.hid (HR.out.later hwd); obtain ⟨c1, f1, s1⟩ := HR.out; obtain ⟨c2, c3, c4, c5⟩ := HE.out
  (first | ((with_reducible refine s_read (v := ?_) rfl rfl ?hw (fun w' hC => ?hrun) ?_); (case hw => rfl); (case hrun => (obtain ⟨hq1, hq2⟩ := bcell hC; go_simp; with_reducible rfl)); refine s_norm (a' := ?_) ?_ ?_; rotate_left; (simp only [Act.put, List.getElem_toArray, List.getElem_cons_zero, List.setIfInBounds_toArray, List.set_cons_zero, List.set_cons_succ]; rfl)) | ((with_reducible refine s_skip rfl rfl ?hw ?_); (case hw => rfl); refine s_norm (a' := ?_) ?_ ?_; rotate_left; (simp only [Act.put, List.getElem_toArray, List.getElem_cons_zero, List.setIfInBounds_toArray, List.set_cons_zero, List.set_cons_succ]; rfl)))
  (first | ((with_reducible refine s_read (v := ?_) rfl rfl ?hw (fun w' hC => ?hrun) ?_); (case hw => rfl); (case hrun => (obtain ⟨hq1, hq2⟩ := bcell hC; go_simp; with_reducible rfl)); refine s_norm (a' := ?_) ?_ ?_; rotate_left; (simp only [Act.put, List.getElem_toArray, List.getElem_cons_succ, List.getElem_cons_zero, List.setIfInBounds_toArray, List.set_cons_zero, List.set_cons_succ]; rfl)) | ((with_reducible refine s_skip rfl rfl ?hw ?_); (case hw => rfl); refine s_norm (a' := ?_) ?_ ?_; rotate_left; (simp only [Act.put, List.getElem_toArray, List.getElem_cons_succ, List.getElem_cons_zero, List.setIfInBounds_toArray, List.set_cons_zero, List.set_cons_succ]; rfl)))
  (first | ((with_reducible refine s_read (v := ?_) rfl rfl ?hw (fun w' hC => ?hrun) ?_); (case hw => rfl); (case hrun => (obtain ⟨hq1, hq2⟩ := bcell hC; go_simp; with_reducible rfl)); refine s_norm (a' := ?_) ?_ ?_; rotate_left; (simp only [Act.put, List.getElem_toArray, List.getElem_cons_succ, List.getElem_cons_zero, List.setIfInBounds_toArray, List.set_cons_zero, List.set_cons_succ]; rfl)) | ((with_reducible refine s_skip rfl rfl ?hw ?_); (case hw => rfl); refine s_norm (a' := ?_) ?_ ?_; rotate_left; (simp only [Act.put, List.getElem_toArray, List.getElem_cons_succ, List.getElem_cons_zero, List.setIfInBounds_toArray, List.set_cons_zero, List.set_cons_succ]; rfl)))
  (first | ((with_reducible refine s_read (v := ?_) rfl rfl ?hw (fun w' hC => ?hrun) ?_); (case hw => rfl); (case hrun => (obtain ⟨hq1, hq2⟩ := bcell hC; go_simp; with_reducible rfl)); refine s_norm (a' := ?_) ?_ ?_; rotate_left; (simp only [Act.put, List.getElem_toArray, List.getElem_cons_succ, List.getElem_cons_zero, List.setIfInBounds_toArray, List.set_cons_zero, List.set_cons_succ]; rfl)) | ((with_reducible refine s_skip rfl rfl ?hw ?_); (case hw => rfl); refine s_norm (a' := ?_) ?_ ?_; rotate_left; (simp only [Act.put, List.getElem_toArray, List.getElem_cons_succ, List.getElem_cons_zero, List.setIfInBounds_toArray, List.set_cons_zero, List.set_cons_succ]; rfl)))
  (first | ((with_reducible refine s_read (v := ?_) rfl rfl ?hw (fun w' hC => ?hrun) ?_); (case hw => rfl); (case hrun => (obtain ⟨hq1, hq2⟩ := bcell hC; go_simp; with_reducible rfl)); refine s_norm (a' := ?_) ?_ ?_; rotate_left; (simp only [Act.put, List.getElem_toArray, List.getElem_cons_succ, List.getElem_cons_zero, List.setIfInBounds_toArray, List.set_cons_zero, List.set_cons_succ]; rfl)) | ((with_reducible refine s_skip rfl rfl ?hw ?_); (case hw => rfl); refine s_norm (a' := ?_) ?_ ?_; rotate_left; (simp only [Act.put, List.getElem_toArray, List.getElem_cons_succ, List.getElem_cons_zero, List.setIfInBounds_toArray, List.set_cons_zero, List.set_cons_succ]; rfl)))
  (first | ((with_reducible refine s_read (v := ?_) rfl rfl ?hw (fun w' hC => ?hrun) ?_); (case hw => rfl); (case hrun => (obtain ⟨hq1, hq2⟩ := bcell hC; go_simp; with_reducible rfl)); refine s_norm (a' := ?_) ?_ ?_; rotate_left; (simp only [Act.put, List.getElem_toArray, List.getElem_cons_succ, List.getElem_cons_zero, List.setIfInBounds_toArray, List.set_cons_zero, List.set_cons_succ]; rfl)) | ((with_reducible refine s_skip rfl rfl ?hw ?_); (case hw => rfl); refine s_norm (a' := ?_) ?_ ?_; rotate_left; (simp only [Act.put, List.getElem_toArray, List.getElem_cons_succ, List.getElem_cons_zero, List.setIfInBounds_toArray, List.set_cons_zero, List.set_cons_succ]; rfl)))
  (refine s_store (w' := ((wd.setCell ⟨w.heap.size, 0, none⟩ (.int .i64 l)).setCell ⟨w.heap.size, 1, none⟩ (.int .i64 k)).setCell ⟨w.heap.size, 2, none⟩ (.int .i64 t)) rfl rfl ?hw rfl ?hrun ?_; (case hw => rfl); (case hrun => (go_simp; try rfl)))
  (first | ((with_reducible refine s_read (v := ?_) rfl rfl ?hw (fun w' hC => ?hrun) ?_); (case hw => rfl); (case hrun => (obtain ⟨hq1, hq2⟩ := bcell hC; go_simp; with_reducible rfl)); refine s_norm (a' := ?_) ?_ ?_; rotate_left; (simp only [Act.put, List.getElem_toArray, List.getElem_cons_succ, List.getElem_cons_zero, List.setIfInBounds_toArray, List.set_cons_zero, List.set_cons_succ]; rfl)) | ((with_reducible refine s_skip rfl rfl ?hw ?_); (case hw => rfl); refine s_norm (a' := ?_) ?_ ?_; rotate_left; (simp only [Act.put, List.getElem_toArray, List.getElem_cons_succ, List.getElem_cons_zero, List.setIfInBounds_toArray, List.set_cons_zero, List.set_cons_succ]; rfl)))
  (first | ((with_reducible refine s_read (v := ?_) rfl rfl ?hw (fun w' hC => ?hrun) ?_); (case hw => rfl); (case hrun => (obtain ⟨hq1, hq2⟩ := bcell hC; go_simp; with_reducible rfl)); refine s_norm (a' := ?_) ?_ ?_; rotate_left; (simp only [Act.put, List.getElem_toArray, List.getElem_cons_succ, List.getElem_cons_zero, List.setIfInBounds_toArray, List.set_cons_zero, List.set_cons_succ]; rfl)) | ((with_reducible refine s_skip rfl rfl ?hw ?_); (case hw => rfl); refine s_norm (a' := ?_) ?_ ?_; rotate_left; (simp only [Act.put, List.getElem_toArray, List.getElem_cons_succ, List.getElem_cons_zero, List.setIfInBounds_toArray, List.set_cons_zero, List.set_cons_succ]; rfl)))
  refine s_nil ?_
  have hz : w.heap.size < wd.heap.size := HR.out.2.2
  have HZ : Row (((wd.setCell ⟨w.heap.size, 0, none⟩ (.int .i64 l)).setCell ⟨w.heap.size, 1, none⟩ (.int .i64 k)).setCell ⟨w.heap.size, 2, none⟩ (.int .i64 t)) w.heap.size #[.int .i64 l, .int .i64 k, .int .i64 t] := by simpa using ((HR.out.set 0 (.int .i64 l)).set 1 (.int .i64 k)).set 2 (.int .i64 t)
  have hq : Below w.heap.size w (((wd.setCell ⟨w.heap.size, 0, none⟩ (.int .i64 l)).setCell ⟨w.heap.size, 1, none⟩ (.int .i64 k)).setCell ⟨w.heap.size, 2, none⟩ (.int .i64 t)) := (((HW.out.trans (hwd.mono HW.out.size)).setCell (Nat.le_refl _) _).setCell (Nat.le_refl _) _).setCell (Nat.le_refl _) _
  clear c1 f1 s1 c2 c3 c4 c5
  generalize ((wd.setCell ⟨w.heap.size, 0, none⟩ (.int .i64 l)).setCell ⟨w.heap.size, 1, none⟩ (.int .i64 k)).setCell ⟨w.heap.size, 2, none⟩ (.int .i64 t) = w9 at *
  obtain ⟨c1, f1, s1⟩ := HZ
  go_wp2
  exact bodyPost_ret (v := .tuple #[.agg #[.int .i64 l, .int .i64 k, .int .i64 t], .slice none 0 0, .int .i64 0]) (by simp [results, Try.results14, go_sem, c1]) rfl ⟨rfl, hq⟩

theorem Push_calls (w : World) (l k t : Int) (h1 : 0 ≤ l) (h2 : l ≤ 1048575) (h3 : 0 ≤ k) (h4 : k ≤ 7) (h5 : 0 ≤ t) (h6 : t ≤ 255) : Calls Try.prog 16 #[.slice none 0 0, .agg #[.int .i64 l, .int .i64 k, .int .i64 t]] w fun e w' => ∃ p, e = .returned (.tuple #[.slice (some ⟨p, 0, none⟩) 1 1, .int .i64 0]) ∧ Row w' p #[.int .i64 l, .int .i64 k, .int .i64 t] ∧ w.heap.size ≤ p ∧ Below w.heap.size w w' := by
  have HM := Lib.hid fun w => May_yes w l k t h1 h2 h3 h4 h5 h6
  clear h1 h2 h3 h4 h5 h6
  go_enter Try.func16, Try.ntmps16
  go_wp2_with (go_at_call 8; (with_reducible refine (HM.out _).mono ?_); rintro e w1 ⟨rfl, hb⟩; have HR := Lib.hid ((Row.new w #[.int .i64 l, .int .i64 k, .int .i64 t] 36).later hb); obtain ⟨c1, f1, s1⟩ := HR.out; have e1 := hb.size)
  go_ret2
  exact ⟨w1.heap.size, rfl, Row.new w1 #[.int .i64 l, .int .i64 k, .int .i64 t] 36, by simp at e1; omega, (by repeat (first | (with_reducible exact Below.refl _ _) | (with_reducible assumption) | ((with_reducible refine Below.setCell ?_ ?_ _); rotate_left; (first | omega | (simp <;> omega))) | ((with_reducible refine Below.alloc ?_ ?_ _); rotate_left; (first | omega | (simp <;> omega))) | ((with_reducible refine Below.drew ?_)) | ((with_reducible refine below_drewN ?_ _)) | ((with_reducible refine Below.trans ?_ (Below.mono (by with_reducible assumption) ?_)); rotate_left; (first | omega | (simp <;> omega)))))⟩

theorem Index0_calls (w : World) : Calls Try.prog 26 #[.slice none 0 0, .func (.func 21) #[] #[]] w fun e w' => e = .returned (.int .i64 (-1)) ∧ w = w' := by
  go_enter Try.func26, Try.ntmps26
  go_wp2
  go_loop [5, 8] (fun _ i => i = .int .i64 0) (fun _ _ => 0)
  case atStart => exact rfl
  case round =>
    obtain rfl := hrel
    go_wp2
    go_ret
    exact ⟨rfl, rfl⟩
theorem Index1_calls (w : World) (p : Nat) (l k t : Int) (h : Ent w p l k t) (h1 : 0 ≤ l) (h2 : l ≤ 1048575) (h3 : 0 ≤ k) (h4 : k ≤ 7) (h5 : 0 ≤ t) (h6 : t ≤ 255) : Calls Try.prog 26 #[.slice (some ⟨p, 0, none⟩) 1 1, .func (.func 21) #[] #[]] w fun e w' => e = .returned (.int .i64 (-1)) ∧ Below w.heap.size w w' := by
  have HM := Lib.hid fun w => may1_yes w l k t h1 h2 h3 h4 h5 h6
  have HE := Lib.hid h
  clear h h1 h2 h3 h4 h5 h6
  go_enter Try.func26, Try.ntmps26
  go_wp2
  go_loopw [5, 8] (fun _ i wr => (i = .int .i64 0 ∨ i = .int .i64 1) ∧ Below w.heap.size w wr) (fun _ i _ => (1 - intOf i).toNat)
  case atStart => exact ⟨.inl rfl, Below.refl _ _⟩
  case round =>
    obtain ⟨hi, hb⟩ := hrel
    obtain ⟨c0, c1, c2, c3⟩ := HE.out.later hb
    have HB := Lib.hid hb
    clear hb
    rcases hi with rfl | rfl
    · go_wp2_with (go_at_call 21; (with_reducible refine (HM.out _).mono ?_); rintro e w1 ⟨rfl, hb⟩)
      go_roundw
      case rel => exact ⟨.inr rfl, HB.out.trans (hb.mono HB.out.size)⟩
      case measure => simp [intOf]
    · go_wp2
      go_ret
      exact ⟨rfl, HB.out⟩
/-- How the stack of a packet stands: none, or one entry that may be. -/
def Stk (w : World) (v : Value) : Prop := v = .slice none 0 0 ∨ ∃ p l k t, v = .slice (some ⟨p, 0, none⟩) 1 1 ∧ Ent w p l k t ∧ 0 ≤ l ∧ l ≤ 1048575 ∧ 0 ≤ k ∧ k ≤ 7 ∧ 0 ≤ t ∧ t ≤ 255
theorem Stk.later {w w' : World} {v : Value} (h : Stk w v) (hb : Below w.heap.size w w') : Stk w' v := by
  rcases h with h | ⟨p, l, k, t, rfl, he, h⟩
  · exact .inl h
  · exact .inr ⟨p, l, k, t, rfl, he.later hb, h⟩
theorem Has_calls (w : World) (v : Value) (h : Stk w v) : Calls Try.prog 20 #[v, .func (.func 21) #[] #[]] w fun e w' => e = .returned (.bool false) ∧ Below w.heap.size w w' := by
  rcases h with rfl | ⟨p, l, k, t, rfl, he, h1, h2, h3, h4, h5, h6⟩
  · have H := Lib.hid Index0_calls
    go_enter Try.func20, Try.ntmps20
    go_wp2_with (go_at_call 26; (with_reducible refine (H.out _).mono ?_); rintro e w1 ⟨rfl, rfl⟩)
    go_ret
    exact ⟨rfl, Below.refl _ _⟩
  · have H := Lib.hid fun (w' : World) (hb : Below w.heap.size w w') => Index1_calls w' p l k t (he.later hb) h1 h2 h3 h4 h5 h6
    clear he h1 h2 h3 h4 h5 h6
    go_enter Try.func20, Try.ntmps20
    go_wp2_with (go_at_call 26; (with_reducible refine (H.out _ (by repeat (first | (with_reducible exact Below.refl _ _) | (with_reducible assumption) | ((with_reducible refine Below.setCell ?_ ?_ _); rotate_left; (first | omega | (simp <;> omega))) | ((with_reducible refine Below.alloc ?_ ?_ _); rotate_left; (first | omega | (simp <;> omega))) | ((with_reducible refine Below.drew ?_)) | ((with_reducible refine below_drewN ?_ _)) | ((with_reducible refine Below.trans ?_ (Below.mono (by with_reducible assumption) ?_)); rotate_left; (first | omega | (simp <;> omega)))))).mono ?_); rintro e w1 ⟨rfl, hb⟩)
    go_ret
    exact ⟨rfl, hb⟩
theorem Stk.form {w : World} {v : Value} (h : Stk w v) : ∃ A n c, v = .slice A n c ∧ n ≤ 1 := by
  rcases h with rfl | ⟨p, l, k, t, rfl, _⟩
  · exact ⟨_, _, _, rfl, by omega⟩
  · exact ⟨_, _, _, rfl, by omega⟩
/-- May a packet be? -/
theorem may_yes (w : World) (v : Value) (n t : Int) (s : ByteArray) (h : Stk w v) (h1 : 0 ≤ t) (h2 : t ≤ 255) (h3 : s.size ≤ 4096) : Calls Try.prog 13 #[.agg #[v, .int .i64 n, .int .i64 t, .string s]] w fun e w' => e = .returned (.bool true) ∧ Below w.heap.size w w' := by
  obtain ⟨A, m, c, rfl, hm⟩ := h.form
  have H := Lib.hid fun (w' : World) (hb : Below w.heap.size w w') => Has_calls w' _ (h.later hb)
  have h4 : (s.size : Int) ≤ 4096 := by omega
  have h5 : (m : Int) ≤ 8 := by omega
  clear h
  go_enter Try.func13, Try.ntmps13
  go_wp2_with (go_at_call 20; (with_reducible refine (H.out _ (by repeat (first | (with_reducible exact Below.refl _ _) | (with_reducible assumption) | ((with_reducible refine Below.setCell ?_ ?_ _); rotate_left; (first | omega | (simp <;> omega))) | ((with_reducible refine Below.alloc ?_ ?_ _); rotate_left; (first | omega | (simp <;> omega))) | ((with_reducible refine Below.drew ?_)) | ((with_reducible refine below_drewN ?_ _)) | ((with_reducible refine Below.trans ?_ (Below.mono (by with_reducible assumption) ?_)); rotate_left; (first | omega | (simp <;> omega)))))).mono ?_); rintro e w1 ⟨rfl, hb⟩)
  go_ret
  exact ⟨rfl, (by repeat (first | (with_reducible exact Below.refl _ _) | (with_reducible assumption) | ((with_reducible refine Below.setCell ?_ ?_ _); rotate_left; (first | omega | (simp <;> omega))) | ((with_reducible refine Below.alloc ?_ ?_ _); rotate_left; (first | omega | (simp <;> omega))) | ((with_reducible refine Below.drew ?_)) | ((with_reducible refine below_drewN ?_ _)) | ((with_reducible refine Below.trans ?_ (Below.mono (by with_reducible assumption) ?_)); rotate_left; (first | omega | (simp <;> omega)))))⟩
theorem may_no (w : World) (n t : Int) (s : ByteArray) (h1 : 0 ≤ t) (h2 : t ≤ 255) (h3 : ¬ s.size ≤ 4096) : Calls Try.prog 13 #[.agg #[.slice none 0 0, .int .i64 n, .int .i64 t, .string s]] w fun e w' => e = .returned (.bool false) ∧ Below w.heap.size w w' := by
  have h4 : ¬ (s.size : Int) ≤ 4096 := by omega
  go_enter Try.func13, Try.ntmps13
  go_wp2
  go_ret
  exact ⟨rfl, (by repeat (first | (with_reducible exact Below.refl _ _) | (with_reducible assumption) | ((with_reducible refine Below.setCell ?_ ?_ _); rotate_left; (first | omega | (simp <;> omega))) | ((with_reducible refine Below.alloc ?_ ?_ _); rotate_left; (first | omega | (simp <;> omega))) | ((with_reducible refine Below.drew ?_)) | ((with_reducible refine below_drewN ?_ _)) | ((with_reducible refine Below.trans ?_ (Below.mono (by with_reducible assumption) ?_)); rotate_left; (first | omega | (simp <;> omega)))))⟩
end Go.Proofs.Ytokkdjgejeigiaa
