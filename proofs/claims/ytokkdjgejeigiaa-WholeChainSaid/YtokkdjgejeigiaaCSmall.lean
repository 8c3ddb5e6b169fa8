/- The tables' small functions; a block known whole; what find tells of a table's rows. -/
import Derived.Test.YtokkdjgejeigiaaCFind
import Derived.Test.YtokkdjgejeigiaaOwn
namespace Go.Proofs.Ytokkdjgejeigiaa
open Go.RowKit
attribute [local go_sem] cell_set_self

/-- An entry: block g begins with these three numbers. -/
def At (w : World) (g : Nat) (a o1 o2 : Int) : Prop := ∃ cur, Blk w g 60 cur ∧ cur[0]? = some (.int .i64 a) ∧ cur[1]? = some (.int .i64 o1) ∧ cur[2]? = some (.int .i64 o2)
section
variable {w w' : World} {g : Nat} {a o1 o2 : Int}
theorem At.cells (h : At w g a o1 o2) : w.cell? ⟨g, 0, none⟩ = some (.int .i64 a) ∧ w.cell? ⟨g, 1, none⟩ = some (.int .i64 o1) ∧ w.cell? ⟨g, 2, none⟩ = some (.int .i64 o2) ∧ g < w.heap.size := by
  obtain ⟨cur, hb, h0, h1, h2⟩ := h
  exact ⟨(hb.cell _).trans h0, (hb.cell _).trans h1, (hb.cell _).trans h2, hb.lt⟩
theorem At.of_block (h : At w g a o1 o2) (e : w'.heap[g]? = w.heap[g]?) : At w' g a o1 o2 := by
  obtain ⟨cur, hb, h1⟩ := h
  exact ⟨cur, e.trans hb, h1⟩
theorem At.lt (h : At w g a o1 o2) : g < w.heap.size := h.cells.2.2.2
theorem At.later (h : At w g a o1 o2) (hb : Below w.heap.size w w') : At w' g a o1 o2 := h.of_block (hb.block g h.lt)
theorem At.grown {row : Option Nat} (h : At w g a o1 o2) (hb : w.grownBy w' row) (hg : some g ≠ row) : At w' g a o1 o2 := h.of_block (hb.block g h.lt hg)
end

theorem good_calls (w : World) (B : Nat) (x1 x2 x3 x4 : Value) (h : Blk w B 45 #[x1, x2, x3, x4, .bool true]) : Calls Try.prog 9 #[.pointer (some ⟨B, 0, none⟩)] w fun e w' => e = .returned (.bool true) ∧ w = w' := by
  obtain ⟨c, f, s⟩ := h.row
  clear h
  go_enter Try.func9, Try.ntmps9
  go_wp2
  go_ret
  exact ⟨rfl, rfl⟩
theorem bind_yes (w : World) (l : Int) (h1 : 16 ≤ l) (h2 : l ≤ 1048575) : Calls Try.prog 12 #[.int .i64 l] w fun e w' => e = .returned (.bool true) ∧ w = w' := by
  go_enter Try.func12, Try.ntmps12
  go_wp2
  go_ret
  exact ⟨rfl, rfl⟩
theorem bind_no (w : World) : Calls Try.prog 12 #[.int .i64 3] w fun e w' => e = .returned (.bool false) ∧ w = w' := by
  go_enter Try.func12, Try.ntmps12
  go_wp2
  go_ret
  exact ⟨rfl, rfl⟩
theorem within_yes (w : World) (n top : Int) (h1 : 0 ≤ n) (h2 : n ≤ top) : Calls Try.prog 17 #[.int .i64 n, .int .i64 top] w fun e w' => e = .returned (.bool true) ∧ w = w' := by
  go_enter Try.func17, Try.ntmps17
  go_wp2
  go_ret
  exact ⟨rfl, rfl⟩
/-- May an Out be? -/
theorem out_yes (w : World) (o1 o2 : Int) (h1 : 0 ≤ o1) (h2 : o1 < 16) (h3 : 16 ≤ o2 ∧ o2 ≤ 1048575 ∨ o2 = 3) : Calls Try.prog 10 #[.agg #[.int .i64 o1, .int .i64 o2]] w fun e w' => e = .returned (.bool true) ∧ Below w.heap.size w w' := by
  rcases h3 with ⟨h3, h4⟩ | rfl
  · have HB := Lib.hid fun w => bind_yes w o2 h3 h4
    go_enter Try.func10, Try.ntmps10
    go_wp2_with (go_at_call 12; (with_reducible refine (HB.out _).mono ?_); rintro e w1 ⟨rfl, rfl⟩)
    go_ret
    exact ⟨rfl, (by repeat (first | (with_reducible exact Below.refl _ _) | (with_reducible assumption) | ((with_reducible refine Below.setCell ?_ ?_ _); rotate_left; (first | omega | (simp <;> omega))) | ((with_reducible refine Below.alloc ?_ ?_ _); rotate_left; (first | omega | (simp <;> omega))) | ((with_reducible refine Below.drew ?_)) | ((with_reducible refine below_drewN ?_ _)) | ((with_reducible refine Below.trans ?_ (Below.mono (by with_reducible assumption) ?_)); rotate_left; (first | omega | (simp <;> omega)))))⟩
  · have HB := Lib.hid bind_no
    go_enter Try.func10, Try.ntmps10
    go_wp2_with (go_at_call 12; (with_reducible refine (HB.out _).mono ?_); rintro e w1 ⟨rfl, rfl⟩)
    go_ret
    exact ⟨rfl, (by repeat (first | (with_reducible exact Below.refl _ _) | (with_reducible assumption) | ((with_reducible refine Below.setCell ?_ ?_ _); rotate_left; (first | omega | (simp <;> omega))) | ((with_reducible refine Below.alloc ?_ ?_ _); rotate_left; (first | omega | (simp <;> omega))) | ((with_reducible refine Below.drew ?_)) | ((with_reducible refine below_drewN ?_ _)) | ((with_reducible refine Below.trans ?_ (Below.mono (by with_reducible assumption) ?_)); rotate_left; (first | omega | (simp <;> omega)))))⟩
/-- May an entry be? -/
theorem May_yes (w : World) (l k t : Int) (h1 : 0 ≤ l) (h2 : l ≤ 1048575) (h3 : 0 ≤ k) (h4 : k ≤ 7) (h5 : 0 ≤ t) (h6 : t ≤ 255) : Calls Try.prog 8 #[.agg #[.int .i64 l, .int .i64 k, .int .i64 t]] w fun e w' => e = .returned (.bool true) ∧ Below w.heap.size w w' := by
  have H1 := Lib.hid fun w => within_yes w l 1048575 h1 h2
  have H2 := Lib.hid fun w => within_yes w k 7 h3 h4
  have H3 := Lib.hid fun w => within_yes w t 255 h5 h6
  go_enter Try.func8, Try.ntmps8
  go_wp2_with (go_at_call 17; (first | (with_reducible refine (H1.out _).mono ?_) | (with_reducible refine (H2.out _).mono ?_) | (with_reducible refine (H3.out _).mono ?_)); rintro e w1 ⟨rfl, rfl⟩)
  go_ret
  exact ⟨rfl, (by repeat (first | (with_reducible exact Below.refl _ _) | (with_reducible assumption) | ((with_reducible refine Below.setCell ?_ ?_ _); rotate_left; (first | omega | (simp <;> omega))) | ((with_reducible refine Below.alloc ?_ ?_ _); rotate_left; (first | omega | (simp <;> omega))) | ((with_reducible refine Below.drew ?_)) | ((with_reducible refine below_drewN ?_ _)) | ((with_reducible refine Below.trans ?_ (Below.mono (by with_reducible assumption) ?_)); rotate_left; (first | omega | (simp <;> omega)))))⟩
theorem may1_yes (w : World) (l k t : Int) (h1 : 0 ≤ l) (h2 : l ≤ 1048575) (h3 : 0 ≤ k) (h4 : k ≤ 7) (h5 : 0 ≤ t) (h6 : t ≤ 255) : Calls Try.prog 21 #[.agg #[.int .i64 l, .int .i64 k, .int .i64 t]] w fun e w' => e = .returned (.bool false) ∧ Below w.heap.size w w' := by
  have H1 := Lib.hid fun w => May_yes w l k t h1 h2 h3 h4 h5 h6
  go_enter Try.func21, Try.ntmps21
  go_wp2_with (go_at_call 8; (with_reducible refine (H1.out _).mono ?_); rintro e w1 ⟨rfl, hb⟩)
  go_ret
  exact ⟨rfl, (by repeat (first | (with_reducible exact Below.refl _ _) | (with_reducible assumption) | ((with_reducible refine Below.setCell ?_ ?_ _); rotate_left; (first | omega | (simp <;> omega))) | ((with_reducible refine Below.alloc ?_ ?_ _); rotate_left; (first | omega | (simp <;> omega))) | ((with_reducible refine Below.drew ?_)) | ((with_reducible refine below_drewN ?_ _)) | ((with_reducible refine Below.trans ?_ (Below.mono (by with_reducible assumption) ?_)); rotate_left; (first | omega | (simp <;> omega)))))⟩
theorem New_calls (w : World) : Calls Try.prog 4 #[.int .i64 4] w fun e w' => e = .returned (.pointer (some ⟨w.heap.size, 0, none⟩)) ∧ w' = w.alloc (.cells #[.slice none 0 0, .int .i64 4, .slice none 0 0, .int .i64 4, .bool true] 45) := by
  go_enter Try.func4, Try.ntmps4
  go_wp2
  go_ret
  exact ⟨rfl, rfl⟩
theorem find0 (w : World) (B k : Nat) (v : Int) (h : w.cell? ⟨B, k, none⟩ = some (.slice none 0 0)) : Calls Try.prog 18 #[.pointer (some ⟨B, k, none⟩), .int .i64 v] w fun e w' => e = .returned (.tuple #[.int .i64 0, .bool false]) ∧ w = w' := by
  have H := Lib.hid fun w => Search0_calls w none 0 v
  go_enter Try.func18, Try.ntmps18
  go_wp2_with (go_at_call 22; (with_reducible refine (H.out _).mono ?_); rintro e w1 ⟨rfl, rfl⟩)
  go_ret2
  exact ⟨rfl, rfl⟩
theorem find1 (w : World) (B k g c : Nat) (a o1 o2 v : Int) (hw : IntKind.i64.wrap (a - v) = a - v) (h : w.cell? ⟨B, k, none⟩ = some (.slice (some ⟨g, 0, none⟩) 1 c)) (ha : At w g a o1 o2) : Calls Try.prog 18 #[.pointer (some ⟨B, k, none⟩), .int .i64 v] w fun e w' => e = .returned (.tuple #[.int .i64 (if a < v then 1 else 0), .bool (decide (a = v))]) ∧ Below w.heap.size w w' := by
  obtain ⟨c0, c1, c2, hg⟩ := ha.cells
  have h0 := Search1_calls w g c a o1 o2 v hw c0 c1 c2 hg
  generalize (if a < v then (1 : Int) else 0) = r at h0 ⊢
  generalize decide (a = v) = q at h0 ⊢
  have H := Lib.hid h0
  clear ha c0 c1 c2 hw h0
  go_enter Try.func18, Try.ntmps18
  go_wp2_with (go_at_call 22; (with_reducible refine H.out.mono ?_); rintro e w1 ⟨rfl, hb⟩)
  go_ret2
  exact ⟨rfl, hb⟩
end Go.Proofs.Ytokkdjgejeigiaa
