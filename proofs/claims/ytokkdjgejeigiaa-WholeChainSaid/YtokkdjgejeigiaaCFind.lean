/- Where an entry of a table stands: slices.BinarySearchFunc over none and over one row. -/
import Derived.Test.YtokkdjgejeigiaaRows
import Derived.Test.YtokkdjgejeigiaaSeq
import Derived.WalkKit
import Derived.Below
import Derived.KernelRfl
import Derived.Lib.Hide
import Derived.LoopTactic
import Derived.Outline
namespace Go.Proofs.Ytokkdjgejeigiaa
open Go.RowKit
attribute [local go_sem] cell_set_self

theorem Cmp_calls (w : World) (a o1 o2 v : Int) (h : IntKind.i64.wrap (a - v) = a - v) : Calls Try.prog 23 #[.agg #[.int .i64 a, .int .i64 o1, .int .i64 o2], .int .i64 v] w fun e w' => e = .returned (.int .i64 (a - v)) ∧ Below w.heap.size w w' := by
  go_enter Try.func23, Try.ntmps23
  go_wp2
  go_ret
  exact ⟨rfl, (by repeat (first | (with_reducible exact Below.refl _ _) | (with_reducible assumption) | ((with_reducible refine Below.setCell ?_ ?_ _); rotate_left; (first | omega | (simp <;> omega))) | ((with_reducible refine Below.alloc ?_ ?_ _); rotate_left; (first | omega | (simp <;> omega))) | ((with_reducible refine Below.drew ?_)) | ((with_reducible refine below_drewN ?_ _)) | ((with_reducible refine Below.trans ?_ (Below.mono (by with_reducible assumption) ?_)); rotate_left; (first | omega | (simp <;> omega)))))⟩
theorem Search0_calls (w : World) (A : Option Addr) (c : Nat) (v : Int) : Calls Try.prog 22 #[.slice A 0 c, .int .i64 v, .func (.func 23) #[] #[]] w fun e w' => e = .returned (.tuple #[.int .i64 0, .bool false]) ∧ w = w' := by
  go_enter Try.func22, Try.ntmps22
  go_wp2
  go_loopw [9, 10] (fun i j wr => i = .int .i64 0 ∧ j = .int .i64 0 ∧ wr = w) (fun _ _ _ => 0)
  case atStart => exact ⟨rfl, rfl, rfl⟩
  case round =>
    obtain ⟨rfl, rfl, rfl⟩ := hrel
    go_wp2
    go_ret2
    exact ⟨rfl, rfl⟩
theorem Search1_calls (w : World) (g c : Nat) (a o1 o2 v : Int) (h : IntKind.i64.wrap (a - v) = a - v) (c0 : w.cell? ⟨g, 0, none⟩ = some (.int .i64 a)) (c1 : w.cell? ⟨g, 1, none⟩ = some (.int .i64 o1)) (c2 : w.cell? ⟨g, 2, none⟩ = some (.int .i64 o2)) (hg : g < w.heap.size) : Calls Try.prog 22 #[.slice (some ⟨g, 0, none⟩) 1 c, .int .i64 v, .func (.func 23) #[] #[]] w fun e w' => e = .returned (.tuple #[.int .i64 (if a < v then 1 else 0), .bool (decide (a = v))]) ∧ Below w.heap.size w w' := by
  have HC := Lib.hid fun w' => Cmp_calls w' a o1 o2 v h
  go_enter Try.func22, Try.ntmps22
  go_wp2
  go_loopw [9, 10] (fun i j wr => Below w.heap.size w wr ∧ ((i = .int .i64 0 ∧ j = .int .i64 1) ∨ (i = .int .i64 (if a < v then 1 else 0) ∧ j = .int .i64 (if a < v then 1 else 0)))) (fun i j _ => (intOf j - intOf i).toNat)
  case atStart => exact ⟨Below.refl _ _, .inl ⟨rfl, rfl⟩⟩
  case round =>
    obtain ⟨hb, hij⟩ := hrel
    obtain ⟨e1, e2⟩ := bcell hb
    have sz := hb.size
    rcases hij with ⟨rfl, rfl⟩ | ⟨rfl, rfl⟩
    · by_cases hlt : a < v
      · have d1 : decide (a - v < 0) = true := by simp; omega
        go_wp2_with (go_at_call 23; refine (HC.out _).mono ?_; rintro e w1 ⟨rfl, h1⟩)
        go_roundw
        case rel => exact ⟨(by repeat (first | (with_reducible exact Below.refl _ _) | (with_reducible assumption) | ((with_reducible refine Below.setCell ?_ ?_ _); rotate_left; (first | omega | (simp <;> omega))) | ((with_reducible refine Below.alloc ?_ ?_ _); rotate_left; (first | omega | (simp <;> omega))) | ((with_reducible refine Below.drew ?_)) | ((with_reducible refine below_drewN ?_ _)) | ((with_reducible refine Below.trans ?_ (Below.mono (by with_reducible assumption) ?_)); rotate_left; (first | omega | (simp <;> omega))))), .inr ⟨by rw [if_pos hlt], by rw [if_pos hlt]⟩⟩
        case measure => simp [intOf]
      · have d1 : decide (a - v < 0) = false := by simp; omega
        go_wp2_with (go_at_call 23; refine (HC.out _).mono ?_; rintro e w1 ⟨rfl, h1⟩)
        go_roundw
        case rel => exact ⟨(by repeat (first | (with_reducible exact Below.refl _ _) | (with_reducible assumption) | ((with_reducible refine Below.setCell ?_ ?_ _); rotate_left; (first | omega | (simp <;> omega))) | ((with_reducible refine Below.alloc ?_ ?_ _); rotate_left; (first | omega | (simp <;> omega))) | ((with_reducible refine Below.drew ?_)) | ((with_reducible refine below_drewN ?_ _)) | ((with_reducible refine Below.trans ?_ (Below.mono (by with_reducible assumption) ?_)); rotate_left; (first | omega | (simp <;> omega))))), .inr ⟨by rw [if_neg (by omega)], by rw [if_neg (by omega)]⟩⟩
        case measure => simp [intOf]
    · by_cases hlt : a < v
      · simp only [if_pos hlt]
        go_wp2
        go_ret2
        exact ⟨by simp; omega, hb⟩
      · have hlt' : ¬ a < v := by omega
        rw [if_neg hlt']
        by_cases he : a = v
        · subst he
          go_wp2_with (go_at_call 23; refine (HC.out _).mono ?_; rintro e w1 ⟨rfl, h1⟩)
          go_ret2
          exact ⟨by simp, (by repeat (first | (with_reducible exact Below.refl _ _) | (with_reducible assumption) | ((with_reducible refine Below.setCell ?_ ?_ _); rotate_left; (first | omega | (simp <;> omega))) | ((with_reducible refine Below.alloc ?_ ?_ _); rotate_left; (first | omega | (simp <;> omega))) | ((with_reducible refine Below.drew ?_)) | ((with_reducible refine below_drewN ?_ _)) | ((with_reducible refine Below.trans ?_ (Below.mono (by with_reducible assumption) ?_)); rotate_left; (first | omega | (simp <;> omega)))))⟩
        · have d2 : decide (a - v = 0) = false := by simp; omega
          go_wp2_with (go_at_call 23; refine (HC.out _).mono ?_; rintro e w1 ⟨rfl, h1⟩)
          go_ret2
          exact ⟨by simp; omega, (by repeat (first | (with_reducible exact Below.refl _ _) | (with_reducible assumption) | ((with_reducible refine Below.setCell ?_ ?_ _); rotate_left; (first | omega | (simp <;> omega))) | ((with_reducible refine Below.alloc ?_ ?_ _); rotate_left; (first | omega | (simp <;> omega))) | ((with_reducible refine Below.drew ?_)) | ((with_reducible refine below_drewN ?_ _)) | ((with_reducible refine Below.trans ?_ (Below.mono (by with_reducible assumption) ?_)); rotate_left; (first | omega | (simp <;> omega)))))⟩
end Go.Proofs.Ytokkdjgejeigiaa
