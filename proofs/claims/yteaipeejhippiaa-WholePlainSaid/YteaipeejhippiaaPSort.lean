/- The numbers of a node's links in some order: an insertion sort by what a closure tells keeps the same numbers. -/
import Derived.Test.YteaipeejhippiaaPKeeps
import Derived.CellFam
import Derived.Deep.Draws
import Derived.Deep.QuietTactic
import Derived.BigQuiet
import Derived.BigGuard
import Derived.BigCall
import Derived.Deep.RegionLaw
namespace Go.Proofs.Yteaipeejhippiaa
open Go.RowKit
attribute [local go_sem] cell_set_self
set_option linter.unusedVariables false

set_option maxHeartbeats 8000000 in
theorem Outs1_calls (w : World) (K : Nat) (A : Option Addr) (m c : Nat) (x : Nat → Lnk) (i j : Nat) (hi : i < m) (hj : j < m) (hK : w.cell? ⟨K, 0, none⟩ = some (.slice A m c)) (hs : Strip w A m 5 (fun i => link (x i))) :
    Calls Try.prog 59 #[.int .i64 (i : Int), .int .i64 (j : Int), .pointer (some ⟨K, 0, none⟩)] w fun e w' => e = .returned (.int .i64 (cmpI (x i).dst (x j).dst)) ∧ ∃ m, w' = w.drewN m := by
  obtain ⟨ad, rfl, hadb, hc⟩ := hs (by omega)
  have gi := hc i hi 1 (by omega)
  have gj := hc j hj 1 (by omega)
  replace gi : w.cell? ⟨(ad.add (i * 5)).block, (ad.add (i * 5)).off + 1, none⟩ = some (.int .i64 (x i).dst) := gi
  replace gj : w.cell? ⟨(ad.add (j * 5)).block, (ad.add (j * 5)).off + 1, none⟩ = some (.int .i64 (x j).dst) := gj
  have i0 : (0 : Int) ≤ (i : Int) := by omega
  have i1 : (i : Int) < (m : Int) := by omega
  have j0 : (0 : Int) ≤ (j : Int) := by omega
  have j1 : (j : Int) < (m : Int) := by omega
  clear hc hs
  generalize (x i).dst = a at *
  generalize (x j).dst = b at *
  go_enter Try.func59, Try.ntmps59
  go_wp2
  go_quiet (first | (go_at_call 60; exact Calls.quiet_of_same ((cmp_calls a b _).mono fun _ _ h => ⟨h.1, h.2.symm⟩)))
  go_wp2
  go_ret
  exact ⟨rfl, _, rfl⟩
/-- Cells of a block known as numbers. -/
def NumsAt (w : World) (g n : Nat) (d : Nat → Int) : Prop := (∀ t, t < n → w.cell? ⟨g, t, none⟩ = some (.int .i64 (d t))) ∧ (∀ t, w.frozen? ⟨g, t, none⟩ = false) ∧ g < w.heap.size
def swI (d : Nat → Int) (i j : Nat) : Nat → Int := fun k => if k = j then d i else if k = i then d j else d k
theorem swI_mem {d : Nat → Int} {n i j : Nat} (hi : i < n) (hj : j < n) (y : Int) : (∃ k, k < n ∧ swI d i j k = y) ↔ ∃ k, k < n ∧ d k = y := by
  constructor
  · rintro ⟨k, hk, h⟩
    unfold swI at h
    split at h
    · exact ⟨i, hi, h⟩
    · split at h
      · exact ⟨j, hj, h⟩
      · exact ⟨k, hk, h⟩
  · rintro ⟨k, hk, h⟩
    by_cases e : k = i
    · subst e
      exact ⟨j, hj, by simp [swI, h]⟩
    · by_cases e2 : k = j
      · subst e2
        refine ⟨i, hi, ?_⟩
        unfold swI
        rw [if_neg (fun e' => e e'.symm), if_pos rfl, h]
      · exact ⟨k, hk, by simp [swI, e, e2, h]⟩
theorem NumsAt.drewN {w : World} {g n : Nat} {d : Nat → Int} (h : NumsAt w g n d) (m : Nat) : NumsAt (w.drewN m) g n d := h
theorem NumsAt.put {w : World} {g n : Nat} {d : Nat → Int} (h : NumsAt w g n d) {i : Nat} (hi : i < n) (y : Int) : NumsAt (w.setCell ⟨g, i, none⟩ (.int .i64 y)) g n (fun k => if k = i then y else d k) := by
  refine ⟨fun t ht => ?_, fun t => (frozen_set w _ _ _).trans (h.2.1 t), by have := h.2.2; simpa [World.setCell] using this⟩
  by_cases e : t = i
  · subst e
    rw [cell_set_self, h.1 t ht]
    simp
  · rw [World.cell?_setCell_other w _ _ _ (fun e' => e (by injection e' with _ e'; exact e'.symm)), h.1 t ht]
    simp [e]
theorem NumsAt.swap {w : World} {g n : Nat} {d : Nat → Int} (h : NumsAt w g n d) {i j : Nat} (hi : i < n) (hj : j < n) : NumsAt ((w.setCell ⟨g, i, none⟩ (.int .i64 (d j))).setCell ⟨g, j, none⟩ (.int .i64 (d i))) g n (swI d i j) := (h.put hi _).put hj _
/-- A closure's answer F, wherever only block g has turned. -/
def Tells (w : World) (g : Nat) (B : Int → Prop) (K : Nat) (F : Int → Int → Int) : Prop := ∀ w', w.grownBy w' (some g) → ∀ a b, B a → B b → Calls Try.prog 59 #[.int .i64 a, .int .i64 b, .pointer (some ⟨K, 0, none⟩)] w' fun e w'' => e = .returned (.int .i64 (F a b)) ∧ ∃ m, w'' = w'.drewN m
def SortPost (w : World) (g n : Nat) (d : Nat → Int) (e : Ending) (w' : World) : Prop := e = .returned (.tuple #[]) ∧ w.grownBy w' (some g) ∧ ∃ d', NumsAt w' g n d' ∧ ∀ y, (∃ k, k < n ∧ d' k = y) ↔ ∃ k, k < n ∧ d k = y
set_option maxRecDepth 100000 in
set_option maxHeartbeats 8000000 in
theorem Insertion_calls (w : World) (g n c K : Nat) (d : Nat → Int) (B : Int → Prop) (F : Int → Int → Int) (hn : n ≤ 1000) (hd : NumsAt w g n d) (hB : ∀ k, k < n → B (d k)) (hT : Tells w g B K F) :
    Calls Try.prog 70 #[.slice (some ⟨g, 0, none⟩) n c, .int .i64 0, .int .i64 (n : Int), .func (.func 59) #[] #[.pointer (some ⟨K, 0, none⟩)]] w (SortPost w g n d) := by
  have HD := Lib.hid hd
  have HB := Lib.hid hB
  have HT := Lib.hid hT
  clear hd hB hT
  go_enter Try.func70, Try.ntmps70
  go_wp2
  go_loopw [8] (fun vi wr => ∃ (i : Nat) (dk : Nat → Int), vi = .int .i64 i ∧ 1 ≤ i ∧ i ≤ n + 1 ∧ w.grownBy wr (some g) ∧ NumsAt wr g n dk ∧ ∀ y, (∃ k, k < n ∧ dk k = y) ↔ ∃ k, k < n ∧ d k = y) (fun vi _ => n + 1 - (intOf vi).toNat)
  case atStart => exact ⟨1, d, rfl, by omega, by omega, World.grownBy.refl _ _, HD.out, fun _ => Iff.rfl⟩
  case round =>
    obtain ⟨i, dk, rfl, hi1, hi2, hg, hdk, hm⟩ := hrel
    have HG := Lib.hid hg
    have HK := Lib.hid hdk
    have HM := Lib.hid hm
    clear hg hdk hm
    by_cases hin : i < n
    · have hin2 : (i : Int) < (n : Int) := by omega
      go_wp2
      go_loopw [9] (fun vj wr2 => ∃ (j : Nat) (dj : Nat → Int), vj = .int .i64 j ∧ j ≤ i ∧ w.grownBy wr2 (some g) ∧ NumsAt wr2 g n dj ∧ ∀ y, (∃ k, k < n ∧ dj k = y) ↔ ∃ k, k < n ∧ d k = y) (fun vj _ => (intOf vj).toNat)
      case atStart => exact ⟨i, dk, rfl, Nat.le_refl _, HG.out, HK.out, HM.out⟩
      case round =>
        obtain ⟨j, dj, rfl, hji, hg, hdj, hm⟩ := hrel
        have out : ∀ q, ∃ (i' : Nat) (dk : Nat → Int), Value.int .i64 ((i : Int) + 1) = .int .i64 i' ∧ 1 ≤ i' ∧ i' ≤ n + 1 ∧ w.grownBy (wr.drewN q) (some g) ∧ NumsAt (wr.drewN q) g n dk ∧ ∀ y, (∃ k, k < n ∧ dk k = y) ↔ ∃ k, k < n ∧ d k = y := fun q => ⟨i + 1, dj, num_step i, by omega, by omega, grown_drewN hg q, hdj.drewN q, hm⟩
        have OUT := Lib.hid out
        clear out HG HK HM
        by_cases hja : 0 < j
        · obtain ⟨l, rfl⟩ : ∃ l, j = l + 1 := ⟨j - 1, by omega⟩
          have c1 := hdj.1 (l + 1) (by omega)
          have c2 := hdj.1 l (by omega)
          have f1 := hdj.2.1
          have hgw := hdj.2.2
          have hA : B (dj (l + 1)) := by
            obtain ⟨k, hk, e⟩ := (hm (dj (l + 1))).1 ⟨l + 1, by omega, rfl⟩
            exact e ▸ HB.out k hk
          have hC : B (dj l) := by
            obtain ⟨k, hk, e⟩ := (hm (dj l)).1 ⟨l, by omega, rfl⟩
            exact e ▸ HB.out k hk
          have hcall := fun w' hw' => HT.out w' hw' _ _ hA hC
          have HC := Lib.hid hcall
          have HG := Lib.hid hg
          have HJ := Lib.hid fun q => (hdj.drewN q).swap (i := l + 1) (j := l) (by omega) (by omega)
          have HM := Lib.hid (fun y => (swI_mem (d := dj) (n := n) (i := l + 1) (j := l) (by omega) (by omega) y).trans (hm y))
          have j0 : (0 : Int) < ((l + 1 : Nat) : Int) := by omega
          have j1 : ((l + 1 : Nat) : Int) < (n : Int) := by omega
          have j2 : (0 : Int) ≤ ((l + 1 : Nat) : Int) := by omega
          clear hcall hg hdj hm hA hC
          go_wp2
          go_quiet (first | (go_at_call 59; exact Calls.quiet_of (HC.out _ (grown_drewN HG.out _))))
          have HG2 := Lib.hid (grown_drewN HG.out nq)
          go_wp2
          · go_region
            all_goals
              go_wp2
              go_roundw
              case rel => exact ⟨l, swI dj (l + 1) l, by congr 1, by omega, grown_setCell (grown_setCell (grown_drewN HG.out (nq + 1)) rfl _) rfl _, HJ.out (nq + 1), HM.out⟩
              case measure => simp [intOf]
          · go_roundw
            case rel => exact OUT.out nq
            case measure => simp [intOf]; omega
        · have j0 : decide (0 < (j : Int)) = false := by simp; omega
          clear hg hdj hm
          go_wp2
          go_quiet (fail)
          go_wp2
          go_roundw
          case rel => exact OUT.out nq
          case measure => simp [intOf]; omega
    · go_wp2
      go_end0
      exact ⟨rfl, HG.out, dk, HK.out, HM.out⟩
set_option maxHeartbeats 8000000 in
theorem Insertion0_calls (w : World) (A : Option Addr) (c : Nat) (v : Value) : Calls Try.prog 70 #[.slice A 0 c, .int .i64 0, .int .i64 0, v] w fun e w' => e = .returned (.tuple #[]) ∧ w = w' := by
  go_enter Try.func70, Try.ntmps70
  go_wp2
  go_loopw [8] (fun vi wr => vi = .int .i64 1 ∧ w = wr) (fun vi _ => 0)
  case atStart => exact ⟨rfl, rfl⟩
  case round =>
    obtain ⟨rfl, rfl⟩ := hrel
    go_wp2
    go_end0
    exact ⟨rfl, rfl⟩
set_option maxRecDepth 100000 in
set_option maxHeartbeats 8000000 in
theorem Stable_calls (w : World) (A : Option Addr) (n c : Nat) (v : Value) (R : Ending → World → Prop) (hn : n < 20) (h : Calls Try.prog 70 #[.slice A n c, .int .i64 0, .int .i64 (n : Int), v] w fun e w' => e = .returned (.tuple #[]) ∧ R e w') :
    Calls Try.prog 66 #[.slice A n c, .int .i64 (n : Int), v] w fun e w' => e = .returned (.tuple #[]) ∧ R e w' := by
  have H := Lib.hid h
  clear h
  have n1 : ¬ ((20 : Int) ≤ (n : Int)) := by omega
  have n2 : ¬ ((20 : Int) < (n : Int)) := by omega
  go_enter Try.func66, Try.ntmps66
  go_wp2
  go_loopw [7, 8] (fun va vb wr => va = .int .i64 0 ∧ vb = .int .i64 20 ∧ w = wr) (fun _ _ _ => 0)
  case atStart => exact ⟨rfl, rfl, rfl⟩
  case round =>
    obtain ⟨rfl, rfl, rfl⟩ := hrel
    go_wp2_with (go_at_call 70; (with_reducible refine H.out.mono ?_); rintro e w1 ⟨rfl, hr⟩; have HR := Lib.hid hr; clear hr)
    go_loopw [6] (fun va wr => va = .int .i64 20 ∧ w1 = wr) (fun _ _ => 0)
    case atStart => exact ⟨rfl, rfl⟩
    case round =>
      obtain ⟨rfl, rfl⟩ := hrel
      go_wp2
      go_end0
      exact ⟨rfl, HR.out⟩
set_option maxRecDepth 100000 in
set_option maxHeartbeats 8000000 in
theorem SortStable_calls (w : World) (A : Option Addr) (n c : Nat) (v : Value) (R : Ending → World → Prop) (hn : n < 20) (h : Calls Try.prog 70 #[.slice A n c, .int .i64 0, .int .i64 (n : Int), v] w fun e w' => e = .returned (.tuple #[]) ∧ R e w') :
    Calls Try.prog 58 #[.slice A n c, v] w fun e w' => e = .returned (.tuple #[]) ∧ R e w' := by
  have H := Lib.hid (Stable_calls w A n c v R hn h)
  clear h
  go_enter Try.func58, Try.ntmps58
  go_wp2_with (go_at_call 66; (with_reducible refine H.out.mono ?_); rintro e w1 ⟨rfl, hr⟩; have HR := Lib.hid hr; clear hr)
  go_end0
  exact ⟨rfl, HR.out⟩
end Go.Proofs.Yteaipeejhippiaa
