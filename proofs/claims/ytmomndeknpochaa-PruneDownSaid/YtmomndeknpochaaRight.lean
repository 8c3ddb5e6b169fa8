/- What may be wanted, and what is allowed, as the code and the document tell it. -/
import Derived.Test.YtmomndeknpochaaGroup
namespace Go.Proofs.Ytmomndeknpochaa
open Go.RowKit PBits
attribute [local go_sem] cell_set_self

open Classical in
noncomputable def comB (a b : Int) : Bool := decide (Com a b)
open Classical in
noncomputable def subB (a b : Int) : Bool := decide (Sub a b)
theorem comB_iff {a b : Int} : comB a b = true ↔ Com a b := by unfold comB; exact @decide_eq_true_iff _ (Classical.propDecidable _)
theorem subB_iff {a b : Int} : subB a b = true ↔ Sub a b := by unfold subB; exact @decide_eq_true_iff _ (Classical.propDecidable _)
theorem Common_tells (a b : Nat) (ha : a < 4294967296) (hb : b < 4294967296) (w : World) :
    Calls Try.prog 29 #[.int .u32 (a : Int), .int .u32 (b : Int)] w fun e w' => e = .returned (.bool (comB a b)) ∧ w = w' :=
  (Common_calls w a b ha hb).mono fun e w' ⟨⟨r, h1, h2⟩, h3⟩ => ⟨by rw [h1, show r = comB a b from by rw [Bool.eq_iff_iff, h2, comB_iff]], h3⟩
theorem within_tells' (a b : Nat) (ha : a < 4294967296) (hb : b < 4294967296) (w : World) :
    Calls Try.prog 30 #[.int .u32 (a : Int), .int .u32 (b : Int)] w fun e w' => e = .returned (.bool (subB a b)) ∧ w = w' :=
  (within_calls w a b ha hb).mono fun e w' ⟨⟨r, h1, h2⟩, h3⟩ => ⟨by rw [h1, show r = subB a b from by rw [Bool.eq_iff_iff, h2, subB_iff]], h3⟩
/-- What a tunnel wants of links. -/
structure Wnt where
  bw : Int
  setup : Int
  hold : Int
  any : Int
  all : Int
  none : Int
/-- Each number is one of its kind. -/
structure Wnt.Ok (q : Wnt) : Prop where
  bw : 0 ≤ q.bw ∧ q.bw < 18446744073709551616
  any : 0 ≤ q.any ∧ q.any < 4294967296
  all : 0 ≤ q.all ∧ q.all < 4294967296
  none : 0 ≤ q.none ∧ q.none < 4294967296
def rightB (q : Wnt) : Bool := decide (q.setup ≤ 7) && (decide (q.hold ≤ q.setup) && decide (0 ≤ q.hold))
def AllowsP (q : Wnt) (g : Int) : Prop := (q.any = 0 ∨ Com q.any g) ∧ Sub q.all g ∧ ¬ Com q.none g
open Classical in
noncomputable def allowsB (q : Wnt) (g : Int) : Bool := decide (AllowsP q g)
theorem allowsB_iff {q : Wnt} {g : Int} : allowsB q g = true ↔ AllowsP q g := by unfold allowsB; exact @decide_eq_true_iff _ (Classical.propDecidable _)
theorem rightB_spec {q : Wnt} : rightB q = true ↔ q.setup ≤ 7 ∧ q.hold ≤ q.setup ∧ 0 ≤ q.hold := by simp [rightB]

set_option maxHeartbeats 4000000 in
theorem Right_calls (q : Wnt) (w : World) : Calls Try.prog 16 #[.agg #[.int .u64 q.bw, .int .i64 q.setup, .int .i64 q.hold, .int .u32 q.any, .int .u32 q.all, .int .u32 q.none]] w fun e w' => e = .returned (.bool (rightB q)) ∧ Below w.heap.size w w' := by
  have hb : ∀ r : Bool, (r = true ↔ q.setup ≤ 7 ∧ q.hold ≤ q.setup ∧ 0 ≤ q.hold) → r = rightB q := fun r h => by rw [Bool.eq_iff_iff, h, rightB_spec]
  have HB := Lib.hid hb
  clear hb
  by_cases c1 : q.setup ≤ 7 <;> by_cases c2 : q.hold ≤ q.setup <;> by_cases c3 : 0 ≤ q.hold
  all_goals
    first
    | (exfalso; omega)
    | (go_enter Try.func16, Try.ntmps16
       go_wp2
       go_ret
       exact ⟨congrArg (fun b => Ending.returned (.bool b)) (HB.out _ (by simp [c1, c2, c3])), (by repeat (first | (with_reducible exact Below.refl _ _) | (with_reducible assumption) | ((with_reducible refine Below.setCell ?_ ?_ _); rotate_left; (first | omega | (simp <;> omega))) | ((with_reducible refine Below.alloc ?_ ?_ _); rotate_left; (first | omega | (simp <;> omega))) | ((with_reducible refine Below.drew ?_)) | ((with_reducible refine below_drewN ?_ _)) | ((with_reducible refine Below.trans ?_ (Below.mono (by with_reducible assumption) ?_)); rotate_left; (first | omega | (simp <;> omega)))))⟩)
set_option maxHeartbeats 4000000 in
theorem RRight_calls (q : Wnt) (w : World) : Calls Try.prog 21 #[.agg #[.int .u64 q.bw, .int .i64 q.setup, .int .i64 q.hold, .int .u32 q.any, .int .u32 q.all, .int .u32 q.none]] w fun e w' => e = .returned (.bool (rightB q)) ∧ Below w.heap.size w w' := by
  have hb : ∀ r : Bool, (r = true ↔ q.setup ≤ 7 ∧ q.hold ≤ q.setup ∧ 0 ≤ q.hold) → r = rightB q := fun r h => by rw [Bool.eq_iff_iff, h, rightB_spec]
  have HB := Lib.hid hb
  clear hb
  by_cases c1 : q.setup ≤ 7 <;> by_cases c2 : q.hold ≤ q.setup <;> by_cases c3 : 0 ≤ q.hold <;> by_cases c4 : 0 ≤ q.setup
  all_goals
    first
    | (exfalso; omega)
    | (go_enter Try.func21, Try.ntmps21
       go_wp2
       go_ret
       exact ⟨congrArg (fun b => Ending.returned (.bool b)) (HB.out _ (by simp [c1, c2, c3])), (by repeat (first | (with_reducible exact Below.refl _ _) | (with_reducible assumption) | ((with_reducible refine Below.setCell ?_ ?_ _); rotate_left; (first | omega | (simp <;> omega))) | ((with_reducible refine Below.alloc ?_ ?_ _); rotate_left; (first | omega | (simp <;> omega))) | ((with_reducible refine Below.drew ?_)) | ((with_reducible refine below_drewN ?_ _)) | ((with_reducible refine Below.trans ?_ (Below.mono (by with_reducible assumption) ?_)); rotate_left; (first | omega | (simp <;> omega)))))⟩)

set_option maxHeartbeats 4000000 in
theorem Allows_calls (q : Wnt) (hq : q.Ok) (g : Int) (hg : 0 ≤ g ∧ g < 4294967296) (w : World) : Calls Try.prog 17 #[.agg #[.int .u64 q.bw, .int .i64 q.setup, .int .i64 q.hold, .int .u32 q.any, .int .u32 q.all, .int .u32 q.none], .int .u32 g] w fun e w' => e = .returned (.bool (allowsB q g)) ∧ Below w.heap.size w w' := by
  have b3 := and_zero hq.any.1 hq.any.2 hg.1 hg.2
  have b4 := andNot_zero hq.all.1 hq.all.2 hg.1 hg.2
  have b5 := and_zero hq.none.1 hq.none.2 hg.1 hg.2
  have hb : ∀ r : Bool, (r = true ↔ (q.any = 0 ∨ ¬ Go.bits .and .u32 q.any g = 0) ∧ Go.bits .andNot .u32 q.all g = 0 ∧ Go.bits .and .u32 q.none g = 0) → r = allowsB q g := fun r h => by
    rw [Bool.eq_iff_iff, h, b3, b4, b5, allowsB_iff, AllowsP, Classical.not_not]
  have HB := Lib.hid hb
  clear hb b3 b4 b5 hq hg
  by_cases c1 : q.any = 0 <;> by_cases c2 : Go.bits .and .u32 q.any g = 0 <;> by_cases c3 : Go.bits .andNot .u32 q.all g = 0 <;> by_cases c4 : Go.bits .and .u32 q.none g = 0
  all_goals
    go_enter Try.func17, Try.ntmps17
    go_wp2
    go_ret
    exact ⟨congrArg (fun b => Ending.returned (.bool b)) (HB.out _ (by simp [c1, c2, c3, c4])), (by repeat (first | (with_reducible exact Below.refl _ _) | (with_reducible assumption) | ((with_reducible refine Below.setCell ?_ ?_ _); rotate_left; (first | omega | (simp <;> omega))) | ((with_reducible refine Below.alloc ?_ ?_ _); rotate_left; (first | omega | (simp <;> omega))) | ((with_reducible refine Below.drew ?_)) | ((with_reducible refine below_drewN ?_ _)) | ((with_reducible refine Below.trans ?_ (Below.mono (by with_reducible assumption) ?_)); rotate_left; (first | omega | (simp <;> omega)))))⟩
theorem ofNat_of {a : Int} (h : 0 ≤ a ∧ a < 4294967296) : ∃ n : Nat, a = (n : Int) ∧ n < 4294967296 := ⟨a.toNat, by omega, by omega⟩
set_option maxHeartbeats 4000000 in
theorem RAllows_calls (q : Wnt) (hq : q.Ok) (g : Int) (hg : 0 ≤ g ∧ g < 4294967296) (w : World) : Calls Try.prog 22 #[.agg #[.int .u64 q.bw, .int .i64 q.setup, .int .i64 q.hold, .int .u32 q.any, .int .u32 q.all, .int .u32 q.none], .int .u32 g] w fun e w' => e = .returned (.bool (allowsB q g)) ∧ Below w.heap.size w w' := by
  obtain ⟨⟩ := q
  rename_i bw setup hold any all none
  obtain ⟨_, h3, h4, h5⟩ := hq
  simp only at h3 h4 h5
  obtain ⟨any, rfl, l3⟩ := ofNat_of h3
  obtain ⟨all, rfl, l4⟩ := ofNat_of h4
  obtain ⟨none, rfl, l5⟩ := ofNat_of h5
  obtain ⟨g, rfl, lg⟩ := ofNat_of hg
  clear h3 h4 h5 hg
  have hb : ∀ r : Bool, (r = true ↔ (((any : Int) = 0 ∨ comB any g = true) ∧ subB all g = true ∧ ¬ comB none g = true)) → r = allowsB ⟨bw, setup, hold, any, all, none⟩ g := fun r h => by
    rw [Bool.eq_iff_iff, h, allowsB_iff, comB_iff, subB_iff, comB_iff]
    rfl
  have h3 := Common_tells any g l3 lg
  have h4 := within_tells' all g l4 lg
  have h5 := Common_tells none g l5 lg
  clear l3 l4 l5 lg
  generalize comB any g = r3 at hb h3
  generalize subB all g = r4 at hb h4
  generalize comB none g = r5 at hb h5
  have HB := Lib.hid hb
  have H3 := Lib.hid h3
  have H4 := Lib.hid h4
  have H5 := Lib.hid h5
  clear hb h3 h4 h5
  by_cases c1 : (any : Int) = 0 <;> cases r3 <;> cases r4 <;> cases r5
  all_goals
    go_enter Try.func22, Try.ntmps22
    go_wp2_with (first | (go_at_call 29; (with_reducible refine (H3.out _).mono ?_); rintro e w1 ⟨rfl, rfl⟩) | (go_at_call 30; (with_reducible refine (H4.out _).mono ?_); rintro e w1 ⟨rfl, rfl⟩) | (go_at_call 29; (with_reducible refine (H5.out _).mono ?_); rintro e w1 ⟨rfl, rfl⟩))
    go_ret
    exact ⟨congrArg (fun b => Ending.returned (.bool b)) (HB.out _ (by first | (simp [c1]; done) | (simp; omega))), (by repeat (first | (with_reducible exact Below.refl _ _) | (with_reducible assumption) | ((with_reducible refine Below.setCell ?_ ?_ _); rotate_left; (first | omega | (simp <;> omega))) | ((with_reducible refine Below.alloc ?_ ?_ _); rotate_left; (first | omega | (simp <;> omega))) | ((with_reducible refine Below.drew ?_)) | ((with_reducible refine below_drewN ?_ _)) | ((with_reducible refine Below.trans ?_ (Below.mono (by with_reducible assumption) ?_)); rotate_left; (first | omega | (simp <;> omega)))))⟩
end Go.Proofs.Ytmomndeknpochaa
