/- A list of numbers copied: slices.Clone. -/
import Derived.Test.YteaipeejhippiaaPSmall
import Derived.Test.YteaipeejhippiaaOwn4
import Derived.Lib.SliceRun
namespace Go.Proofs.Yteaipeejhippiaa
open Go.RowKit
attribute [local go_sem] cell_set_self
set_option linter.unusedVariables false

theorem infoI : Info Try.prog 3 (.int .i64 0) 1 8 := by unfold Info; kernel_rfl
theorem int_ones (x : Int) : ∀ u ∈ (#[Value.int .i64 x] : Array Value).toList, u.oneCell' = true := fun u hu => by
  simp at hu
  subst hu
  rfl
def CloneIPost (w : World) (n : Nat) (f : Nat → Array Value) (e : Ending) (w' : World) : Prop := ∃ A c, e = .returned (.slice A n c) ∧ Strip w' A n 1 f ∧ (∀ ad, A = some ad → w.heap.size ≤ ad.block) ∧ Below w.heap.size w w'
set_option maxRecDepth 100000 in
set_option maxHeartbeats 4000000 in
theorem CloneI_calls (w : World) (A : Option Addr) (n c : Nat) (x : Nat → Int) (hn : n ≤ 1000) (hs : Strip w A n 1 (intRow x)) (h0 : A = none → n = 0 ∧ c = 0) : Calls Try.prog 40 #[.slice A n c] w (CloneIPost w n (intRow x)) := by
  rcases A with _ | ad
  · obtain ⟨rfl, rfl⟩ := h0 rfl
    clear h0
    have hne : ∀ w, (binOp .eql 48 (.slice none 0 0) (.slice none 0 0)).run Try.prog w = .ok (.bool true) w := fun w => Lib.run_eql_slice_nil w 48 3 none 0 0 0 0 Try.underlying48
    go_enter Try.func40, Try.ntmps40
    go_wp2
    go_ret
    exact ⟨none, 0, rfl, fun h => absurd h (by omega), fun ad e => (by cases e), Below.refl _ _⟩
  · have HS := Lib.hid hs
    clear hs h0
    have hne : ∀ w, (binOp .eql 48 (.slice (some ad) n c) (.slice none 0 0)).run Try.prog w = .ok (.bool false) w := fun w => Lib.run_eql_slice_nil w 48 3 (some ad) n c 0 0 Try.underlying48
    go_enter Try.func40, Try.ntmps40
    go_wp2_with (at_builtin; refine wpList_copyS _ rfl (.tmp 5) (.tmp 6) 48 rfl w.heap.size 3 _ 1 8 Try.underlying48 infoI rfl (by omega) (.slice (some ⟨w.heap.size, 0, none⟩) 0 0) rfl (empty_row w 3 1 rfl) ad n c (intRow x) rfl (HS.out.below ((Below.refl w.heap.size w).alloc (Nat.le_refl _) _)) (fun _ => rfl) (fun i => int_ones (x i)) (by omega) (by omega) (by simp) ?_; intro v1 w1 ho hb; obtain ⟨A1, c1, rfl⟩ := ho.form; have HO := Lib.hid ho; have HB := Lib.hid hb; clear ho hb)
    go_ret
    have h1 := HO.out.strip_map
    rw [List.length_map, List.length_range] at h1
    have h2 := HO.out.1.lt
    refine ⟨A1, c1, rfl, h1.2, fun ad e => ?_, ((Below.refl _ _).alloc (Nat.le_refl _) _).trans HB.out⟩
    subst e
    rcases HO.out.1.2 with ⟨h3, _⟩ | ⟨g, cap, cur, h3, hbg, _⟩
    · injection h3 with h3
      cases h3
    · injection h3 with h3
      injection h3 with h3
      rw [h3]
      exact hbg
end Go.Proofs.Yteaipeejhippiaa
