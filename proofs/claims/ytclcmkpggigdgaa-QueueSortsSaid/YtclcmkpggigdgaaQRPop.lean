/- The document's Pop. -/
import Derived.Test.YtclcmkpggigdgaaQRef
import Derived.Test.YtclcmkpggigdgaaQOut
import Derived.BigRegion
import Derived.RegionTactic
import Derived.ChangeAlike
namespace Go.Proofs.Ytclcmkpggigdgaa
open Go.RowKit
attribute [local go_sem] cell_set_self

def RTake (w : World) (A0 : Option Addr) (n : Nat) (f : Nat → Item) (e : Ending) (w' : World) : Prop :=
  ∃ A c, e = .returned (.tuple #[.slice A n c, .agg #[.int .i64 (f 0).cost, .int .i64 (f 0).hops, .int .i64 (f 0).node], .int .i64 0]) ∧ n ≤ c ∧ Strip w' A n 3 (fun i => itemRow (f (i + 1))) ∧ Below w.heap.size w w' ∧ ∀ a, A = some a → ∃ b, A0 = some b ∧ a.block = b.block
set_option maxRecDepth 1000000 in
set_option maxHeartbeats 8000000 in
theorem RPop_none (w : World) (A : Option Addr) (c : Nat) :
    Calls Try.prog 14 #[.slice A 0 c] w fun e w' => e = .returned (.tuple #[.slice A 0 c, .agg #[.int .i64 0, .int .i64 0, .int .i64 0], .int .i64 8]) ∧ Below w.heap.size w w' := by
  go_enter Try.func14, Try.ntmps14
  go_wp2
  exact bodyPost_ret (v := .tuple #[.slice A 0 c, .agg #[.int .i64 0, .int .i64 0, .int .i64 0], .int .i64 8]) (by simp [results, Try.results14, go_sem]) rfl ⟨rfl, (by repeat (first | (with_reducible exact Below.refl _ _) | (with_reducible assumption) | ((with_reducible refine Below.setCell ?_ ?_ _); rotate_left; (first | omega | (simp <;> omega))) | ((with_reducible refine Below.alloc ?_ ?_ _); rotate_left; (first | omega | (simp <;> omega))) | ((with_reducible refine Below.drew ?_)) | ((with_reducible refine below_drewN ?_ _)) | ((with_reducible refine Below.trans ?_ (Below.mono (by with_reducible assumption) ?_)); rotate_left; (first | omega | (simp <;> omega)))))⟩
set_option maxRecDepth 1000000 in
set_option maxHeartbeats 8000000 in
theorem RPop_some (w : World) (A : Option Addr) (n c : Nat) (f : Nat → Item) (hc : n + 1 ≤ c) (hn : n ≤ 100000) (hs : Strip w A (n + 1) 3 (fun i => itemRow (f i))) :
    Calls Try.prog 14 #[.slice A (n + 1) c] w (RTake w A n f) := by
  obtain ⟨ad, rfl, hadb, g0, g1, g2⟩ := hs.item (Below.refl _ _) (k := 0) (by omega)
  have HS := Lib.hid hs
  have hne : ¬ ((((n + 1 : Nat) : Int)) == 0) = true := by simp <;> omega
  have a0 : ad.add (0 * 3) = ad := rfl
  rw [a0] at g0 g1 g2
  have i1 : (0 : Int) < (n : Int) + 1 := by omega
  have i2 : (1 : Int) ≤ (n : Int) + 1 := by omega
  have i3 : n + 1 ≤ c := hc
  clear hs a0 hc
  go_enter Try.func14, Try.ntmps14
  go_wp2
  go_region
  have hst : Strip w (if c = 1 then some ad else some ⟨ad.block, ad.off + 3, none⟩) n 3 (fun i => itemRow (f (i + 1))) := by
    intro h0
    obtain ⟨ad', e, hl, hcc⟩ := HS.out (by omega)
    injection e with e
    subst e
    refine ⟨ad.add 3, ?_, by rw [add_block]; exact hl, fun i hi j hj => ?_⟩
    · rw [if_neg (by omega)]
      unfold Addr.add
      simp
    · have := hcc (i + 1) (by omega) j hj
      rw [addr_add_add, addr_add_add]
      rw [addr_add_add] at this
      rw [show 3 + (i * 3 + j) = (i + 1) * 3 + j by omega]
      exact this
  have HST := Lib.hid hst
  clear hst
  have fin : ∀ W : World, Below w.heap.size w W → RTake w (some ad) n f (.returned (.tuple #[.slice (if c = 1 then some ad else some ⟨ad.block, ad.off + 3, none⟩) n (c - 1), .agg #[.int .i64 (f 0).cost, .int .i64 (f 0).hops, .int .i64 (f 0).node], .int .i64 0])) W :=
    fun W hW => ⟨_, _, rfl, by omega, HST.out.below hW, hW, fun a e => ⟨ad, rfl, by
      split at e
      · injection e with e; rw [← e]
      · injection e with e; rw [← e]⟩⟩
  generalize (if c = 1 then some ad else some ⟨ad.block, ad.off + 3, none⟩ : Option Addr) = B at *
  all_goals
    go_wp2
    exact bodyPost_ret (v := .tuple #[.slice B n (c - 1), .agg #[.int .i64 (f 0).cost, .int .i64 (f 0).hops, .int .i64 (f 0).node], .int .i64 0]) (by simp [results, Try.results14, go_sem]) rfl (fin _ (by repeat (first | (with_reducible exact Below.refl _ _) | (with_reducible assumption) | ((with_reducible refine Below.setCell ?_ ?_ _); rotate_left; (first | omega | (simp <;> omega))) | ((with_reducible refine Below.alloc ?_ ?_ _); rotate_left; (first | omega | (simp <;> omega))) | ((with_reducible refine Below.drew ?_)) | ((with_reducible refine below_drewN ?_ _)) | ((with_reducible refine Below.trans ?_ (Below.mono (by with_reducible assumption) ?_)); rotate_left; (first | omega | (simp <;> omega))))))
end Go.Proofs.Ytclcmkpggigdgaa
