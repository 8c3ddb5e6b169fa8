/- Swap: two items change places. -/
import Derived.Test.YteaipeejhippiaaQItems
import Derived.BigRegion
import Derived.RegionTactic
import Derived.ChangeAlike
namespace Go.Proofs.Yteaipeejhippiaa
open Go.RowKit
attribute [local go_sem] cell_set_self

theorem grown_drew {a w : World} {row : Option Nat} (h : a.grownBy w row) : a.grownBy w.drew row := ⟨h.os, h.tape, h.output, h.size, h.block⟩
theorem Items_drew {w : World} {g m cap : Nat} {d : Nat → Item} (h : Items w g m cap d) : Items w.drew g m cap d := h
def sw (d : Nat → Item) (i j : Nat) : Nat → Item := upd (upd d i (d j)) j (d i)
def SwapPost (w : World) (g m cap i j : Nat) (d : Nat → Item) (e : Ending) (w' : World) : Prop := e = .returned (.tuple #[]) ∧ Items w' g m cap (sw d i j) ∧ w.grownBy w' (some g)
set_option maxRecDepth 1000000 in
set_option maxHeartbeats 16000000 in
theorem iSwap_calls (w : World) (Q g n m cap i j : Nat) (d : Nat → Item) (hc : w.cell? ⟨Q, 1, none⟩ = some (.slice (some ⟨g, 0, none⟩) n cap)) (hi : i < m) (hj : j < m) (hm : m ≤ n) (hd : Items w g m cap d) :
    Calls Try.prog 92 #[.pointer (some ⟨Q, 1, none⟩), .int .i64 (i : Int), .int .i64 (j : Int)] w (SwapPost w g m cap i j d) := by
  obtain ⟨a1, a2, a3⟩ := hd.at_ hi
  obtain ⟨b1, b2, b3⟩ := hd.at_ hj
  have hf := hd.frozen
  have HD := Lib.hid hd
  obtain ⟨p1, p2, p3⟩ := (hd.put hi (d j)).at_ hj
  have pf := (hd.put hi (d j)).frozen
  clear hd
  have i0 : (0 : Int) ≤ (i : Int) := by omega
  have i1 : (i : Int) < (n : Int) := by omega
  have j0 : (0 : Int) ≤ (j : Int) := by omega
  have j1 : (j : Int) < (n : Int) := by omega
  go_enter Try.func92, Try.ntmps92
  go_wp2
  go_region
  all_goals
    go_end0
    exact ⟨rfl, Items_drew ((HD.out.put hi (d j)).put hj (d i)), grown_drew (grown_setCell (grown_setCell (grown_setCell (grown_setCell (grown_setCell (grown_setCell (World.grownBy.refl w (some g)) rfl _) rfl _) rfl _) rfl _) rfl _) rfl _)⟩
end Go.Proofs.Yteaipeejhippiaa
