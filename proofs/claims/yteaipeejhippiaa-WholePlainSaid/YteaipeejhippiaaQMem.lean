/- A queue in memory: its block, and its items' row. -/
import Derived.Test.YteaipeejhippiaaQSmall
import Derived.Test.YteaipeejhippiaaOwn
import Derived.Laws.OwnMore
import Derived.Deep.QuietTactic
import Derived.BigQuiet
import Derived.BigRegion
import Derived.Maps.AppendAt
import Derived.OwnWalk
namespace Go.Proofs.Yteaipeejhippiaa
open Go.RowKit
attribute [local go_sem] cell_set_self

section
variable {w w' : World} {g : Nat} {t : TypeId} {cs : Array Value}
end
/-- Only block g, and what is new, has turned. -/
theorem grown_trans {a b c : World} {row : Option Nat} (h : a.grownBy b row) (k : b.grownBy c row) : a.grownBy c row := h.trans k

/-- The row of a queue of m items d 0, d 1, .. in block g, with room for cap. -/
def Items (w : World) (g m cap : Nat) (d : Nat → Item) : Prop :=
  ∃ cur, Blk w g 89 cur ∧ cur.size = cap * 3 ∧ m ≤ cap ∧ cap ≤ maxLen ∧ ∀ i, i < m → cur[i * 3]? = some (.int .i64 (d i).cost) ∧ cur[i * 3 + 1]? = some (.int .i64 (d i).hops) ∧ cur[i * 3 + 2]? = some (.int .i64 (d i).node)
section
variable {w w' : World} {g m cap : Nat} {d : Nat → Item}
theorem Items.lt (h : Items w g m cap d) : g < w.heap.size := by obtain ⟨cur, hb, _⟩ := h; exact hb.lt
theorem Items.at_ (h : Items w g m cap d) {i : Nat} (hi : i < m) : w.cell? ⟨g, i * 3, none⟩ = some (.int .i64 (d i).cost) ∧ w.cell? ⟨g, i * 3 + 1, none⟩ = some (.int .i64 (d i).hops) ∧ w.cell? ⟨g, i * 3 + 2, none⟩ = some (.int .i64 (d i).node) := by
  obtain ⟨cur, hb, _, _, _, hc⟩ := h
  obtain ⟨h1, h2, h3⟩ := hc i hi
  exact ⟨(hb.cell _).trans h1, (hb.cell _).trans h2, (hb.cell _).trans h3⟩
theorem Items.frozen (h : Items w g m cap d) (o : Nat) : w.frozen? ⟨g, o, none⟩ = false := by obtain ⟨cur, hb, _⟩ := h; exact hb.frozen o
theorem Items.of_block (h : Items w g m cap d) (e : w'.heap[g]? = w.heap[g]?) : Items w' g m cap d := by
  obtain ⟨cur, hb, h1⟩ := h
  exact ⟨cur, e.trans hb, h1⟩
theorem Items.below {B : Nat} (h : Items w g m cap d) (hb : Below B w w') (hg : g < B) : Items w' g m cap d := h.of_block (hb.block g hg)
theorem Items.later (h : Items w g m cap d) (hb : Below w.heap.size w w') : Items w' g m cap d := h.below hb h.lt
theorem Items.drewN (h : Items w g m cap d) (n : Nat) : Items (w.drewN n) g m cap d := h
theorem Items.alloc (h : Items w g m cap d) (o : Obj) : Items (w.alloc o) g m cap d := h.of_block (Below.heap_alloc w o g h.lt)
theorem Items.far (h : Items w g m cap d) {p : Addr} (hp : g ≠ p.block) (u : Value) : Items (w.setCell p u) g m cap d := h.of_block (Below.heap_setCell w p u g hp)
theorem Items.less (h : Items w g m cap d) {n : Nat} (hn : n ≤ m) : Items w g n cap d := by
  obtain ⟨cur, hb, h1, h2, h3, hc⟩ := h
  exact ⟨cur, hb, h1, by omega, h3, fun i hi => hc i (by omega)⟩
theorem Items.congr {e : Nat → Item} (h : Items w g m cap d) (he : ∀ i, i < m → d i = e i) : Items w g m cap e := by
  obtain ⟨cur, hb, h1, h2, h3, hc⟩ := h
  exact ⟨cur, hb, h1, h2, h3, fun i hi => by rw [← he i hi]; exact hc i hi⟩
/-- One item laid at i. -/
def upd (d : Nat → Item) (i : Nat) (x : Item) : Nat → Item := fun k => if k = i then x else d k
theorem Items.put (h : Items w g m cap d) {i : Nat} (hi : i < m) (x : Item) :
    Items (((w.setCell ⟨g, i * 3, none⟩ (.int .i64 x.cost)).setCell ⟨g, i * 3 + 1, none⟩ (.int .i64 x.hops)).setCell ⟨g, i * 3 + 2, none⟩ (.int .i64 x.node)) g m cap (upd d i x) := by
  obtain ⟨cur, hb, h1, h2, h3, hc⟩ := h
  refine ⟨_, ((hb.set_ _ _).set_ _ _).set_ _ _, by simpa using h1, h2, h3, fun k hk => ?_⟩
  have hsz : k * 3 + 2 < cur.size := by omega
  obtain ⟨c1, c2, c3⟩ := hc k hk
  unfold upd
  by_cases e : k = i
  · subst e
    rw [if_pos rfl]
    refine ⟨?_, ?_, ?_⟩
    · rw [Array.getElem?_setIfInBounds_ne (by omega), Array.getElem?_setIfInBounds_ne (by omega), Array.getElem?_setIfInBounds_self]
      simp; omega
    · rw [Array.getElem?_setIfInBounds_ne (by omega), Array.getElem?_setIfInBounds_self]
      simp; omega
    · rw [Array.getElem?_setIfInBounds_self]
      simp; omega
  · rw [if_neg e]
    refine ⟨?_, ?_, ?_⟩
    · rw [Array.getElem?_setIfInBounds_ne (by omega), Array.getElem?_setIfInBounds_ne (by omega), Array.getElem?_setIfInBounds_ne (by omega)]; exact c1
    · rw [Array.getElem?_setIfInBounds_ne (by omega), Array.getElem?_setIfInBounds_ne (by omega), Array.getElem?_setIfInBounds_ne (by omega)]; exact c2
    · rw [Array.getElem?_setIfInBounds_ne (by omega), Array.getElem?_setIfInBounds_ne (by omega), Array.getElem?_setIfInBounds_ne (by omega)]; exact c3
end
end Go.Proofs.Yteaipeejhippiaa
