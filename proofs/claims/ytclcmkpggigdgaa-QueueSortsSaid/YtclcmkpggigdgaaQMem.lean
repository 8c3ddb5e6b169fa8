/- A queue in memory: its block, and its items' row. -/
import Derived.Test.YtclcmkpggigdgaaQSmall
import Derived.Laws.OwnMore
import Derived.Deep.QuietTactic
import Derived.BigQuiet
import Derived.BigRegion
import Derived.Maps.AppendAt
import Derived.OwnWalk
namespace Go.Proofs.Ytclcmkpggigdgaa
open Go.RowKit
attribute [local go_sem] cell_set_self

/-- The block g is just these cells, of which none is frozen. -/
def Blk (w : World) (g : Nat) (t : TypeId) (cs : Array Value) : Prop := w.heap[g]? = some (.cells cs t (0, 0))
section
variable {w w' : World} {g : Nat} {t : TypeId} {cs : Array Value}
theorem Blk.lt (h : Blk w g t cs) : g < w.heap.size := by
  rcases Nat.lt_or_ge g w.heap.size with hlt | hge
  · exact hlt
  · unfold Blk at h; rw [Array.getElem?_eq_none hge] at h; cases h
theorem Blk.cell (h : Blk w g t cs) (i : Nat) : w.cell? ⟨g, i, none⟩ = cs[i]? := cell_of_row w g i cs t (0, 0) h
theorem Blk.frozen (h : Blk w g t cs) (i : Nat) : w.frozen? ⟨g, i, none⟩ = false := by
  unfold Blk at h
  simp [World.frozen?, h]
theorem Blk.row (h : Blk w g t cs) : Row w g cs := ⟨h.cell, h.frozen, h.lt⟩
theorem Blk.new (w : World) (t : TypeId) (cs : Array Value) : Blk (w.alloc (.cells cs t)) w.heap.size t cs := heap_alloc_new w _
theorem Blk.drew (h : Blk w g t cs) : Blk w.drew g t cs := h
theorem Blk.drewN (h : Blk w g t cs) (n : Nat) : Blk (w.drewN n) g t cs := h
theorem Blk.alloc (h : Blk w g t cs) (o : Obj) : Blk (w.alloc o) g t cs := (Below.heap_alloc w o g h.lt).trans h
theorem Blk.set_ (h : Blk w g t cs) (i : Nat) (u : Value) : Blk (w.setCell ⟨g, i, none⟩ u) g t (cs.setIfInBounds i u) := by
  unfold Blk at h ⊢
  simp [World.setCell, Array.getElem?_modify, h]
theorem Blk.far (h : Blk w g t cs) {p : Addr} (hp : g ≠ p.block) (u : Value) : Blk (w.setCell p u) g t cs := (Below.heap_setCell w p u g hp).trans h
theorem Blk.below {B : Nat} (h : Blk w g t cs) (hb : Below B w w') (hg : g < B) : Blk w' g t cs := (hb.block g hg).trans h
theorem Blk.later (h : Blk w g t cs) (hb : Below w.heap.size w w') : Blk w' g t cs := h.below hb h.lt
theorem Blk.grown {row : Option Nat} (h : Blk w g t cs) (hb : w.grownBy w' row) (hg : some g ≠ row) : Blk w' g t cs := (hb.block g h.lt hg).trans h
end
/-- Only block g, and what is new, has turned. -/
theorem grown_drewN {a w : World} {row : Option Nat} (h : a.grownBy w row) (n : Nat) : a.grownBy (w.drewN n) row := ⟨h.os, h.tape, h.output, h.size, h.block⟩
theorem grown_below {a w w' : World} {row : Option Nat} (h : a.grownBy w row) (hb : Below w.heap.size w w') : a.grownBy w' row :=
  ⟨hb.os.trans h.os, hb.tape.trans h.tape, hb.output.trans h.output, Nat.le_trans h.size hb.size, fun i hi hne => (hb.block i (Nat.lt_of_lt_of_le hi h.size)).trans (h.block i hi hne)⟩
theorem grown_setCell {a w : World} {g : Nat} (h : a.grownBy w (some g)) {p : Addr} (hp : p.block = g) (u : Value) : a.grownBy (w.setCell p u) (some g) :=
  ⟨h.os, h.tape, h.output, by simpa [World.setCell] using h.size, fun i hi hne => (Below.heap_setCell w p u i (by
    rintro rfl
    exact hne (by rw [hp]))).trans (h.block i hi hne)⟩
theorem grown_trans {a b c : World} {row : Option Nat} (h : a.grownBy b row) (k : b.grownBy c row) : a.grownBy c row := h.trans k

/-- The row of a queue of m items d 0, d 1, .. in block g, with room for cap. -/
def Items (w : World) (g m cap : Nat) (d : Nat → Item) : Prop :=
  ∃ cur, Blk w g 25 cur ∧ cur.size = cap * 3 ∧ m ≤ cap ∧ cap ≤ maxLen ∧ ∀ i, i < m → cur[i * 3]? = some (.int .i64 (d i).cost) ∧ cur[i * 3 + 1]? = some (.int .i64 (d i).hops) ∧ cur[i * 3 + 2]? = some (.int .i64 (d i).node)
section
variable {w w' : World} {g m cap : Nat} {d : Nat → Item}
theorem Items.lt (h : Items w g m cap d) : g < w.heap.size := by obtain ⟨cur, hb, _⟩ := h; exact hb.lt
theorem Items.at_ (h : Items w g m cap d) {i : Nat} (hi : i < m) : w.cell? ⟨g, i * 3, none⟩ = some (.int .i64 (d i).cost) ∧ w.cell? ⟨g, i * 3 + 1, none⟩ = some (.int .i64 (d i).hops) ∧ w.cell? ⟨g, i * 3 + 2, none⟩ = some (.int .i64 (d i).node) := by
  obtain ⟨cur, hb, _, _, _, hc⟩ := h
  obtain ⟨h1, h2, h3⟩ := hc i hi
  exact ⟨(hb.cell _).trans h1, (hb.cell _).trans h2, (hb.cell _).trans h3⟩
theorem Items.frozen (h : Items w g m cap d) (o : Nat) : w.frozen? ⟨g, o, none⟩ = false := by obtain ⟨cur, hb, _⟩ := h; exact hb.frozen o
theorem Items.of_block (h : Items w g m cap d) (e : w'.heap[g]? = w.heap[g]?) : Items w' g m cap d := by
  obtain ⟨cur, hb, h1⟩ := h
  exact ⟨cur, e.trans hb, h1⟩
theorem Items.below {B : Nat} (h : Items w g m cap d) (hb : Below B w w') (hg : g < B) : Items w' g m cap d := h.of_block (hb.block g hg)
theorem Items.later (h : Items w g m cap d) (hb : Below w.heap.size w w') : Items w' g m cap d := h.below hb h.lt
theorem Items.drewN (h : Items w g m cap d) (n : Nat) : Items (w.drewN n) g m cap d := h
theorem Items.alloc (h : Items w g m cap d) (o : Obj) : Items (w.alloc o) g m cap d := h.of_block (Below.heap_alloc w o g h.lt)
theorem Items.far (h : Items w g m cap d) {p : Addr} (hp : g ≠ p.block) (u : Value) : Items (w.setCell p u) g m cap d := h.of_block (Below.heap_setCell w p u g hp)
theorem Items.less (h : Items w g m cap d) {n : Nat} (hn : n ≤ m) : Items w g n cap d := by
  obtain ⟨cur, hb, h1, h2, h3, hc⟩ := h
  exact ⟨cur, hb, h1, by omega, h3, fun i hi => hc i (by omega)⟩
theorem Items.congr {e : Nat → Item} (h : Items w g m cap d) (he : ∀ i, i < m → d i = e i) : Items w g m cap e := by
  obtain ⟨cur, hb, h1, h2, h3, hc⟩ := h
  exact ⟨cur, hb, h1, h2, h3, fun i hi => by rw [← he i hi]; exact hc i hi⟩
/-- One item laid at i. -/
def upd (d : Nat → Item) (i : Nat) (x : Item) : Nat → Item := fun k => if k = i then x else d k
theorem Items.put (h : Items w g m cap d) {i : Nat} (hi : i < m) (x : Item) :
    Items (((w.setCell ⟨g, i * 3, none⟩ (.int .i64 x.cost)).setCell ⟨g, i * 3 + 1, none⟩ (.int .i64 x.hops)).setCell ⟨g, i * 3 + 2, none⟩ (.int .i64 x.node)) g m cap (upd d i x) := by
  obtain ⟨cur, hb, h1, h2, h3, hc⟩ := h
  refine ⟨_, ((hb.set_ _ _).set_ _ _).set_ _ _, by simpa using h1, h2, h3, fun k hk => ?_⟩
  have hsz : k * 3 + 2 < cur.size := by omega
  obtain ⟨c1, c2, c3⟩ := hc k hk
  unfold upd
  by_cases e : k = i
  · subst e
    rw [if_pos rfl]
    refine ⟨?_, ?_, ?_⟩
    · rw [Array.getElem?_setIfInBounds_ne (by omega), Array.getElem?_setIfInBounds_ne (by omega), Array.getElem?_setIfInBounds_self]
      simp; omega
    · rw [Array.getElem?_setIfInBounds_ne (by omega), Array.getElem?_setIfInBounds_self]
      simp; omega
    · rw [Array.getElem?_setIfInBounds_self]
      simp; omega
  · rw [if_neg e]
    refine ⟨?_, ?_, ?_⟩
    · rw [Array.getElem?_setIfInBounds_ne (by omega), Array.getElem?_setIfInBounds_ne (by omega), Array.getElem?_setIfInBounds_ne (by omega)]; exact c1
    · rw [Array.getElem?_setIfInBounds_ne (by omega), Array.getElem?_setIfInBounds_ne (by omega), Array.getElem?_setIfInBounds_ne (by omega)]; exact c2
    · rw [Array.getElem?_setIfInBounds_ne (by omega), Array.getElem?_setIfInBounds_ne (by omega), Array.getElem?_setIfInBounds_ne (by omega)]; exact c3
end
end Go.Proofs.Ytclcmkpggigdgaa
