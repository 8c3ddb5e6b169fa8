/- The items' Pop, the heap's Fix and Pop. -/
import Derived.Test.YteaipeejhippiaaQDown
namespace Go.Proofs.Yteaipeejhippiaa
open Go.RowKit
attribute [local go_sem] cell_set_self

theorem grown_alloc {a w : World} {row : Option Nat} (h : a.grownBy w row) (o : Obj) : a.grownBy (w.alloc o) row :=
  ⟨h.os, h.tape, h.output, Nat.le_trans h.size (by simp), fun i hi hne => (Below.heap_alloc w o i (Nat.lt_of_lt_of_le hi h.size)).trans (h.block i hi hne)⟩
/-- Only the queue's block Q, its items' block o, and what is new, has turned. -/
structure Fr (w w' : World) (Q : Nat) (o : Option Nat) : Prop where
  os : w'.os = w.os
  tape : w'.tape = w.tape
  output : w'.output = w.output
  size : w.heap.size ≤ w'.heap.size
  block : ∀ k, k < w.heap.size → k ≠ Q → some k ≠ o → w'.heap[k]? = w.heap[k]?
section
variable {w w1 w' : World} {Q : Nat} {o o' : Option Nat}
theorem Fr.refl (w : World) (Q : Nat) (o : Option Nat) : Fr w w Q o := ⟨rfl, rfl, rfl, Nat.le_refl _, fun _ _ _ _ => rfl⟩
theorem Fr.items (h : w.grownBy w' o) : Fr w w' Q o := ⟨h.os, h.tape, h.output, h.size, fun k hk _ h2 => h.block k hk h2⟩
theorem Fr.queue (h : w.grownBy w' (some Q)) : Fr w w' Q o := ⟨h.os, h.tape, h.output, h.size, fun k hk h1 _ => h.block k hk (fun e => h1 (by injection e))⟩
theorem Fr.new (h : Below w.heap.size w w') : Fr w w' Q o := ⟨h.os, h.tape, h.output, h.size, fun k hk _ _ => h.block k hk⟩
theorem Fr.trans' (h : Fr w w1 Q o) (k : Fr w1 w' Q o') (ho : ∀ g, o' = some g → o = some g ∨ w.heap.size ≤ g) : Fr w w' Q o :=
  ⟨k.os.trans h.os, k.tape.trans h.tape, k.output.trans h.output, Nat.le_trans h.size k.size, fun i hi h1 h2 => (k.block i (Nat.lt_of_lt_of_le hi h.size) h1 (fun e => by
    rcases ho i e.symm with e2 | e2
    · exact h2 e2.symm
    · omega)).trans (h.block i hi h1 h2)⟩
theorem Fr.trans (h : Fr w w1 Q o) (k : Fr w1 w' Q o) : Fr w w' Q o := h.trans' k fun _ e => .inl e
theorem Fr.below {B : Nat} (h : Fr w w' Q o) (hB : B ≤ w.heap.size) (hQ : B ≤ Q) (ho : ∀ g, o = some g → B ≤ g) : Below B w w' :=
  ⟨h.os, h.tape, h.output, h.size, fun k hk => h.block k (by omega) (by omega) (fun e => by have := ho k e.symm; omega)⟩
end

set_option maxRecDepth 1000000 in
set_option maxHeartbeats 8000000 in
theorem iPop_calls (w : World) (Q g m cap : Nat) (d : Nat → Item) (hq : Blk w Q 125 #[.bool true, .slice (some ⟨g, 0, none⟩) (m + 1) cap]) (hm : m ≤ 100000) (hQg : Q ≠ g) (hd : Items w g (m + 1) cap d) :
    Calls Try.prog 91 #[.pointer (some ⟨Q, 1, none⟩)] w fun e w' => e = .returned (.iface 89 (.agg #[.int .i64 (d m).cost, .int .i64 (d m).hops, .int .i64 (d m).node])) ∧ Blk w' Q 125 #[.bool true, .slice (some ⟨g, 0, none⟩) m cap] ∧ Items w' g m cap d ∧ w.grownBy w' (some Q) := by
  obtain ⟨a1, a2, a3⟩ := hd.at_ (i := m) (by omega)
  have hcap : m + 1 ≤ cap := by obtain ⟨cur, _, _, h, _⟩ := hd; exact h
  have HQ := Lib.hid hq
  have HD := Lib.hid hd
  have HNE := Lib.hid (Ne.symm hQg)
  obtain ⟨c1, f1, s1⟩ := hq.row
  clear hq hd hQg
  go_enter Try.func91, Try.ntmps91
  go_wp2
  go_ret
  have hb := HQ.out.set_ 1 (.slice (some ⟨g, 0, none⟩) m cap)
  simp only [List.setIfInBounds_toArray, List.set_cons_zero, List.set_cons_succ] at hb
  exact ⟨rfl, hb.alloc _, ((HD.out.less (by omega)).far HNE.out _).alloc _, grown_alloc (grown_setCell (World.grownBy.refl _ _) rfl _) _⟩

set_option maxRecDepth 1000000 in
set_option maxHeartbeats 8000000 in
theorem Fix_calls (w : World) (Q g m cap : Nat) (d : Nat → Item) (hc : w.cell? ⟨Q, 1, none⟩ = some (.slice (some ⟨g, 0, none⟩) (m + 1) cap)) (hQ : Q < w.heap.size) (hQg : Q ≠ g) (hm : m ≤ 50000) (hd : Items w g (m + 1) cap d) (hh : Heap d m) (J : Int) (hJ : J = (m : Int)) :
    Calls Try.prog 55 #[.iface 129 (.pointer (some ⟨Q, 1, none⟩)), .int .i64 J] w fun e w' => e = .returned (.tuple #[]) ∧ UpPost w g (m + 1) cap (m + 1) d w' := by
  subst hJ
  have hu := up_calls w Q g (m + 1) cap m d hc hQ hQg (by omega) (by omega) hd (up_start hh)
  have hn := down_none w (.iface 129 (.pointer (some ⟨Q, 1, none⟩))) m (m + 1) (by omega) (by omega)
  have e1 : ((m + 1 : Nat) : Int) = (m : Int) + 1 := by omega
  have hl := iLen_calls w Q (m + 1) _ cap hc
  rw [e1] at hn hl
  have HU := Lib.hid hu
  have HN := Lib.hid hn
  have HL := Lib.hid hl
  have ML := m_len
  clear hc hd hh hu hn hl e1 hQ hQg
  go_enter Try.func55, Try.ntmps55
  go_wp2_with (first | (go_at_call 56; (with_reducible refine HL.out.mono ?_); rintro e w1 ⟨rfl, rfl⟩) | (go_at_call 57; (with_reducible refine HN.out.mono ?_); rintro e w1 ⟨rfl, rfl⟩) | (go_at_call 65; (with_reducible refine HU.out.mono ?_); rintro e w2 ⟨rfl, hp⟩))
  go_end0
  exact ⟨rfl, hp⟩

/-- What is left of a heap of m + 1 items, of which the least is taken. -/
def PopPost (w : World) (Q g m cap : Nat) (d : Nat → Item) (w' : World) : Prop :=
  Blk w' Q 125 #[.bool true, .slice (some ⟨g, 0, none⟩) m cap] ∧ (∃ d', Items w' g m cap d' ∧ Heap d' m ∧ ∀ x, many d' m x + (if d 0 = x then 1 else 0) = many d (m + 1) x) ∧ Fr w w' Q (some g)
set_option maxRecDepth 1000000 in
set_option maxHeartbeats 8000000 in
theorem hPop_calls (w : World) (Q g m cap : Nat) (d : Nat → Item) (hq : Blk w Q 125 #[.bool true, .slice (some ⟨g, 0, none⟩) (m + 1) cap]) (hm : m ≤ 50000) (hQg : Q ≠ g) (hd : Items w g (m + 1) cap d) (hh : Heap d (m + 1)) :
    Calls Try.prog 45 #[.iface 129 (.pointer (some ⟨Q, 1, none⟩))] w fun e w' => e = .returned (.iface 89 (.agg #[.int .i64 (d 0).cost, .int .i64 (d 0).hops, .int .i64 (d 0).node])) ∧ PopPost w Q g m cap d w' := by
  have e1 : ((m + 1 : Nat) : Int) = (m : Int) + 1 := by omega
  have hgq : some Q ≠ some g := fun h => hQg (by injection h)
  have hl := iLen_calls w Q (m + 1) _ cap (hq.cell 1)
  rw [e1] at hl
  have HL := Lib.hid hl
  have hs := iSwap_at w Q g (m + 1) (m + 1) cap 0 m (m : Int) rfl d (hq.cell 1) (by omega) (by omega) (Nat.le_refl _) hd
  rw [show ((0 : Nat) : Int) = 0 from rfl] at hs
  have HS := Lib.hid hs
  have hdn := fun (w1 : World) (h1 : Items w1 g (m + 1) cap (sw d 0 m)) (hg : w.grownBy w1 (some g)) => down_calls w1 Q g (m + 1) cap m 0 (sw d 0 m) ((hq.grown hg hgq).cell 1) (Nat.lt_of_lt_of_le hq.lt hg.size) hQg (by omega) (by omega) (by omega) h1 (pop_start hh)
  rw [show ((0 : Nat) : Int) = 0 from rfl] at hdn
  have HD := Lib.hid hdn
  have HP := Lib.hid fun (w2 : World) (d2 : Nat → Item) (h2 : Items w2 g (m + 1) cap d2) (hg : w.grownBy w2 (some g)) => iPop_calls w2 Q g m cap d2 (hq.grown hg hgq) (by omega) hQg h2
  have ML := m_len
  have MS := m_swap
  have MP := m_pop
  have HM := Lib.hid fun x => many_sw d 0 m x (m + 1) (by omega) (by omega)
  clear hq hd hh hl hs hdn e1 hQg hgq
  go_enter Try.func45, Try.ntmps45
  go_wp2_with (first | (go_at_call 56; (with_reducible refine HL.out.mono ?_); rintro e w1 ⟨rfl, rfl⟩) | (go_at_call 92; (with_reducible refine HS.out.mono ?_); rintro e w1 ⟨rfl, hi1, hg1⟩) | (go_at_call 57; (with_reducible refine (HD.out w1 hi1 hg1).mono ?_); rintro e w2 ⟨⟨b, rfl⟩, d2, hi2, hh2, hm2, ho2, hg2⟩; have hg3 := grown_trans hg1 hg2) | (go_at_call 91; (with_reducible refine (HP.out _ _ hi2 hg3).mono ?_); rintro e w4 ⟨rfl, hq4, hi4, hg4⟩))
  go_ret
  exact ⟨by rw [sw_j]; rfl, hq4, ⟨d2, hi4, hh2, fun x => by rw [hm2, ← HM.out x]; simp only [many, sw_j]⟩, (Fr.items hg3).trans (Fr.queue hg4)⟩
end Go.Proofs.Yteaipeejhippiaa
