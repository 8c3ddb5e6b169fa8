/- Queue.Pop; a new queue; a full one; the nil queue and the one that no call made. -/
import Derived.Test.YteaipeejhippiaaQPush
namespace Go.Proofs.Yteaipeejhippiaa
open Go.RowKit
attribute [local go_sem] cell_set_self

theorem assert_item (a b c : Int) (w : World) : (Instr.typeAssert (.iface 89 (.agg #[.int .i64 a, .int .i64 b, .int .i64 c])) 20 89 true).run Try.prog w = .ok (.tuple #[.agg #[.int .i64 a, .int .i64 b, .int .i64 c], .bool true]) w := by kernel_rfl
set_option maxHeartbeats 4000000 in
theorem New_calls (w : World) : Calls Try.prog 27 #[] w fun e w' => e = .returned (.pointer (some ⟨w.heap.size, 0, none⟩)) ∧ w.alloc (.cells #[.bool true, .slice none 0 0] 125) = w' := by
  go_enter Try.func27, Try.ntmps27
  go_wp2
  go_ret
  exact ⟨rfl, rfl⟩
theorem Que.new (w : World) (base : Nat) (d : Nat → Item) : Que (w.alloc (.cells #[.bool true, .slice none 0 0] 125)) base w.heap.size (.slice none 0 0) 0 d :=
  ⟨Blk.new w _ _, QV.nil _ _ _, fun k _ h => by omega, by simp [Value.ownBlock]⟩
theorem Que.later {w w' : World} {base Q n : Nat} {v : Value} {d : Nat → Item} (h : Que w base Q v n d) (hb : Below w.heap.size w w') : Que w' base Q v n d := ⟨h.blk.later hb, h.row.later hb, h.heap, h.ne⟩
set_option maxRecDepth 1000000 in
set_option maxHeartbeats 8000000 in
theorem QFull_calls (w : World) (base Q n : Nat) (v : Value) (d : Nat → Item) (x : Item) (hq : Que w base Q v n d) (hn : 1024 ≤ n) (hn2 : n ≤ 100000) :
    Calls Try.prog 42 #[.pointer (some ⟨Q, 0, none⟩), .agg #[.int .i64 x.cost, .int .i64 x.hops, .int .i64 x.node]] w fun e w' => e = .returned (.int .i64 7) ∧ Below w.heap.size w w' := by
  obtain ⟨A, c, rfl⟩ := hq.row.form
  have HG := Lib.hid fun (w' : World) (hb : Below w.heap.size w w') => good_calls w' Q _ (hq.blk.later hb)
  have HL := Lib.hid fun (w' : World) (hb : Below w.heap.size w w') => QLen_calls w' Q n A c (hq.blk.later hb)
  have hlt : ¬ ((n : Int) < 1024) := by omega
  clear hq
  go_enter Try.func42, Try.ntmps42
  go_wp2_with (first | (go_at_call 43; (with_reducible refine (HG.out _ (by exact (by repeat (first | (with_reducible exact Below.refl _ _) | (with_reducible assumption) | ((with_reducible refine Below.setCell ?_ ?_ _); rotate_left; (first | omega | (simp <;> omega))) | ((with_reducible refine Below.alloc ?_ ?_ _); rotate_left; (first | omega | (simp <;> omega))) | ((with_reducible refine Below.drew ?_)) | ((with_reducible refine below_drewN ?_ _)) | ((with_reducible refine Below.trans ?_ (Below.mono (by with_reducible assumption) ?_)); rotate_left; (first | omega | (simp <;> omega))))))).mono ?_); rintro e w1 ⟨rfl, rfl⟩) | (go_at_call 44; (with_reducible refine (HL.out _ (by exact (by repeat (first | (with_reducible exact Below.refl _ _) | (with_reducible assumption) | ((with_reducible refine Below.setCell ?_ ?_ _); rotate_left; (first | omega | (simp <;> omega))) | ((with_reducible refine Below.alloc ?_ ?_ _); rotate_left; (first | omega | (simp <;> omega))) | ((with_reducible refine Below.drew ?_)) | ((with_reducible refine below_drewN ?_ _)) | ((with_reducible refine Below.trans ?_ (Below.mono (by with_reducible assumption) ?_)); rotate_left; (first | omega | (simp <;> omega))))))).mono ?_); rintro e w1 ⟨rfl, rfl⟩))
  go_ret
  exact ⟨rfl, (by repeat (first | (with_reducible exact Below.refl _ _) | (with_reducible assumption) | ((with_reducible refine Below.setCell ?_ ?_ _); rotate_left; (first | omega | (simp <;> omega))) | ((with_reducible refine Below.alloc ?_ ?_ _); rotate_left; (first | omega | (simp <;> omega))) | ((with_reducible refine Below.drew ?_)) | ((with_reducible refine below_drewN ?_ _)) | ((with_reducible refine Below.trans ?_ (Below.mono (by with_reducible assumption) ?_)); rotate_left; (first | omega | (simp <;> omega)))))⟩
set_option maxRecDepth 1000000 in
set_option maxHeartbeats 8000000 in
theorem QNone_calls (w : World) (base Q : Nat) (v : Value) (d : Nat → Item) (hq : Que w base Q v 0 d) :
    Calls Try.prog 29 #[.pointer (some ⟨Q, 0, none⟩)] w fun e w' => e = .returned (.tuple #[.agg #[.int .i64 0, .int .i64 0, .int .i64 0], .int .i64 8]) ∧ Below w.heap.size w w' := by
  obtain ⟨A, c, rfl⟩ := hq.row.form
  have HG := Lib.hid fun (w' : World) (hb : Below w.heap.size w w') => good_calls w' Q _ (hq.blk.later hb)
  have HL := Lib.hid fun (w' : World) (hb : Below w.heap.size w w') => (show Calls Try.prog 44 #[.pointer (some ⟨Q, 0, none⟩)] w' fun e w'' => e = .returned (.int .i64 0) ∧ w' = w'' from QLen_calls w' Q 0 A c (hq.blk.later hb))
  clear hq
  go_enter Try.func29, Try.ntmps29
  go_wp2_with (first | (go_at_call 43; (with_reducible refine (HG.out _ (by exact (by repeat (first | (with_reducible exact Below.refl _ _) | (with_reducible assumption) | ((with_reducible refine Below.setCell ?_ ?_ _); rotate_left; (first | omega | (simp <;> omega))) | ((with_reducible refine Below.alloc ?_ ?_ _); rotate_left; (first | omega | (simp <;> omega))) | ((with_reducible refine Below.drew ?_)) | ((with_reducible refine below_drewN ?_ _)) | ((with_reducible refine Below.trans ?_ (Below.mono (by with_reducible assumption) ?_)); rotate_left; (first | omega | (simp <;> omega))))))).mono ?_); rintro e w1 ⟨rfl, rfl⟩) | (go_at_call 44; (with_reducible refine (HL.out _ (by exact (by repeat (first | (with_reducible exact Below.refl _ _) | (with_reducible assumption) | ((with_reducible refine Below.setCell ?_ ?_ _); rotate_left; (first | omega | (simp <;> omega))) | ((with_reducible refine Below.alloc ?_ ?_ _); rotate_left; (first | omega | (simp <;> omega))) | ((with_reducible refine Below.drew ?_)) | ((with_reducible refine below_drewN ?_ _)) | ((with_reducible refine Below.trans ?_ (Below.mono (by with_reducible assumption) ?_)); rotate_left; (first | omega | (simp <;> omega))))))).mono ?_); rintro e w1 ⟨rfl, rfl⟩))
  exact bodyPost_ret (v := .tuple #[.agg #[.int .i64 0, .int .i64 0, .int .i64 0], .int .i64 8]) (by simp [results, Try.results29, go_sem]) rfl ⟨rfl, (by repeat (first | (with_reducible exact Below.refl _ _) | (with_reducible assumption) | ((with_reducible refine Below.setCell ?_ ?_ _); rotate_left; (first | omega | (simp <;> omega))) | ((with_reducible refine Below.alloc ?_ ?_ _); rotate_left; (first | omega | (simp <;> omega))) | ((with_reducible refine Below.drew ?_)) | ((with_reducible refine below_drewN ?_ _)) | ((with_reducible refine Below.trans ?_ (Below.mono (by with_reducible assumption) ?_)); rotate_left; (first | omega | (simp <;> omega)))))⟩
theorem Blk.fr {w w' : World} {g Q : Nat} {t : TypeId} {cs : Array Value} {o : Option Nat} (h : Blk w g t cs) (hf : Fr w w' Q o) (hQ : g ≠ Q) (ho : some g ≠ o) : Blk w' g t cs := (hf.block g h.lt hQ ho).trans h
theorem Fr.then_below {w w1 w' : World} {Q : Nat} {o : Option Nat} (h : Fr w w1 Q o) (hb : Below w.heap.size w1 w') : Fr w w' Q o :=
  ⟨hb.os.trans h.os, hb.tape.trans h.tape, hb.output.trans h.output, Nat.le_trans h.size hb.size, fun i hi h1 h2 => (hb.block i hi).trans (h.block i hi h1 h2)⟩
def TakePost (w : World) (base Q : Nat) (v : Value) (n : Nat) (d : Nat → Item) (e : Ending) (w' : World) : Prop :=
  e = .returned (.tuple #[.agg #[.int .i64 (d 0).cost, .int .i64 (d 0).hops, .int .i64 (d 0).node], .int .i64 0]) ∧ ∃ v' d', Que w' base Q v' n d' ∧ (∀ y, many d' n y + (if d 0 = y then 1 else 0) = many d (n + 1) y) ∧ Fr w w' Q v.ownBlock ∧ v'.ownBlock = v.ownBlock
set_option maxRecDepth 1000000 in
set_option maxHeartbeats 8000000 in
theorem QPop_calls (w : World) (base Q n : Nat) (v : Value) (d : Nat → Item) (hq : Que w base Q v (n + 1) d) (hn : n ≤ 50000) :
    Calls Try.prog 29 #[.pointer (some ⟨Q, 0, none⟩)] w (TakePost w base Q v n d) := by
  obtain ⟨g, cap, rfl, hg, hi⟩ := hq.row.items (by omega)
  have hgQ : Q ≠ g := fun e => hq.ne (by rw [e]; rfl)
  have HG := Lib.hid fun (w' : World) (hb : Below w.heap.size w w') => good_calls w' Q _ (hq.blk.later hb)
  have HL := Lib.hid fun (w' : World) (hb : Below w.heap.size w w') => QLen_calls w' Q (n + 1) _ cap (hq.blk.later hb)
  have HP := Lib.hid fun (w' : World) (hb : Below w.heap.size w w') => hPop_calls w' Q g n cap d (hq.blk.later hb) hn hgQ (hi.later hb) hq.heap
  have hlt : ¬ (((n + 1 : Nat) : Int) == 0) = true := by simp; omega
  have TA := assert_item
  have hQl := hq.blk.lt
  have hgl := hi.lt
  have HGQ := Lib.hid hgQ
  have HGB := Lib.hid hg
  clear hq hi hgQ hg
  go_enter Try.func29, Try.ntmps29
  go_wp2_with (first | (go_at_call 43; (with_reducible refine (HG.out _ (by exact (by repeat (first | (with_reducible exact Below.refl _ _) | (with_reducible assumption) | ((with_reducible refine Below.setCell ?_ ?_ _); rotate_left; (first | omega | (simp <;> omega))) | ((with_reducible refine Below.alloc ?_ ?_ _); rotate_left; (first | omega | (simp <;> omega))) | ((with_reducible refine Below.drew ?_)) | ((with_reducible refine below_drewN ?_ _)) | ((with_reducible refine Below.trans ?_ (Below.mono (by with_reducible assumption) ?_)); rotate_left; (first | omega | (simp <;> omega))))))).mono ?_); rintro e w1 ⟨rfl, rfl⟩) | (go_at_call 44; (with_reducible refine (HL.out _ (by exact (by repeat (first | (with_reducible exact Below.refl _ _) | (with_reducible assumption) | ((with_reducible refine Below.setCell ?_ ?_ _); rotate_left; (first | omega | (simp <;> omega))) | ((with_reducible refine Below.alloc ?_ ?_ _); rotate_left; (first | omega | (simp <;> omega))) | ((with_reducible refine Below.drew ?_)) | ((with_reducible refine below_drewN ?_ _)) | ((with_reducible refine Below.trans ?_ (Below.mono (by with_reducible assumption) ?_)); rotate_left; (first | omega | (simp <;> omega))))))).mono ?_); rintro e w1 ⟨rfl, rfl⟩) | (go_at_call 45; (with_reducible refine (HP.out _ (by exact (by repeat (first | (with_reducible exact Below.refl _ _) | (with_reducible assumption) | ((with_reducible refine Below.setCell ?_ ?_ _); rotate_left; (first | omega | (simp <;> omega))) | ((with_reducible refine Below.alloc ?_ ?_ _); rotate_left; (first | omega | (simp <;> omega))) | ((with_reducible refine Below.drew ?_)) | ((with_reducible refine below_drewN ?_ _)) | ((with_reducible refine Below.trans ?_ (Below.mono (by with_reducible assumption) ?_)); rotate_left; (first | omega | (simp <;> omega))))))).mono ?_); rintro e w2 ⟨rfl, hq2, ⟨d', hi2, hh2, hm2⟩, hf2⟩; have hrow := (Blk.new w 89 #[.int .i64 0, .int .i64 0, .int .i64 0]).fr hf2 (by omega) (by simp; omega); have HFR := Lib.hid (Fr.trans (Fr.new ((Below.refl _ _).alloc (Nat.le_refl _) _)) hf2); have HQ2 := Lib.hid hq2; have HI2 := Lib.hid hi2; have HM2 := Lib.hid hm2; have HH2 := Lib.hid hh2; clear hf2 hq2 hi2 hm2 hh2; obtain ⟨c5, f5, s5⟩ := hrow.row; clear hrow))
  have fin : ∀ W : World, Below w.heap.size w2 W → TakePost w base Q (.slice (some ⟨g, 0, none⟩) (n + 1) cap) n d (.returned (.tuple #[.agg #[.int .i64 (d 0).cost, .int .i64 (d 0).hops, .int .i64 (d 0).node], .int .i64 0])) W := fun W hW =>
    ⟨rfl, _, d', ⟨HQ2.out.below hW hQl, QV.of_items (HI2.out.below hW hgl) HGB.out, HH2.out, fun e => HGQ.out (by injection e with e; exact e.symm)⟩, HM2.out, HFR.out.then_below hW, rfl⟩
  exact bodyPost_ret (v := .tuple #[.agg #[.int .i64 (d 0).cost, .int .i64 (d 0).hops, .int .i64 (d 0).node], .int .i64 0]) (by simp [results, Try.results29, go_sem, c5, s5]) rfl (fin _ (by repeat (first | (with_reducible exact Below.refl _ _) | (with_reducible assumption) | ((with_reducible refine Below.setCell ?_ ?_ _); rotate_left; (first | omega | (simp <;> omega))) | ((with_reducible refine Below.alloc ?_ ?_ _); rotate_left; (first | omega | (simp <;> omega))) | ((with_reducible refine Below.drew ?_)) | ((with_reducible refine below_drewN ?_ _)) | ((with_reducible refine Below.trans ?_ (Below.mono (by with_reducible assumption) ?_)); rotate_left; (first | omega | (simp <;> omega))))))
end Go.Proofs.Yteaipeejhippiaa
