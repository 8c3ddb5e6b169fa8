/- A queue in memory; Push and Pop. -/
import Derived.Test.YteaipeejhippiaaQPop
import Derived.Deep.RegionLaw
import Derived.StillTailTactics
namespace Go.Proofs.Yteaipeejhippiaa
open Go.RowKit
attribute [local go_sem] cell_set_self

theorem infoItem : (Try.prog.info? 89).map (fun i => (i.zero, i.size, i.bytes)) = some (some (.agg #[.int .i64 0, .int .i64 0, .int .i64 0]), 3, 24) := by kernel_rfl
/-- The slice v, in blocks from base on, holds the items d 0, d 1, .. below n. -/
def QV (w : World) (base : Nat) (v : Value) (n : Nat) (d : Nat → Item) : Prop :=
  ∃ xs, w.ownsRow base 89 3 v n xs ∧ ∀ i, i < n → xs[i * 3]? = some (.int .i64 (d i).cost) ∧ xs[i * 3 + 1]? = some (.int .i64 (d i).hops) ∧ xs[i * 3 + 2]? = some (.int .i64 (d i).node)
section
variable {w w' : World} {base g n cap : Nat} {v : Value} {d : Nat → Item}
theorem QV.nil (w : World) (base : Nat) (d : Nat → Item) : QV w base (.slice none 0 0) 0 d := ⟨[], World.ownsRow_nil w base _ _, fun i h => by omega⟩
theorem QV.items (h : QV w base v n d) (hn : 0 < n) : ∃ g cap, v = .slice (some ⟨g, 0, none⟩) n cap ∧ base ≤ g ∧ Items w g n cap d := by
  obtain ⟨xs, h, hx⟩ := h
  rcases h.2 with ⟨_, h0⟩ | ⟨g, cap, cur, rfl, hb, hg, hnc, hcm, hcs, htake⟩
  · omega
  · refine ⟨g, cap, rfl, hb, cur, hg, hcs, hnc, hcm, fun i hi => ?_⟩
    obtain ⟨h1, h2, h3⟩ := hx i hi
    rw [← htake] at h1 h2 h3
    rw [List.getElem?_take_of_lt (by omega), Array.getElem?_toList] at h1 h2 h3
    exact ⟨h1, h2, h3⟩
theorem QV.of_items (h : Items w g n cap d) (hb : base ≤ g) : QV w base (.slice (some ⟨g, 0, none⟩) n cap) n d := by
  obtain ⟨cur, hg, hcs, hnc, hcm, hx⟩ := h
  refine ⟨cur.toList.take (n * 3), ⟨?_, .inr ⟨g, cap, cur, rfl, hb, hg, hnc, hcm, hcs, rfl⟩⟩, fun i hi => ?_⟩
  · rw [List.length_take, Array.length_toList]
    omega
  · obtain ⟨h1, h2, h3⟩ := hx i hi
    rw [List.getElem?_take_of_lt (by omega), List.getElem?_take_of_lt (by omega), List.getElem?_take_of_lt (by omega), Array.getElem?_toList, Array.getElem?_toList, Array.getElem?_toList]
    exact ⟨h1, h2, h3⟩
theorem QV.form (h : QV w base v n d) : ∃ A c, v = .slice A n c := by
  obtain ⟨xs, h, _⟩ := h
  rcases h.2 with ⟨rfl, h0⟩ | ⟨g, cap, cur, rfl, _⟩
  · exact ⟨none, 0, by rw [h0]⟩
  · exact ⟨_, _, rfl⟩
theorem QV.lt (h : QV w base v n d) : ∀ k, v.ownBlock = some k → base ≤ k ∧ k < w.heap.size := by obtain ⟨xs, h, _⟩ := h; exact h.lt
theorem QV.of_block (h : QV w base v n d) (e : ∀ g, v.ownBlock = some g → w'.heap[g]? = w.heap[g]?) : QV w' base v n d := by
  obtain ⟨xs, h, hx⟩ := h
  refine ⟨xs, ⟨h.1, ?_⟩, hx⟩
  rcases h.2 with hn | ⟨g, cap, cur, rfl, hb, hgg, rest⟩
  · exact .inl hn
  · exact .inr ⟨g, cap, cur, rfl, hb, (e g rfl).trans hgg, rest⟩
theorem QV.later (h : QV w base v n d) (hb : Below w.heap.size w w') : QV w' base v n d := h.of_block fun g hg => hb.block g (h.lt g hg).2
theorem QV.congr {e : Nat → Item} (h : QV w base v n d) (he : ∀ i, i < n → d i = e i) : QV w base v n e := by
  obtain ⟨xs, h, hx⟩ := h
  exact ⟨xs, h, fun i hi => by rw [← he i hi]; exact hx i hi⟩
end
theorem step_push {P : Program} {ops : Array Oper} {o : Oper} {a : Act} {w : World} {K : Act → World → Prop} {Q : Exit → Act → World → Prop} {E : Prop} (hgd : o.guard = none) (s x : Operand) (t : TypeId)
    (ho : o.op = .call { callee := .builtin .append, args := #[s, x], argTypes := #[t, t] })
    (base : Nat) (e : TypeId) (z : Value) (size bytes : Nat) (ht : P.underlying t = some (.slice e)) (hi : (P.info? e).map (fun i => (i.zero, i.size, i.bytes)) = some (some z, size, bytes)) (hzs : z.cells.size = size) (hsz : 0 < size)
    (v : Value) (n : Nat) (xs : List Value) (hs : a.eval s = v) (hown : w.ownsRow base e size v n xs)
    (g c : Nat) (r : Array Value) (hx : a.eval x = .slice (some ⟨g, 0, none⟩) 1 c) (hr : r.size = size) (hcell : ∀ j u, r.toList[j]? = some u → w.cell? ((⟨g, 0, none⟩ : Addr).add j) = some u) (h1 : ∀ u ∈ r.toList, u.oneCell' = true)
    (hn : n ≤ 100000) (hby : bytes ≤ 1000) (hbase : base ≤ w.heap.size)
    (h : ∀ v' w', w'.ownsRow base e size v' (n + 1) (xs ++ r.toList) → w.grownBy w' v.ownBlock → (v'.ownBlock = v.ownBlock ∨ v'.ownBlock = some w.heap.size) → K (a.put o.dst v') w') :
    if Region.wanted o (yielded ops a.tmps) = true then Oper.wp P o a w K Q else E := by
  have hw : Region.wanted o (yielded ops a.tmps) = true := by simp [Region.wanted, hgd]
  rw [if_pos hw]
  obtain ⟨i, hi1, hi2, hi3, hi4⟩ := info_parts hi
  have hb2 : (n + 1) * bytes ≤ 140737488355328 := Nat.le_trans (Nat.mul_le_mul (show n + 1 ≤ 100001 by omega) hby) (by omega)
  obtain ⟨v', w', hr, h2, h3, _, h5⟩ := run_append_own_at (P := P) w base t o.type e i z size bytes ht hi1 hi2 hi3 hi4 hzs hsz v n xs hown ⟨g, 0, none⟩ 1 c r.toList (by simp [hr]) hcell h1 (by unfold maxLen; omega) hb2 hbase
  unfold Oper.wp execOp
  simp only [ho, resolve, invoke, builtin, Sem.run_bind, Sem.run_pure, Result.andThen_ok, List.map_toArray, List.map_cons, List.map_nil, hs, hx, hr]
  exact h v' w' h2 h3 h5
theorem new_cells (w : World) {g : Nat} (r : Array Value) (t : TypeId) (hg : g = w.heap.size) : ∀ j u, r.toList[j]? = some u → (w.alloc (.cells r t)).cell? ((⟨g, 0, none⟩ : Addr).add j) = some u := by
  subst hg
  intro j u hj
  have : (⟨w.heap.size, 0, none⟩ : Addr).add j = ⟨w.heap.size, j, none⟩ := by unfold Addr.add; split <;> simp_all
  rw [this, World.cell?_alloc_new]
  simpa using hj
theorem new_cellsD (w : World) {g : Nat} (r : Array Value) (t : TypeId) (hg : g = w.heap.size) : ∀ j u, r.toList[j]? = some u → (w.alloc (.cells r t)).drew.cell? ((⟨g, 0, none⟩ : Addr).add j) = some u := new_cells w r t hg
/-- The queue at Q holds a heap of n items. -/
structure Que (w : World) (base Q : Nat) (v : Value) (n : Nat) (d : Nat → Item) : Prop where
  blk : Blk w Q 125 #[.bool true, v]
  row : QV w base v n d
  heap : Heap d n
  ne : v.ownBlock ≠ some Q
theorem QV.snoc {w : World} {base n : Nat} {v : Value} {xs : List Value} {d : Nat → Item} {x : Item} (h : w.ownsRow base 89 3 v (n + 1) (xs ++ (itemRow x).toList)) (hl : xs.length = n * 3) (hx : ∀ i, i < n → xs[i * 3]? = some (.int .i64 (d i).cost) ∧ xs[i * 3 + 1]? = some (.int .i64 (d i).hops) ∧ xs[i * 3 + 2]? = some (.int .i64 (d i).node)) :
    QV w base v (n + 1) (upd d n x) := by
  refine ⟨_, h, fun i hi => ?_⟩
  by_cases e : i = n
  · subst e
    simp only [upd, ↓reduceIte]
    rw [List.getElem?_append_right (by omega), List.getElem?_append_right (by omega), List.getElem?_append_right (by omega), hl]
    simp [itemRow, show i * 3 + 1 - i * 3 = 1 by omega, show i * 3 + 2 - i * 3 = 2 by omega]
  · simp only [upd, e, ↓reduceIte]
    obtain ⟨h1, h2, h3⟩ := hx i (by omega)
    rw [List.getElem?_append_left (by omega), List.getElem?_append_left (by omega), List.getElem?_append_left (by omega)]
    exact ⟨h1, h2, h3⟩
def PushPost (w : World) (base Q : Nat) (v : Value) (n : Nat) (d : Nat → Item) (x : Item) (e : Ending) (w' : World) : Prop :=
  e = .returned (.int .i64 0) ∧ ∃ v' d', Que w' base Q v' (n + 1) d' ∧ (∀ y, many d' (n + 1) y = many d n y + if x = y then 1 else 0) ∧ Fr w w' Q v.ownBlock ∧ ∀ g, v'.ownBlock = some g → v.ownBlock = some g ∨ w.heap.size ≤ g
set_option maxRecDepth 1000000 in
set_option maxHeartbeats 16000000 in
theorem QPush_calls (w : World) (base Q n : Nat) (v : Value) (d : Nat → Item) (x : Item) (hq : Que w base Q v n d) (hn : n < 1024) (hbase : base ≤ w.heap.size) :
    Calls Try.prog 42 #[.pointer (some ⟨Q, 0, none⟩), .agg #[.int .i64 x.cost, .int .i64 x.hops, .int .i64 x.node]] w (PushPost w base Q v n d x) := by
  obtain ⟨A, c, rfl⟩ := hq.row.form
  have HQ := Lib.hid hq
  have hgd := fun (w' : World) (hb : Below w.heap.size w w') => good_calls w' Q _ (hq.blk.later hb)
  have hln := fun (w' : World) (hb : Below w.heap.size w w') => QLen_calls w' Q n A c (hq.blk.later hb)
  have HG := Lib.hid hgd
  have HL := Lib.hid hln
  have hlt : (n : Int) < 1024 := by omega
  have hQ := hq.blk.lt
  have hcQ := hq.blk.cell 1
  have hfQ := hq.blk.frozen
  clear hgd hln hq
  go_enter Try.func42, Try.ntmps42
  go_wp2_with (first | (go_at_call 43; (with_reducible refine (HG.out _ (by exact (by repeat (first | (with_reducible exact Below.refl _ _) | (with_reducible assumption) | ((with_reducible refine Below.setCell ?_ ?_ _); rotate_left; (first | omega | (simp <;> omega))) | ((with_reducible refine Below.alloc ?_ ?_ _); rotate_left; (first | omega | (simp <;> omega))) | ((with_reducible refine Below.drew ?_)) | ((with_reducible refine below_drewN ?_ _)) | ((with_reducible refine Below.trans ?_ (Below.mono (by with_reducible assumption) ?_)); rotate_left; (first | omega | (simp <;> omega))))))).mono ?_); rintro e w1 ⟨rfl, rfl⟩) | (go_at_call 44; (with_reducible refine (HL.out _ (by exact (by repeat (first | (with_reducible exact Below.refl _ _) | (with_reducible assumption) | ((with_reducible refine Below.setCell ?_ ?_ _); rotate_left; (first | omega | (simp <;> omega))) | ((with_reducible refine Below.alloc ?_ ?_ _); rotate_left; (first | omega | (simp <;> omega))) | ((with_reducible refine Below.drew ?_)) | ((with_reducible refine below_drewN ?_ _)) | ((with_reducible refine Below.trans ?_ (Below.mono (by with_reducible assumption) ?_)); rotate_left; (first | omega | (simp <;> omega))))))).mono ?_); rintro e w1 ⟨rfl, rfl⟩))
  obtain ⟨xs, hown, hx⟩ := HQ.out.row
  have HX := Lib.hid hown
  have HXS := Lib.hid hx
  clear hown hx HG HL
  have S1 := Lib.hid (show ((w.alloc (.cells #[.int .i64 x.cost, .int .i64 x.hops, .int .i64 x.node] 89)).alloc (.cells #[.int .i64 x.cost, .int .i64 x.hops, .int .i64 x.node] 89)).drew.ownsRow base 89 3 (.slice A n c) n xs from ((HX.out.alloc _).alloc _).drew)
  have S2 := Lib.hid (show ∀ j u, (itemRow x).toList[j]? = some u → ((w.alloc (.cells #[.int .i64 x.cost, .int .i64 x.hops, .int .i64 x.node] 89)).alloc (.cells #[.int .i64 x.cost, .int .i64 x.hops, .int .i64 x.node] 89)).drew.cell? ((⟨w.heap.size + 1, 0, none⟩ : Addr).add j) = some u from new_cellsD _ (itemRow x) _ (by simp))
  have S3 := Lib.hid (show ∀ u ∈ (itemRow x).toList, u.oneCell' = true by intro u hu; simp [itemRow] at hu; rcases hu with rfl | rfl | rfl <;> rfl)
  have S4 := Lib.hid (show base ≤ ((w.alloc (.cells #[.int .i64 x.cost, .int .i64 x.hops, .int .i64 x.node] 89)).alloc (.cells #[.int .i64 x.cost, .int .i64 x.hops, .int .i64 x.node] 89)).drew.heap.size by simp; omega)
  go_region_law (refine step_push rfl (.tmp 18) (.tmp 20) 121 rfl base 89 _ 3 24 Try.underlying121 infoItem rfl (by omega) (.slice A n c) n xs (by simp [Act.eval]) S1.out (w.heap.size + 1) 1 (itemRow x) (by simp [Act.eval]) rfl S2.out S3.out (by omega) (by omega) S4.out ?_; intro v' w' h2 h3 h5; have hb := (((HQ.out.blk.alloc _).alloc _).drew).grown h3 (Ne.symm HQ.out.ne); obtain ⟨g, cap', rfl, hg, hi⟩ := (QV.snoc h2 HX.out.1 HXS.out).items (by omega); have HB := Lib.hid hb; have HI := Lib.hid hi; have HG3 := Lib.hid h3; have H5 := Lib.hid h5; clear h2 h3 h5 hi; obtain ⟨c5, f5, s5⟩ := hb.row; clear hb)
  all_goals
    go_wp2_with fail
    have hst := HB.out.set_ 1 (.slice (some ⟨g, 0, none⟩) (n + 1) cap')
    simp only [List.setIfInBounds_toArray, List.set_cons_zero, List.set_cons_succ] at hst
    have hgQ : Q ≠ g := by
      rcases H5.out with h | h
      · exact fun e => HQ.out.ne (by rw [← h, e]; rfl)
      · have h' : some g = some (w.heap.size + 1 + 1) := h.trans (by simp)
        injection h' with h'
        omega
    have hit := HI.out.far (p := ⟨Q, 1, none⟩) (Ne.symm hgQ) (.slice (some ⟨g, 0, none⟩) (n + 1) cap')
    have hW0 : Below w.heap.size w ((w.alloc (.cells #[.int .i64 x.cost, .int .i64 x.hops, .int .i64 x.node] 89)).alloc (.cells #[.int .i64 x.cost, .int .i64 x.hops, .int .i64 x.node] 89)).drew := (by repeat (first | (with_reducible exact Below.refl _ _) | (with_reducible assumption) | ((with_reducible refine Below.setCell ?_ ?_ _); rotate_left; (first | omega | (simp <;> omega))) | ((with_reducible refine Below.alloc ?_ ?_ _); rotate_left; (first | omega | (simp <;> omega))) | ((with_reducible refine Below.drew ?_)) | ((with_reducible refine below_drewN ?_ _)) | ((with_reducible refine Below.trans ?_ (Below.mono (by with_reducible assumption) ?_)); rotate_left; (first | omega | (simp <;> omega)))))
    have hfr : Fr w (w'.setCell ⟨Q, 1, none⟩ (.slice (some ⟨g, 0, none⟩) (n + 1) cap')) Q (Value.slice A n c).ownBlock := ((Fr.new hW0).trans (Fr.items HG3.out)).trans (Fr.queue (grown_setCell (World.grownBy.refl _ _) rfl _))
    have how : ∀ k, (Value.slice (some ⟨g, 0, none⟩) (n + 1) cap').ownBlock = some k → (Value.slice A n c).ownBlock = some k ∨ w.heap.size ≤ k := by
      intro k hk
      rcases H5.out with h | h
      · exact .inl (h.symm.trans hk)
      · have h' := h.symm.trans hk
        simp at h'
        exact .inr (by omega)
    generalize w'.setCell ⟨Q, 1, none⟩ (.slice (some ⟨g, 0, none⟩) (n + 1) cap') = W at hst hit hfr ⊢
    have hHeap : Heap (upd d n x) n := fun k k0 kn => by
      have h := HQ.out.heap k k0 kn
      have hpk : par k < k := by unfold par; omega
      simp only [upd, show k ≠ n by omega, show par k ≠ n by omega, ↓reduceIte]
      exact h
    have HF := Lib.hid fun (W' : World) (hb : Below W.heap.size W W') => Fix_calls W' Q g n cap' (upd d n x) ((hb.cell (p := ⟨Q, 1, none⟩) hst.lt).trans (hst.cell 1)) (Nat.lt_of_lt_of_le hst.lt hb.size) hgQ (by omega) (hit.later hb) hHeap (n : Int) rfl
    obtain ⟨c6, f6, s6⟩ := hst.row
    have HST := Lib.hid hst
    have HIT := Lib.hid hit
    have HFR := Lib.hid hfr
    have HOW := Lib.hid how
    have HGQ := Lib.hid hgQ
    have HCN := Lib.hid fun y => (show many (upd d n x) (n + 1) y = many d n y + if x = y then 1 else 0 by simp only [many]; rw [many_congr (e := d) (fun k hk => by simp [upd, show k ≠ n by omega])]; simp [upd])
    clear hst hit hfr how hgQ hHeap hW0 HB HI HG3 H5 HX HXS S1 S2 S3 S4 c5 f5 s5 hcQ hfQ
    go_still_tail 11, (by kernel_rfl)
    have hbd : Below W.heap.size W W.drew := ⟨rfl, rfl, rfl, Nat.le_refl _, fun _ _ => rfl⟩
    have HF9 := Lib.hid (HF.out _ hbd)
    have HBD := Lib.hid hbd
    clear hbd
    go_wp2_with (go_at_call 55; (with_reducible refine HF9.out.mono ?_); rintro e w9 ⟨rfl, d', hi9, hh9, hm9, _, hg9⟩)
    go_ret
    have HST2 : Blk W.drew Q 125 #[.bool true, .slice (some ⟨g, 0, none⟩) (n + 1) cap'] := HST.out.later HBD.out
    have hq9 := HST2.grown hg9 (fun e => HGQ.out (by injection e))
    have hfr9 := (HFR.out.trans (Fr.new HBD.out)).trans' (Fr.items (Q := Q) hg9) (fun k hk => HOW.out k hk)
    exact ⟨rfl, _, d', ⟨hq9, QV.of_items hi9 hg, hh9, fun e => HGQ.out (by injection e with e; exact e.symm)⟩, fun y => (hm9 y).trans (HCN.out y), hfr9, HOW.out⟩
end Go.Proofs.Yteaipeejhippiaa
