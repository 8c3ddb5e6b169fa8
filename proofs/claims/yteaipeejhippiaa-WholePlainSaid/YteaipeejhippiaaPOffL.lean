/- The layered search takes a way, if it is better than what was found with as many links: offer. -/
import Derived.Test.YteaipeejhippiaaPLay
import Derived.Test.YteaipeejhippiaaPSame
namespace Go.Proofs.Yteaipeejhippiaa
open Go.RowKit Go.ChangeMaps Go.MapKept
open Go.Maps (Keyed)
attribute [local go_sem] cell_set_self
set_option linter.unusedVariables false

def LOfferPost (w : World) (base S Mb Md Q : Nat) (A : Option Addr) (m c : Nat) (x : Nat → Lnk) (n : Nat) (B : (Int × Int → Option (List Int × Int))) (D : Int × Int → Bool) (qv : Value) (k : Nat) (d : Nat → Item) (v : Int) (L : Nat) (l : List Int) (y : Int) (e : Ending) (w' : World) : Prop :=
  e = .returned (.tuple #[]) ∧ ∃ B' qv' k' d', Lay w' base S Mb Md Q A m c x n B' D qv' k' d' ∧ Fx w w' (fun j => j = Mb ∨ j = Q ∨ some j = qv.ownBlock) ∧ (∀ g, qv'.ownBlock = some g → qv.ownBlock = some g ∨ w.heap.size ≤ g) ∧
    ((B' = B ∧ k' = k ∧ (∀ z, many d' k' z = many d k z) ∧ ∃ l' c', B (v, (L : Int)) = some (l', c') ∧ ¬ Bet y l c' l') ∨
     (B' = updT B (v, (L : Int)) (l, y) ∧ (∀ l' c', B (v, (L : Int)) = some (l', c') → Bet y l c' l') ∧ k' = k + 1 ∧ ∀ z, many d' k' z = many d k z + if (⟨y, (L : Int), v⟩ : Item) = z then 1 else 0))
theorem s_map {P : Program} {ops : Array Oper} {Q : Exit → Act → World → Prop} {ks l : List Nat} {i : Nat} {o : Oper} {a : Act} {w : World} (ho : ops[i]? = some o) (hk : ks[i]? = some 2) (hg : o.guard = none) (hd : o.dst = none) (m x v : Operand) (t : TypeId) (hop : o.op = Op.mapUpdate t m x v)
    (k e : TypeId) (K : Keyed P k) (ht : P.underlying t = some (.map k e)) (b n : Nat) (f : Value → Option Value) (hm : a.eval m = .map (some b)) (h : MapOf P k w b n f) (key val : Value) (hx : a.eval x = key) (hv : a.eval v = val) (hkey : ∃ kl, keyOf P k key = some kl)
    (hn : ∀ w', MapOf P k w' b (n + 1) (lay f key val) → w.grownBy w' (some b) → wpSeq P ops Q ks l a w') : wpSeq P ops Q ks (i :: l) a w := by
  obtain ⟨kl, hkey⟩ := hkey
  obtain ⟨w', hrun, r1, r2⟩ := h.store K ht (val := val) hkey
  exact s_store (w' := w') ho hk (by simp [Region.wanted, hg]) hd (by simp [execOp, hop, hm, hx, hv, hrun, Result.andThen]) (hn w' r1 r2)
theorem loffer_put {w : World} {base S Mb Md Q : Nat} {A : Option Addr} {m c : Nat} {x : Nat → Lnk} {n : Nat} {B : (Int × Int → Option (List Int × Int))} {D : Int × Int → Bool} {qv : Value} {k : Nat} {d : Nat → Item} {v : Int} {L : Nat} {l : List Int} {y : Int} {w2 w1 : World} {v' : Value} {d' : Nat → Item}
    (h : Lay w2 base S Mb Md Q A m c x n (updT B (v, (L : Int)) (l, y)) D qv k d) (hf : Fx w w2 (fun j => j = Mb)) (hq : Que w1 base Q v' (k + 1) d') (hm : ∀ z, many d' (k + 1) z = many d k z + if (⟨y, (L : Int), v⟩ : Item) = z then 1 else 0) (hfr : Fr w2 w1 Q qv.ownBlock) (ho : ∀ g, v'.ownBlock = some g → qv.ownBlock = some g ∨ w2.heap.size ≤ g)
    (hb : ∀ l' c', B (v, (L : Int)) = some (l', c') → Bet y l c' l') : LOfferPost w base S Mb Md Q A m c x n B D qv k d v L l y (.returned (.tuple #[])) w1 :=
  ⟨rfl, _, v', k + 1, d', h.queue hfr hq, (hf.mono fun _ _ e => .inl e).trans (Fx.fr hfr) fun j _ hj => .inr hj, fun g hg => (ho g hg).imp id fun e => Nat.le_trans hf.size e, .inr ⟨rfl, hb, rfl, hm⟩⟩
theorem loffer_skip {w : World} {base S Mb Md Q : Nat} {A : Option Addr} {m c : Nat} {x : Nat → Lnk} {n : Nat} {B : (Int × Int → Option (List Int × Int))} {D : Int × Int → Bool} {qv : Value} {k : Nat} {d : Nat → Item} {v : Int} {L : Nat} {l : List Int} {y : Int} {w' : World} (h : Lay w base S Mb Md Q A m c x n B D qv k d) (hb : Below w.heap.size w w') (hs : ∃ l' c', B (v, (L : Int)) = some (l', c') ∧ ¬ Bet y l c' l') : LOfferPost w base S Mb Md Q A m c x n B D qv k d v L l y (.returned (.tuple #[])) w' :=
  ⟨rfl, B, qv, k, d, h.later hb, Fx.new hb _, fun _ hg => .inl hg, .inl ⟨rfl, rfl, fun _ => rfl, hs⟩⟩
set_option maxRecDepth 100000 in
set_option maxHeartbeats 16000000 in
theorem LOffer_calls (w : World) (base S Mb Md Q : Nat) (A : Option Addr) (m c : Nat) (x : Nat → Lnk) (n : Nat) (B : (Int × Int → Option (List Int × Int))) (D : Int × Int → Bool) (qv : Value) (k : Nat) (d : Nat → Item) (v : Int) (L : Nat) (l : List Int) (y : Int) (sv : Value)
    (h : Lay w base S Mb Md Q A m c x n B D qv k d) (hr : Rt w sv l) (hL : l.length = L + 1) (hv : nth l L = v) (hv5 : I64 v) (hL5 : L ≤ 100000) (hy : 0 ≤ y) (hk : k < 1024) (hbase : base ≤ w.heap.size) :
    Calls Try.prog 28 #[.pointer (some ⟨S, 0, none⟩), .agg #[sv, .int .i64 y]] w (LOfferPost w base S Mb Md Q A m c x n B D qv k d v L l y) := by
  have H := Lib.hid h
  have HR := Lib.hid hr
  have HLL := Lib.hid hL
  have HY := Lib.hid hy
  have HK := Lib.hid hk
  have HBS := Lib.hid hbase
  have HKEY := Lib.hid (keyOf94 hv5 (show I64 (L : Int) by unfold I64; omega))
  obtain ⟨b, cc, cs, rfl, hlc, hb3, hcs⟩ := hr
  have rL := (hb3.cell L).trans (hcs L (by omega))
  rw [hv] at rL
  have rl := hb3.lt
  obtain ⟨K, hK⟩ : ∃ K, l.length = K := ⟨_, rfl⟩
  have hKL : K = L + 1 := by omega
  rw [hK] at hlc
  simp only [hK] at HR ⊢
  have HRB := Lib.hid hb3
  have HKL := Lib.hid (And.intro hK hKL)
  have l1 : (L : Int) < (K : Int) := by omega
  have l0 : (0 : Int) ≤ (L : Int) := by omega
  have lw : IntKind.i64.wrap ((K : Int) - 1) = (L : Int) := by simp [IntKind.wrap, IntKind.bits, IntKind.signed]; omega
  clear hK hKL
  clear h hL hv hv5 hy hk hbase hb3 hcs
  go_enter Try.func28, Try.ntmps28
  go_upto_region 1 with (fail)
  have HX := Lib.hid (Blk.new w 87 #[.slice (some ⟨b, 0, none⟩) K cc, .int .i64 y])
  have HB0 := Lib.hid (show Below w.heap.size w (w.alloc (.cells #[.slice (some ⟨b, 0, none⟩) K cc, .int .i64 y] 87)) from (Below.refl _ _).alloc (Nat.le_refl _) _)
  generalize w.alloc (.cells #[.slice (some ⟨b, 0, none⟩) K cc, .int .i64 y] 87) = W0 at *
  replace rL := (HB0.out.cell (p := ⟨b, L, none⟩) rl).trans rL
  replace rl : b < W0.heap.size := Nat.lt_of_lt_of_le rl HB0.out.size
  obtain ⟨xc, xf, xl⟩ := HX.out.row
  (refine reg1 [0,0,0,0,0,0,0,0,0,0,0,0,0,1] 13 4 _ #[.int .i64 0, .int .i64 0] (by kernel_rfl) _ rfl (by kernel_rfl) ?hlen rfl rfl rfl ⟨rfl, fun ρ w => ⟨94, by kernel_rfl⟩⟩ ?hQ ?_; (case hlen => decide); (case hQ => (intro c a o v w h; cases o <;> exact h)); (repeat (first | (with_reducible refine p_fresh ?_) | ((with_reducible refine p_pure (v := ?_) ?hw (fun w' hC => ?hrun) ?_); (case hw => rfl); (case hrun => (obtain ⟨hq1, hq2⟩ := bcell hC; go_simp; with_reducible rfl)); refine p_norm (a' := ?_) ?_ ?_; rotate_left; (simp only [Act.put, List.setIfInBounds_toArray, List.set_cons_zero, List.set_cons_succ]; rfl)) | ((with_reducible refine p_late (v := ?_) ?hw (fun w' => ?hrun) ?_); (case hw => rfl); (case hrun => (go_simp; with_reducible rfl)); refine p_norm (a' := ?_) ?_ ?_; rotate_left; (simp only [Act.put, List.setIfInBounds_toArray, List.set_cons_zero, List.set_cons_succ]; rfl)) | ((with_reducible refine p_skip ?hw ?_); (case hw => rfl); refine p_norm (a' := ?_) ?_ ?_; rotate_left; (simp only [Act.put, List.setIfInBounds_toArray, List.set_cons_zero, List.set_cons_succ]; rfl)) | ((with_reducible refine p_lateskip ?hw ?_); (case hw => rfl); refine p_norm (a' := ?_) ?_ ?_; rotate_left; (simp only [Act.put, List.setIfInBounds_toArray, List.set_cons_zero, List.set_cons_succ]; rfl)) )); with_reducible refine p_nil ?_; intro w1 p1 hb1 hp1 hr1; simp only [List.length_cons, List.length_nil, Nat.reduceAdd, List.drop_succ_cons, List.drop_zero, Act.put, List.setIfInBounds_toArray, List.set_cons_zero, List.set_cons_succ])
  have hp0 : w.heap.size < p1 := Nat.lt_of_lt_of_le HX.out.lt hp1
  have HPP := Lib.hid hp0
  have HX1 := Lib.hid (HX.out.later hb1)
  have HR1 := Lib.hid hr1
  have HB1 := Lib.hid (HB0.out.trans (hb1.mono HB0.out.size))
  clear xc xf xl rL rl hb1
  obtain ⟨pc, pf, pl⟩ := hr1
  go_upto_region 2 with (fail)
  have HW2 := Lib.hid ((HB1.out.setCell (p := ⟨p1, 0, none⟩) (Nat.le_of_lt hp0) (.int .i64 v)).setCell (p := ⟨p1, 1, none⟩) (Nat.le_of_lt hp0) (.int .i64 (L : Int)))
  have HR2 := Lib.hid (show Row ((w1.setCell ⟨p1, 0, none⟩ (.int .i64 v)).setCell ⟨p1, 1, none⟩ (.int .i64 (L : Int))) p1 #[.int .i64 v, .int .i64 (L : Int)] by simpa using (HR1.out.set 0 (.int .i64 v)).set 1 (.int .i64 (L : Int)))
  have HX2 := Lib.hid ((HX1.out.far (p := ⟨p1, 0, none⟩) (by show w.heap.size ≠ p1; omega) (.int .i64 v)).far (p := ⟨p1, 1, none⟩) (by show w.heap.size ≠ p1; omega) (.int .i64 (L : Int)))
  generalize (w1.setCell ⟨p1, 0, none⟩ (.int .i64 v)).setCell ⟨p1, 1, none⟩ (.int .i64 (L : Int)) = W2 at *
  have H2 := Lib.hid (H.out.later HW2.out)
  clear pc pf pl hp1
  obtain ⟨pc, pf, pl⟩ := HR2.out
  obtain ⟨sc, sf, sl⟩ := H2.out.s.row
  obtain ⟨cnt, f, hm, hf⟩ := H2.out.best
  have HM := Lib.hid hm
  have HFF := Lib.hid hf
  have hfk := hf v (L : Int)
  clear hm hf
  cases hB : B (v, (L : Int)) with
  | none =>
    rw [hB] at hfk
    have HFK := Lib.hid hfk
    have HBB := Lib.hid hB
    clear hfk hB
    (refine reg1 [0,0,0,0,0,0,0,0,2,1] 9 5 _ #[.slice none 0 0, .int .i64 0] (by kernel_rfl) _ rfl (by kernel_rfl) ?hlen rfl rfl rfl ⟨rfl, fun ρ w => ⟨87, by kernel_rfl⟩⟩ ?hQ ?_; (case hlen => decide); (case hQ => (intro c a o v w h; cases o <;> exact h)); (repeat (first | ((refine p_pure (v := _) ?hw (fun w' hC => look_no (.tmp 24) (.tmp 25) 79 rfl 94 87 keyed94 Try.underlying79 Mb cnt f _ (zero87 w') rfl (HM.out.later hC) (key2 v (L : Int)) rfl HKEY.out HFK.out) ?_); (case hw => rfl); refine p_norm (a' := ?_) ?_ ?_; rotate_left; (simp only [Act.put, List.setIfInBounds_toArray, List.set_cons_zero, List.set_cons_succ]; rfl)) | (with_reducible refine p_fresh ?_) | ((with_reducible refine p_pure (v := ?_) ?hw (fun w' hC => ?hrun) ?_); (case hw => rfl); (case hrun => (obtain ⟨hq1, hq2⟩ := bcell hC; go_simp; with_reducible rfl)); refine p_norm (a' := ?_) ?_ ?_; rotate_left; (simp only [Act.put, List.setIfInBounds_toArray, List.set_cons_zero, List.set_cons_succ]; rfl)) | ((with_reducible refine p_late (v := ?_) ?hw (fun w' => ?hrun) ?_); (case hw => rfl); (case hrun => (go_simp; with_reducible rfl)); refine p_norm (a' := ?_) ?_ ?_; rotate_left; (simp only [Act.put, List.setIfInBounds_toArray, List.set_cons_zero, List.set_cons_succ]; rfl)) | ((with_reducible refine p_skip ?hw ?_); (case hw => rfl); refine p_norm (a' := ?_) ?_ ?_; rotate_left; (simp only [Act.put, List.setIfInBounds_toArray, List.set_cons_zero, List.set_cons_succ]; rfl)) | ((with_reducible refine p_lateskip ?hw ?_); (case hw => rfl); refine p_norm (a' := ?_) ?_ ?_; rotate_left; (simp only [Act.put, List.setIfInBounds_toArray, List.set_cons_zero, List.set_cons_succ]; rfl)) )); with_reducible refine p_nil ?_; intro w3 p3 hb3 hp3 hr3; simp only [List.length_cons, List.length_nil, Nat.reduceAdd, List.drop_succ_cons, List.drop_zero, Act.put, List.setIfInBounds_toArray, List.set_cons_zero, List.set_cons_succ])
    have hp13 : p1 < p3 := Nat.lt_of_lt_of_le HR2.out.2.2 hp3
    have hp03 : w.heap.size < p3 := Nat.lt_trans HPP.out hp13
    have HX3 := Lib.hid (HX2.out.later hb3)
    have HR3 := Lib.hid (HR2.out.later hb3)
    have HQ3 := Lib.hid hr3
    have HW3 := Lib.hid (HW2.out.trans (hb3.mono HW2.out.size))
    clear pc pf pl sc sf sl hb3 hp3
    obtain ⟨qc, qf, ql⟩ := hr3
    go_upto_region 3 with (fail)
    have HW5 := Lib.hid ((HW3.out.setCell (p := ⟨p3, 0, none⟩) (Nat.le_of_lt hp03) (.slice none 0 0)).setCell (p := ⟨p3, 1, none⟩) (Nat.le_of_lt hp03) (.int .i64 0))
    have HX5 := Lib.hid ((HX3.out.far (p := ⟨p3, 0, none⟩) (by show w.heap.size ≠ p3; omega) (.slice none 0 0)).far (p := ⟨p3, 1, none⟩) (by show w.heap.size ≠ p3; omega) (.int .i64 0))
    have HR5 := Lib.hid ((HR3.out.far (a := ⟨p3, 0, none⟩) (by show p3 ≠ p1; omega) (.slice none 0 0)).far (a := ⟨p3, 1, none⟩) (by show p3 ≠ p1; omega) (.int .i64 0))
    have HQ5 := Lib.hid (show Row ((w3.setCell ⟨p3, 0, none⟩ (.slice none 0 0)).setCell ⟨p3, 1, none⟩ (.int .i64 0)) p3 #[.slice none 0 0, .int .i64 0] by simpa using (HQ3.out.set 0 (.slice none 0 0)).set 1 (.int .i64 0))
    generalize (w3.setCell ⟨p3, 0, none⟩ (.slice none 0 0)).setCell ⟨p3, 1, none⟩ (.int .i64 0) = W5 at *
    have H5 := Lib.hid (H.out.later HW5.out)
    clear qc qf ql
    obtain ⟨pc, pf, pl⟩ := HR5.out
    obtain ⟨sc, sf, sl⟩ := H5.out.s.row
    obtain ⟨xc, xf, xl⟩ := HX5.out.row
    obtain ⟨qc, qf, ql⟩ := HQ5.out
    go_upto_region 4 with (fail)
    obtain ⟨cnt5, f5, hm5, hf5⟩ := H5.out.best
    have HM5 := Lib.hid hm5
    have HF5 := Lib.hid hf5
    clear hm5 hf5
    refine seq_reg [0, 1, 2, 3, 4, 5, 6] [0, 0, 0, 0, 0, 0, 2] (by kernel_rfl) _ rfl (by kernel_rfl) ?_
    intro wd hwd hwh; clear hwh
    have HWd := Lib.hid hwd
    clear pc pf pl sc sf sl xc xf xl
    obtain ⟨pc, pf, pl⟩ := HR5.out.later hwd
    obtain ⟨sc, sf, sl⟩ := (H5.out.later hwd).s.row
    obtain ⟨xc, xf, xl⟩ := (HX5.out.later hwd).row
    (first | ((with_reducible refine s_read (v := ?_) rfl rfl ?hw (fun w' hC => ?hrun) ?_); (case hw => rfl); (case hrun => (obtain ⟨hq1, hq2⟩ := bcell hC; go_simp; with_reducible rfl)); refine s_norm (a' := ?_) ?_ ?_; rotate_left; (simp only [Act.put, List.getElem_toArray, List.getElem_cons_zero, List.setIfInBounds_toArray, List.set_cons_zero, List.set_cons_succ]; rfl)) | ((with_reducible refine s_skip rfl rfl ?hw ?_); (case hw => rfl); refine s_norm (a' := ?_) ?_ ?_; rotate_left; (simp only [Act.put, List.getElem_toArray, List.getElem_cons_zero, List.setIfInBounds_toArray, List.set_cons_zero, List.set_cons_succ]; rfl)))
    (first | ((with_reducible refine s_read (v := ?_) rfl rfl ?hw (fun w' hC => ?hrun) ?_); (case hw => rfl); (case hrun => (obtain ⟨hq1, hq2⟩ := bcell hC; go_simp; with_reducible rfl)); refine s_norm (a' := ?_) ?_ ?_; rotate_left; (simp only [Act.put, List.getElem_toArray, List.getElem_cons_succ, List.getElem_cons_zero, List.setIfInBounds_toArray, List.set_cons_zero, List.set_cons_succ]; rfl)) | ((with_reducible refine s_skip rfl rfl ?hw ?_); (case hw => rfl); refine s_norm (a' := ?_) ?_ ?_; rotate_left; (simp only [Act.put, List.getElem_toArray, List.getElem_cons_succ, List.getElem_cons_zero, List.setIfInBounds_toArray, List.set_cons_zero, List.set_cons_succ]; rfl)))
    (first | ((with_reducible refine s_read (v := ?_) rfl rfl ?hw (fun w' hC => ?hrun) ?_); (case hw => rfl); (case hrun => (obtain ⟨hq1, hq2⟩ := bcell hC; go_simp; with_reducible rfl)); refine s_norm (a' := ?_) ?_ ?_; rotate_left; (simp only [Act.put, List.getElem_toArray, List.getElem_cons_succ, List.getElem_cons_zero, List.setIfInBounds_toArray, List.set_cons_zero, List.set_cons_succ]; rfl)) | ((with_reducible refine s_skip rfl rfl ?hw ?_); (case hw => rfl); refine s_norm (a' := ?_) ?_ ?_; rotate_left; (simp only [Act.put, List.getElem_toArray, List.getElem_cons_succ, List.getElem_cons_zero, List.setIfInBounds_toArray, List.set_cons_zero, List.set_cons_succ]; rfl)))
    (first | ((with_reducible refine s_read (v := ?_) rfl rfl ?hw (fun w' hC => ?hrun) ?_); (case hw => rfl); (case hrun => (obtain ⟨hq1, hq2⟩ := bcell hC; go_simp; with_reducible rfl)); refine s_norm (a' := ?_) ?_ ?_; rotate_left; (simp only [Act.put, List.getElem_toArray, List.getElem_cons_succ, List.getElem_cons_zero, List.setIfInBounds_toArray, List.set_cons_zero, List.set_cons_succ]; rfl)) | ((with_reducible refine s_skip rfl rfl ?hw ?_); (case hw => rfl); refine s_norm (a' := ?_) ?_ ?_; rotate_left; (simp only [Act.put, List.getElem_toArray, List.getElem_cons_succ, List.getElem_cons_zero, List.setIfInBounds_toArray, List.set_cons_zero, List.set_cons_succ]; rfl)))
    (first | ((with_reducible refine s_read (v := ?_) rfl rfl ?hw (fun w' hC => ?hrun) ?_); (case hw => rfl); (case hrun => (obtain ⟨hq1, hq2⟩ := bcell hC; go_simp; with_reducible rfl)); refine s_norm (a' := ?_) ?_ ?_; rotate_left; (simp only [Act.put, List.getElem_toArray, List.getElem_cons_succ, List.getElem_cons_zero, List.setIfInBounds_toArray, List.set_cons_zero, List.set_cons_succ]; rfl)) | ((with_reducible refine s_skip rfl rfl ?hw ?_); (case hw => rfl); refine s_norm (a' := ?_) ?_ ?_; rotate_left; (simp only [Act.put, List.getElem_toArray, List.getElem_cons_succ, List.getElem_cons_zero, List.setIfInBounds_toArray, List.set_cons_zero, List.set_cons_succ]; rfl)))
    (first | ((with_reducible refine s_read (v := ?_) rfl rfl ?hw (fun w' hC => ?hrun) ?_); (case hw => rfl); (case hrun => (obtain ⟨hq1, hq2⟩ := bcell hC; go_simp; with_reducible rfl)); refine s_norm (a' := ?_) ?_ ?_; rotate_left; (simp only [Act.put, List.getElem_toArray, List.getElem_cons_succ, List.getElem_cons_zero, List.setIfInBounds_toArray, List.set_cons_zero, List.set_cons_succ]; rfl)) | ((with_reducible refine s_skip rfl rfl ?hw ?_); (case hw => rfl); refine s_norm (a' := ?_) ?_ ?_; rotate_left; (simp only [Act.put, List.getElem_toArray, List.getElem_cons_succ, List.getElem_cons_zero, List.setIfInBounds_toArray, List.set_cons_zero, List.set_cons_succ]; rfl)))
    (refine s_map rfl rfl rfl rfl (.tmp 45) (.tmp 46) (.tmp 47) 79 rfl 94 87 keyed94 Try.underlying79 Mb cnt5 f5 rfl (HM5.out.later hwd) (key2 v (L : Int)) (.agg #[.slice (some ⟨b, 0, none⟩) K cc, .int .i64 y]) rfl rfl HKEY.out ?_; intro w6 hmap6 hgr6)
    refine s_nil ?_
    have HL6 := Lib.hid ((H5.out.later HWd.out).put (hh := (L : Int)) (v := v) (HR.out.later (HW5.out.trans (HWd.out.mono HW5.out.size))) HY.out (fun v h => by
      have h3 := HF5.out v h
      cases hB : B (v, h) with
      | none => rw [hB] at h3; exact h3
      | some y =>
        rw [hB] at h3
        obtain ⟨sv', h4, h5⟩ := h3
        exact ⟨sv', h4, h5.later HWd.out⟩) hmap6 hgr6)
    have hfx6 := Fx.grown hgr6
    have HX6 := Lib.hid ((HX5.out.later HWd.out).fx hfx6 ((H5.out.later HWd.out).best.ne_blk (HX5.out.later HWd.out)))
    have HR6 := Lib.hid ((HR5.out.later HWd.out).fx hfx6 (fun e => by have := H.out.best.lt; have := HPP.out; omega))
    have HB6 := Lib.hid (show base ≤ w6.heap.size from Nat.le_trans HBS.out (Nat.le_trans HW5.out.size (Nat.le_trans HWd.out.size hfx6.size)))
    have HF6 := Lib.hid ((Fx.new (HW5.out.trans (HWd.out.mono HW5.out.size)) (fun j => j = Mb)).trans hfx6 (fun _ _ e => e))
    clear hmap6 hgr6 hfx6 pc pf pl sc sf sl xc xf xl qc qf ql hwd
    obtain ⟨pc, pf, pl⟩ := HR6.out
    obtain ⟨sc, sf, sl⟩ := HL6.out.s.row
    obtain ⟨xc, xf, xl⟩ := HX6.out.row
    go_upto_region 5 with (fail)
    refine seq_reg [0, 1, 2, 3, 4, 5, 6, 7, 8, 9, 10, 11] [0, 0, 0, 0, 0, 0, 0, 0, 0, 0, 0, 2] (by kernel_rfl) _ rfl (by kernel_rfl) ?_
    intro wd hwd hwh; clear hwh
    have HWd7 := Lib.hid hwd
    clear pc pf pl sc sf sl xc xf xl
    obtain ⟨pc, pf, pl⟩ := HR6.out.later hwd
    obtain ⟨sc, sf, sl⟩ := (HL6.out.later hwd).s.row
    obtain ⟨xc, xf, xl⟩ := (HX6.out.later hwd).row
    (first | ((with_reducible refine s_read (v := ?_) rfl rfl ?hw (fun w' hC => ?hrun) ?_); (case hw => rfl); (case hrun => (obtain ⟨hq1, hq2⟩ := bcell hC; go_simp; with_reducible rfl)); refine s_norm (a' := ?_) ?_ ?_; rotate_left; (simp only [Act.put, List.getElem_toArray, List.getElem_cons_zero, List.setIfInBounds_toArray, List.set_cons_zero, List.set_cons_succ]; rfl)) | ((with_reducible refine s_skip rfl rfl ?hw ?_); (case hw => rfl); refine s_norm (a' := ?_) ?_ ?_; rotate_left; (simp only [Act.put, List.getElem_toArray, List.getElem_cons_zero, List.setIfInBounds_toArray, List.set_cons_zero, List.set_cons_succ]; rfl)))
    (first | ((with_reducible refine s_read (v := ?_) rfl rfl ?hw (fun w' hC => ?hrun) ?_); (case hw => rfl); (case hrun => (obtain ⟨hq1, hq2⟩ := bcell hC; go_simp; with_reducible rfl)); refine s_norm (a' := ?_) ?_ ?_; rotate_left; (simp only [Act.put, List.getElem_toArray, List.getElem_cons_succ, List.getElem_cons_zero, List.setIfInBounds_toArray, List.set_cons_zero, List.set_cons_succ]; rfl)) | ((with_reducible refine s_skip rfl rfl ?hw ?_); (case hw => rfl); refine s_norm (a' := ?_) ?_ ?_; rotate_left; (simp only [Act.put, List.getElem_toArray, List.getElem_cons_succ, List.getElem_cons_zero, List.setIfInBounds_toArray, List.set_cons_zero, List.set_cons_succ]; rfl)))
    (first | ((with_reducible refine s_read (v := ?_) rfl rfl ?hw (fun w' hC => ?hrun) ?_); (case hw => rfl); (case hrun => (obtain ⟨hq1, hq2⟩ := bcell hC; go_simp; with_reducible rfl)); refine s_norm (a' := ?_) ?_ ?_; rotate_left; (simp only [Act.put, List.getElem_toArray, List.getElem_cons_succ, List.getElem_cons_zero, List.setIfInBounds_toArray, List.set_cons_zero, List.set_cons_succ]; rfl)) | ((with_reducible refine s_skip rfl rfl ?hw ?_); (case hw => rfl); refine s_norm (a' := ?_) ?_ ?_; rotate_left; (simp only [Act.put, List.getElem_toArray, List.getElem_cons_succ, List.getElem_cons_zero, List.setIfInBounds_toArray, List.set_cons_zero, List.set_cons_succ]; rfl)))
    (first | ((with_reducible refine s_read (v := ?_) rfl rfl ?hw (fun w' hC => ?hrun) ?_); (case hw => rfl); (case hrun => (obtain ⟨hq1, hq2⟩ := bcell hC; go_simp; with_reducible rfl)); refine s_norm (a' := ?_) ?_ ?_; rotate_left; (simp only [Act.put, List.getElem_toArray, List.getElem_cons_succ, List.getElem_cons_zero, List.setIfInBounds_toArray, List.set_cons_zero, List.set_cons_succ]; rfl)) | ((with_reducible refine s_skip rfl rfl ?hw ?_); (case hw => rfl); refine s_norm (a' := ?_) ?_ ?_; rotate_left; (simp only [Act.put, List.getElem_toArray, List.getElem_cons_succ, List.getElem_cons_zero, List.setIfInBounds_toArray, List.set_cons_zero, List.set_cons_succ]; rfl)))
    (first | ((with_reducible refine s_read (v := ?_) rfl rfl ?hw (fun w' hC => ?hrun) ?_); (case hw => rfl); (case hrun => (obtain ⟨hq1, hq2⟩ := bcell hC; go_simp; with_reducible rfl)); refine s_norm (a' := ?_) ?_ ?_; rotate_left; (simp only [Act.put, List.getElem_toArray, List.getElem_cons_succ, List.getElem_cons_zero, List.setIfInBounds_toArray, List.set_cons_zero, List.set_cons_succ]; rfl)) | ((with_reducible refine s_skip rfl rfl ?hw ?_); (case hw => rfl); refine s_norm (a' := ?_) ?_ ?_; rotate_left; (simp only [Act.put, List.getElem_toArray, List.getElem_cons_succ, List.getElem_cons_zero, List.setIfInBounds_toArray, List.set_cons_zero, List.set_cons_succ]; rfl)))
    (first | ((with_reducible refine s_read (v := ?_) rfl rfl ?hw (fun w' hC => ?hrun) ?_); (case hw => rfl); (case hrun => (obtain ⟨hq1, hq2⟩ := bcell hC; go_simp; with_reducible rfl)); refine s_norm (a' := ?_) ?_ ?_; rotate_left; (simp only [Act.put, List.getElem_toArray, List.getElem_cons_succ, List.getElem_cons_zero, List.setIfInBounds_toArray, List.set_cons_zero, List.set_cons_succ]; rfl)) | ((with_reducible refine s_skip rfl rfl ?hw ?_); (case hw => rfl); refine s_norm (a' := ?_) ?_ ?_; rotate_left; (simp only [Act.put, List.getElem_toArray, List.getElem_cons_succ, List.getElem_cons_zero, List.setIfInBounds_toArray, List.set_cons_zero, List.set_cons_succ]; rfl)))
    (first | ((with_reducible refine s_read (v := ?_) rfl rfl ?hw (fun w' hC => ?hrun) ?_); (case hw => rfl); (case hrun => (obtain ⟨hq1, hq2⟩ := bcell hC; go_simp; with_reducible rfl)); refine s_norm (a' := ?_) ?_ ?_; rotate_left; (simp only [Act.put, List.getElem_toArray, List.getElem_cons_succ, List.getElem_cons_zero, List.setIfInBounds_toArray, List.set_cons_zero, List.set_cons_succ]; rfl)) | ((with_reducible refine s_skip rfl rfl ?hw ?_); (case hw => rfl); refine s_norm (a' := ?_) ?_ ?_; rotate_left; (simp only [Act.put, List.getElem_toArray, List.getElem_cons_succ, List.getElem_cons_zero, List.setIfInBounds_toArray, List.set_cons_zero, List.set_cons_succ]; rfl)))
    (first | ((with_reducible refine s_read (v := ?_) rfl rfl ?hw (fun w' hC => ?hrun) ?_); (case hw => rfl); (case hrun => (obtain ⟨hq1, hq2⟩ := bcell hC; go_simp; with_reducible rfl)); refine s_norm (a' := ?_) ?_ ?_; rotate_left; (simp only [Act.put, List.getElem_toArray, List.getElem_cons_succ, List.getElem_cons_zero, List.setIfInBounds_toArray, List.set_cons_zero, List.set_cons_succ]; rfl)) | ((with_reducible refine s_skip rfl rfl ?hw ?_); (case hw => rfl); refine s_norm (a' := ?_) ?_ ?_; rotate_left; (simp only [Act.put, List.getElem_toArray, List.getElem_cons_succ, List.getElem_cons_zero, List.setIfInBounds_toArray, List.set_cons_zero, List.set_cons_succ]; rfl)))
    (first | ((with_reducible refine s_read (v := ?_) rfl rfl ?hw (fun w' hC => ?hrun) ?_); (case hw => rfl); (case hrun => (obtain ⟨hq1, hq2⟩ := bcell hC; go_simp; with_reducible rfl)); refine s_norm (a' := ?_) ?_ ?_; rotate_left; (simp only [Act.put, List.getElem_toArray, List.getElem_cons_succ, List.getElem_cons_zero, List.setIfInBounds_toArray, List.set_cons_zero, List.set_cons_succ]; rfl)) | ((with_reducible refine s_skip rfl rfl ?hw ?_); (case hw => rfl); refine s_norm (a' := ?_) ?_ ?_; rotate_left; (simp only [Act.put, List.getElem_toArray, List.getElem_cons_succ, List.getElem_cons_zero, List.setIfInBounds_toArray, List.set_cons_zero, List.set_cons_succ]; rfl)))
    (first | ((with_reducible refine s_read (v := ?_) rfl rfl ?hw (fun w' hC => ?hrun) ?_); (case hw => rfl); (case hrun => (obtain ⟨hq1, hq2⟩ := bcell hC; go_simp; with_reducible rfl)); refine s_norm (a' := ?_) ?_ ?_; rotate_left; (simp only [Act.put, List.getElem_toArray, List.getElem_cons_succ, List.getElem_cons_zero, List.setIfInBounds_toArray, List.set_cons_zero, List.set_cons_succ]; rfl)) | ((with_reducible refine s_skip rfl rfl ?hw ?_); (case hw => rfl); refine s_norm (a' := ?_) ?_ ?_; rotate_left; (simp only [Act.put, List.getElem_toArray, List.getElem_cons_succ, List.getElem_cons_zero, List.setIfInBounds_toArray, List.set_cons_zero, List.set_cons_succ]; rfl)))
    (first | ((with_reducible refine s_read (v := ?_) rfl rfl ?hw (fun w' hC => ?hrun) ?_); (case hw => rfl); (case hrun => (obtain ⟨hq1, hq2⟩ := bcell hC; go_simp; with_reducible rfl)); refine s_norm (a' := ?_) ?_ ?_; rotate_left; (simp only [Act.put, List.getElem_toArray, List.getElem_cons_succ, List.getElem_cons_zero, List.setIfInBounds_toArray, List.set_cons_zero, List.set_cons_succ]; rfl)) | ((with_reducible refine s_skip rfl rfl ?hw ?_); (case hw => rfl); refine s_norm (a' := ?_) ?_ ?_; rotate_left; (simp only [Act.put, List.getElem_toArray, List.getElem_cons_succ, List.getElem_cons_zero, List.setIfInBounds_toArray, List.set_cons_zero, List.set_cons_succ]; rfl)))
    (refine s_do_call (f := 42) (R := fun u w' => PushPost wd base Q qv k d ⟨y, (L : Int), v⟩ (.returned u) w') ((QPush_calls wd base Q k qv d ⟨y, (L : Int), v⟩ (HL6.out.later hwd).q HK.out (Nat.le_trans HB6.out hwd.size)).mono fun e w' h => ⟨.int .i64 0, h.1, by have h1 := h.1; subst h1; exact h⟩) (fn := _) Try.func42 (by kernel_rfl) rfl rfl rfl rfl ?hw ?hargs ?_; (case hw => rfl); (case hargs => (simp only [List.map_toArray, List.map_cons, List.map_nil]; rfl)); (intro u9 w9 hp9); refine s_norm (a' := ?_) ?_ ?_; rotate_left; (simp only [Act.put, List.getElem_toArray, List.getElem_cons_succ, List.getElem_cons_zero, List.setIfInBounds_toArray, List.set_cons_zero, List.set_cons_succ]; rfl))
    refine s_nil ?_
    obtain ⟨_, v9, d9, hq9, hm9, hfr9, ho9⟩ := hp9
    have HFIN := Lib.hid (loffer_put (HL6.out.later HWd7.out) (HF6.out.trans (Fx.new HWd7.out fun _ => False) (fun _ _ e => e.elim)) hq9 hm9 hfr9 ho9 (fun l' c' e => by rw [HBB.out] at e; cases e))
    clear hq9 hm9 hfr9 ho9 pc pf pl sc sf sl xc xf xl
    go_wp2
    go_end0
    exact HFIN.out

  | some yb =>
    obtain ⟨l2, y2⟩ := yb
    rw [hB] at hfk
    obtain ⟨sv2, hfk2, hr2⟩ := hfk
    obtain ⟨A2, c2, rfl, hst2⟩ := hr2.strip
    obtain ⟨L2, hL2⟩ : ∃ L2, l2.length = L2 := ⟨_, rfl⟩
    simp only [hL2] at hfk2
    have HL2 := Lib.hid hL2
    have HST2 := Lib.hid hst2
    have HFK := Lib.hid hfk2
    have HBB := Lib.hid hB
    clear hfk2 hB hr2 hst2 hL2
    (refine reg1 [0,0,0,0,0,0,0,0,2,1] 9 5 _ #[.slice none 0 0, .int .i64 0] (by kernel_rfl) _ rfl (by kernel_rfl) ?hlen rfl rfl rfl ⟨rfl, fun ρ w => ⟨87, by kernel_rfl⟩⟩ ?hQ ?_; (case hlen => decide); (case hQ => (intro c a o v w h; cases o <;> exact h)); (repeat (first | ((refine p_pure (v := _) ?hw (fun w' hC => look_yes (.tmp 24) (.tmp 25) 79 rfl 94 87 keyed94 Try.underlying79 Mb cnt f _ (zero87 w') rfl (HM.out.later hC) (key2 v (L : Int)) rfl HKEY.out (.agg #[.slice A2 L2 c2, .int .i64 y2]) HFK.out) ?_); (case hw => rfl); refine p_norm (a' := ?_) ?_ ?_; rotate_left; (simp only [Act.put, List.setIfInBounds_toArray, List.set_cons_zero, List.set_cons_succ]; rfl)) | (with_reducible refine p_fresh ?_) | ((with_reducible refine p_pure (v := ?_) ?hw (fun w' hC => ?hrun) ?_); (case hw => rfl); (case hrun => (obtain ⟨hq1, hq2⟩ := bcell hC; go_simp; with_reducible rfl)); refine p_norm (a' := ?_) ?_ ?_; rotate_left; (simp only [Act.put, List.setIfInBounds_toArray, List.set_cons_zero, List.set_cons_succ]; rfl)) | ((with_reducible refine p_late (v := ?_) ?hw (fun w' => ?hrun) ?_); (case hw => rfl); (case hrun => (go_simp; with_reducible rfl)); refine p_norm (a' := ?_) ?_ ?_; rotate_left; (simp only [Act.put, List.setIfInBounds_toArray, List.set_cons_zero, List.set_cons_succ]; rfl)) | ((with_reducible refine p_skip ?hw ?_); (case hw => rfl); refine p_norm (a' := ?_) ?_ ?_; rotate_left; (simp only [Act.put, List.setIfInBounds_toArray, List.set_cons_zero, List.set_cons_succ]; rfl)) | ((with_reducible refine p_lateskip ?hw ?_); (case hw => rfl); refine p_norm (a' := ?_) ?_ ?_; rotate_left; (simp only [Act.put, List.setIfInBounds_toArray, List.set_cons_zero, List.set_cons_succ]; rfl)) )); with_reducible refine p_nil ?_; intro w3 p3 hb3 hp3 hr3; simp only [List.length_cons, List.length_nil, Nat.reduceAdd, List.drop_succ_cons, List.drop_zero, Act.put, List.setIfInBounds_toArray, List.set_cons_zero, List.set_cons_succ])
    have HW23 := Lib.hid hb3
    have hp13 : p1 < p3 := Nat.lt_of_lt_of_le HR2.out.2.2 hp3
    have hp03 : w.heap.size < p3 := Nat.lt_trans HPP.out hp13
    have HX3 := Lib.hid (HX2.out.later hb3)
    have HR3 := Lib.hid (HR2.out.later hb3)
    have HQ3 := Lib.hid hr3
    have HW3 := Lib.hid (HW2.out.trans (hb3.mono HW2.out.size))
    have HP3 := Lib.hid hp3
    clear pc pf pl sc sf sl hb3 hp3
    obtain ⟨qc, qf, ql⟩ := hr3
    go_upto_region 3 with (fail)
    have HW5 := Lib.hid ((HW3.out.setCell (p := ⟨p3, 0, none⟩) (Nat.le_of_lt hp03) (.slice A2 L2 c2)).setCell (p := ⟨p3, 1, none⟩) (Nat.le_of_lt hp03) (.int .i64 y2))
    have HX5 := Lib.hid ((HX3.out.far (p := ⟨p3, 0, none⟩) (by show w.heap.size ≠ p3; omega) (.slice A2 L2 c2)).far (p := ⟨p3, 1, none⟩) (by show w.heap.size ≠ p3; omega) (.int .i64 y2))
    have HR5 := Lib.hid ((HR3.out.far (a := ⟨p3, 0, none⟩) (by show p3 ≠ p1; omega) (.slice A2 L2 c2)).far (a := ⟨p3, 1, none⟩) (by show p3 ≠ p1; omega) (.int .i64 y2))
    have HQ5 := Lib.hid (show Row ((w3.setCell ⟨p3, 0, none⟩ (.slice A2 L2 c2)).setCell ⟨p3, 1, none⟩ (.int .i64 y2)) p3 #[.slice A2 L2 c2, .int .i64 y2] by simpa using (HQ3.out.set 0 (.slice A2 L2 c2)).set 1 (.int .i64 y2))
    have HW35 := Lib.hid ((((HW23.out.setCell (p := ⟨p3, 0, none⟩) (show W2.heap.size ≤ p3 from HP3.out) (.slice A2 L2 c2))).setCell (p := ⟨p3, 1, none⟩) HP3.out (.int .i64 y2)))
    generalize (w3.setCell ⟨p3, 0, none⟩ (.slice A2 L2 c2)).setCell ⟨p3, 1, none⟩ (.int .i64 y2) = W5 at *
    have H5 := Lib.hid (H.out.later HW5.out)
    clear qc qf ql
    obtain ⟨pc, pf, pl⟩ := HR5.out
    obtain ⟨sc, sf, sl⟩ := H5.out.s.row
    obtain ⟨xc, xf, xl⟩ := HX5.out.row
    obtain ⟨qc, qf, ql⟩ := HQ5.out

    have HC := Lib.hid (show Calls Try.prog 31 #[.int .i64 y, .slice (some ⟨b, 0, none⟩) K cc, .int .i64 y2, .slice A2 L2 c2] W5 fun e w' => e = .returned (.bool (betB y l.length (nth l) y2 l2.length (nth l2))) ∧ w' = W5 from by
      have hs2 : Strip W5 A2 l2.length 1 (intRow (nth l2)) := HST2.out.below HW35.out
      obtain ⟨A', c', e1, hs1⟩ := (HR.out.later HW5.out).strip
      injection e1 with e1 e2 e3
      subst e1
      have h := Better_same W5 y y2 _ A2 l.length l2.length cc c2 (nth l) (nth l2) (by have := HKL.out; omega) hs1 hs2
      rw [HKL.out.1, HL2.out] at h ⊢
      exact h)
    by_cases hbet : Bet y l y2 l2
    · rw [(bet_iff y l y2 l2).2 hbet] at HC
      have HBET := Lib.hid hbet
      clear hbet
      go_upto_region 4 with (go_at_call 31; (with_reducible refine HC.out.mono ?_); rintro e w4 ⟨rfl, rfl⟩)
      obtain ⟨cnt5, f5, hm5, hf5⟩ := H5.out.best
      have HM5 := Lib.hid hm5
      have HF5 := Lib.hid hf5
      clear hm5 hf5
      refine seq_reg [0, 1, 2, 3, 4, 5, 6] [0, 0, 0, 0, 0, 0, 2] (by kernel_rfl) _ rfl (by kernel_rfl) ?_
      intro wd hwd hwh; clear hwh
      have HWd := Lib.hid hwd
      clear pc pf pl sc sf sl xc xf xl
      obtain ⟨pc, pf, pl⟩ := HR5.out.later hwd
      obtain ⟨sc, sf, sl⟩ := (H5.out.later hwd).s.row
      obtain ⟨xc, xf, xl⟩ := (HX5.out.later hwd).row
      (first | ((with_reducible refine s_read (v := ?_) rfl rfl ?hw (fun w' hC => ?hrun) ?_); (case hw => rfl); (case hrun => (obtain ⟨hq1, hq2⟩ := bcell hC; go_simp; with_reducible rfl)); refine s_norm (a' := ?_) ?_ ?_; rotate_left; (simp only [Act.put, List.getElem_toArray, List.getElem_cons_zero, List.setIfInBounds_toArray, List.set_cons_zero, List.set_cons_succ]; rfl)) | ((with_reducible refine s_skip rfl rfl ?hw ?_); (case hw => rfl); refine s_norm (a' := ?_) ?_ ?_; rotate_left; (simp only [Act.put, List.getElem_toArray, List.getElem_cons_zero, List.setIfInBounds_toArray, List.set_cons_zero, List.set_cons_succ]; rfl)))
      (first | ((with_reducible refine s_read (v := ?_) rfl rfl ?hw (fun w' hC => ?hrun) ?_); (case hw => rfl); (case hrun => (obtain ⟨hq1, hq2⟩ := bcell hC; go_simp; with_reducible rfl)); refine s_norm (a' := ?_) ?_ ?_; rotate_left; (simp only [Act.put, List.getElem_toArray, List.getElem_cons_succ, List.getElem_cons_zero, List.setIfInBounds_toArray, List.set_cons_zero, List.set_cons_succ]; rfl)) | ((with_reducible refine s_skip rfl rfl ?hw ?_); (case hw => rfl); refine s_norm (a' := ?_) ?_ ?_; rotate_left; (simp only [Act.put, List.getElem_toArray, List.getElem_cons_succ, List.getElem_cons_zero, List.setIfInBounds_toArray, List.set_cons_zero, List.set_cons_succ]; rfl)))
      (first | ((with_reducible refine s_read (v := ?_) rfl rfl ?hw (fun w' hC => ?hrun) ?_); (case hw => rfl); (case hrun => (obtain ⟨hq1, hq2⟩ := bcell hC; go_simp; with_reducible rfl)); refine s_norm (a' := ?_) ?_ ?_; rotate_left; (simp only [Act.put, List.getElem_toArray, List.getElem_cons_succ, List.getElem_cons_zero, List.setIfInBounds_toArray, List.set_cons_zero, List.set_cons_succ]; rfl)) | ((with_reducible refine s_skip rfl rfl ?hw ?_); (case hw => rfl); refine s_norm (a' := ?_) ?_ ?_; rotate_left; (simp only [Act.put, List.getElem_toArray, List.getElem_cons_succ, List.getElem_cons_zero, List.setIfInBounds_toArray, List.set_cons_zero, List.set_cons_succ]; rfl)))
      (first | ((with_reducible refine s_read (v := ?_) rfl rfl ?hw (fun w' hC => ?hrun) ?_); (case hw => rfl); (case hrun => (obtain ⟨hq1, hq2⟩ := bcell hC; go_simp; with_reducible rfl)); refine s_norm (a' := ?_) ?_ ?_; rotate_left; (simp only [Act.put, List.getElem_toArray, List.getElem_cons_succ, List.getElem_cons_zero, List.setIfInBounds_toArray, List.set_cons_zero, List.set_cons_succ]; rfl)) | ((with_reducible refine s_skip rfl rfl ?hw ?_); (case hw => rfl); refine s_norm (a' := ?_) ?_ ?_; rotate_left; (simp only [Act.put, List.getElem_toArray, List.getElem_cons_succ, List.getElem_cons_zero, List.setIfInBounds_toArray, List.set_cons_zero, List.set_cons_succ]; rfl)))
      (first | ((with_reducible refine s_read (v := ?_) rfl rfl ?hw (fun w' hC => ?hrun) ?_); (case hw => rfl); (case hrun => (obtain ⟨hq1, hq2⟩ := bcell hC; go_simp; with_reducible rfl)); refine s_norm (a' := ?_) ?_ ?_; rotate_left; (simp only [Act.put, List.getElem_toArray, List.getElem_cons_succ, List.getElem_cons_zero, List.setIfInBounds_toArray, List.set_cons_zero, List.set_cons_succ]; rfl)) | ((with_reducible refine s_skip rfl rfl ?hw ?_); (case hw => rfl); refine s_norm (a' := ?_) ?_ ?_; rotate_left; (simp only [Act.put, List.getElem_toArray, List.getElem_cons_succ, List.getElem_cons_zero, List.setIfInBounds_toArray, List.set_cons_zero, List.set_cons_succ]; rfl)))
      (first | ((with_reducible refine s_read (v := ?_) rfl rfl ?hw (fun w' hC => ?hrun) ?_); (case hw => rfl); (case hrun => (obtain ⟨hq1, hq2⟩ := bcell hC; go_simp; with_reducible rfl)); refine s_norm (a' := ?_) ?_ ?_; rotate_left; (simp only [Act.put, List.getElem_toArray, List.getElem_cons_succ, List.getElem_cons_zero, List.setIfInBounds_toArray, List.set_cons_zero, List.set_cons_succ]; rfl)) | ((with_reducible refine s_skip rfl rfl ?hw ?_); (case hw => rfl); refine s_norm (a' := ?_) ?_ ?_; rotate_left; (simp only [Act.put, List.getElem_toArray, List.getElem_cons_succ, List.getElem_cons_zero, List.setIfInBounds_toArray, List.set_cons_zero, List.set_cons_succ]; rfl)))
      (refine s_map rfl rfl rfl rfl (.tmp 45) (.tmp 46) (.tmp 47) 79 rfl 94 87 keyed94 Try.underlying79 Mb cnt5 f5 rfl (HM5.out.later hwd) (key2 v (L : Int)) (.agg #[.slice (some ⟨b, 0, none⟩) K cc, .int .i64 y]) rfl rfl HKEY.out ?_; intro w6 hmap6 hgr6)
      refine s_nil ?_
      have HL6 := Lib.hid ((H5.out.later HWd.out).put (hh := (L : Int)) (v := v) (HR.out.later (HW5.out.trans (HWd.out.mono HW5.out.size))) HY.out (fun v h => by
        have h3 := HF5.out v h
        cases hB : B (v, h) with
        | none => rw [hB] at h3; exact h3
        | some y =>
          rw [hB] at h3
          obtain ⟨sv', h4, h5⟩ := h3
          exact ⟨sv', h4, h5.later HWd.out⟩) hmap6 hgr6)
      have hfx6 := Fx.grown hgr6
      have HX6 := Lib.hid ((HX5.out.later HWd.out).fx hfx6 ((H5.out.later HWd.out).best.ne_blk (HX5.out.later HWd.out)))
      have HR6 := Lib.hid ((HR5.out.later HWd.out).fx hfx6 (fun e => by have := H.out.best.lt; have := HPP.out; omega))
      have HB6 := Lib.hid (show base ≤ w6.heap.size from Nat.le_trans HBS.out (Nat.le_trans HW5.out.size (Nat.le_trans HWd.out.size hfx6.size)))
      have HF6 := Lib.hid ((Fx.new (HW5.out.trans (HWd.out.mono HW5.out.size)) (fun j => j = Mb)).trans hfx6 (fun _ _ e => e))
      clear hmap6 hgr6 hfx6 pc pf pl sc sf sl xc xf xl qc qf ql hwd
      obtain ⟨pc, pf, pl⟩ := HR6.out
      obtain ⟨sc, sf, sl⟩ := HL6.out.s.row
      obtain ⟨xc, xf, xl⟩ := HX6.out.row
      go_upto_region 5 with (fail)
      refine seq_reg [0, 1, 2, 3, 4, 5, 6, 7, 8, 9, 10, 11] [0, 0, 0, 0, 0, 0, 0, 0, 0, 0, 0, 2] (by kernel_rfl) _ rfl (by kernel_rfl) ?_
      intro wd hwd hwh; clear hwh
      have HWd7 := Lib.hid hwd
      clear pc pf pl sc sf sl xc xf xl
      obtain ⟨pc, pf, pl⟩ := HR6.out.later hwd
      obtain ⟨sc, sf, sl⟩ := (HL6.out.later hwd).s.row
      obtain ⟨xc, xf, xl⟩ := (HX6.out.later hwd).row
      (first | ((with_reducible refine s_read (v := ?_) rfl rfl ?hw (fun w' hC => ?hrun) ?_); (case hw => rfl); (case hrun => (obtain ⟨hq1, hq2⟩ := bcell hC; go_simp; with_reducible rfl)); refine s_norm (a' := ?_) ?_ ?_; rotate_left; (simp only [Act.put, List.getElem_toArray, List.getElem_cons_zero, List.setIfInBounds_toArray, List.set_cons_zero, List.set_cons_succ]; rfl)) | ((with_reducible refine s_skip rfl rfl ?hw ?_); (case hw => rfl); refine s_norm (a' := ?_) ?_ ?_; rotate_left; (simp only [Act.put, List.getElem_toArray, List.getElem_cons_zero, List.setIfInBounds_toArray, List.set_cons_zero, List.set_cons_succ]; rfl)))
      (first | ((with_reducible refine s_read (v := ?_) rfl rfl ?hw (fun w' hC => ?hrun) ?_); (case hw => rfl); (case hrun => (obtain ⟨hq1, hq2⟩ := bcell hC; go_simp; with_reducible rfl)); refine s_norm (a' := ?_) ?_ ?_; rotate_left; (simp only [Act.put, List.getElem_toArray, List.getElem_cons_succ, List.getElem_cons_zero, List.setIfInBounds_toArray, List.set_cons_zero, List.set_cons_succ]; rfl)) | ((with_reducible refine s_skip rfl rfl ?hw ?_); (case hw => rfl); refine s_norm (a' := ?_) ?_ ?_; rotate_left; (simp only [Act.put, List.getElem_toArray, List.getElem_cons_succ, List.getElem_cons_zero, List.setIfInBounds_toArray, List.set_cons_zero, List.set_cons_succ]; rfl)))
      (first | ((with_reducible refine s_read (v := ?_) rfl rfl ?hw (fun w' hC => ?hrun) ?_); (case hw => rfl); (case hrun => (obtain ⟨hq1, hq2⟩ := bcell hC; go_simp; with_reducible rfl)); refine s_norm (a' := ?_) ?_ ?_; rotate_left; (simp only [Act.put, List.getElem_toArray, List.getElem_cons_succ, List.getElem_cons_zero, List.setIfInBounds_toArray, List.set_cons_zero, List.set_cons_succ]; rfl)) | ((with_reducible refine s_skip rfl rfl ?hw ?_); (case hw => rfl); refine s_norm (a' := ?_) ?_ ?_; rotate_left; (simp only [Act.put, List.getElem_toArray, List.getElem_cons_succ, List.getElem_cons_zero, List.setIfInBounds_toArray, List.set_cons_zero, List.set_cons_succ]; rfl)))
      (first | ((with_reducible refine s_read (v := ?_) rfl rfl ?hw (fun w' hC => ?hrun) ?_); (case hw => rfl); (case hrun => (obtain ⟨hq1, hq2⟩ := bcell hC; go_simp; with_reducible rfl)); refine s_norm (a' := ?_) ?_ ?_; rotate_left; (simp only [Act.put, List.getElem_toArray, List.getElem_cons_succ, List.getElem_cons_zero, List.setIfInBounds_toArray, List.set_cons_zero, List.set_cons_succ]; rfl)) | ((with_reducible refine s_skip rfl rfl ?hw ?_); (case hw => rfl); refine s_norm (a' := ?_) ?_ ?_; rotate_left; (simp only [Act.put, List.getElem_toArray, List.getElem_cons_succ, List.getElem_cons_zero, List.setIfInBounds_toArray, List.set_cons_zero, List.set_cons_succ]; rfl)))
      (first | ((with_reducible refine s_read (v := ?_) rfl rfl ?hw (fun w' hC => ?hrun) ?_); (case hw => rfl); (case hrun => (obtain ⟨hq1, hq2⟩ := bcell hC; go_simp; with_reducible rfl)); refine s_norm (a' := ?_) ?_ ?_; rotate_left; (simp only [Act.put, List.getElem_toArray, List.getElem_cons_succ, List.getElem_cons_zero, List.setIfInBounds_toArray, List.set_cons_zero, List.set_cons_succ]; rfl)) | ((with_reducible refine s_skip rfl rfl ?hw ?_); (case hw => rfl); refine s_norm (a' := ?_) ?_ ?_; rotate_left; (simp only [Act.put, List.getElem_toArray, List.getElem_cons_succ, List.getElem_cons_zero, List.setIfInBounds_toArray, List.set_cons_zero, List.set_cons_succ]; rfl)))
      (first | ((with_reducible refine s_read (v := ?_) rfl rfl ?hw (fun w' hC => ?hrun) ?_); (case hw => rfl); (case hrun => (obtain ⟨hq1, hq2⟩ := bcell hC; go_simp; with_reducible rfl)); refine s_norm (a' := ?_) ?_ ?_; rotate_left; (simp only [Act.put, List.getElem_toArray, List.getElem_cons_succ, List.getElem_cons_zero, List.setIfInBounds_toArray, List.set_cons_zero, List.set_cons_succ]; rfl)) | ((with_reducible refine s_skip rfl rfl ?hw ?_); (case hw => rfl); refine s_norm (a' := ?_) ?_ ?_; rotate_left; (simp only [Act.put, List.getElem_toArray, List.getElem_cons_succ, List.getElem_cons_zero, List.setIfInBounds_toArray, List.set_cons_zero, List.set_cons_succ]; rfl)))
      (first | ((with_reducible refine s_read (v := ?_) rfl rfl ?hw (fun w' hC => ?hrun) ?_); (case hw => rfl); (case hrun => (obtain ⟨hq1, hq2⟩ := bcell hC; go_simp; with_reducible rfl)); refine s_norm (a' := ?_) ?_ ?_; rotate_left; (simp only [Act.put, List.getElem_toArray, List.getElem_cons_succ, List.getElem_cons_zero, List.setIfInBounds_toArray, List.set_cons_zero, List.set_cons_succ]; rfl)) | ((with_reducible refine s_skip rfl rfl ?hw ?_); (case hw => rfl); refine s_norm (a' := ?_) ?_ ?_; rotate_left; (simp only [Act.put, List.getElem_toArray, List.getElem_cons_succ, List.getElem_cons_zero, List.setIfInBounds_toArray, List.set_cons_zero, List.set_cons_succ]; rfl)))
      (first | ((with_reducible refine s_read (v := ?_) rfl rfl ?hw (fun w' hC => ?hrun) ?_); (case hw => rfl); (case hrun => (obtain ⟨hq1, hq2⟩ := bcell hC; go_simp; with_reducible rfl)); refine s_norm (a' := ?_) ?_ ?_; rotate_left; (simp only [Act.put, List.getElem_toArray, List.getElem_cons_succ, List.getElem_cons_zero, List.setIfInBounds_toArray, List.set_cons_zero, List.set_cons_succ]; rfl)) | ((with_reducible refine s_skip rfl rfl ?hw ?_); (case hw => rfl); refine s_norm (a' := ?_) ?_ ?_; rotate_left; (simp only [Act.put, List.getElem_toArray, List.getElem_cons_succ, List.getElem_cons_zero, List.setIfInBounds_toArray, List.set_cons_zero, List.set_cons_succ]; rfl)))
      (first | ((with_reducible refine s_read (v := ?_) rfl rfl ?hw (fun w' hC => ?hrun) ?_); (case hw => rfl); (case hrun => (obtain ⟨hq1, hq2⟩ := bcell hC; go_simp; with_reducible rfl)); refine s_norm (a' := ?_) ?_ ?_; rotate_left; (simp only [Act.put, List.getElem_toArray, List.getElem_cons_succ, List.getElem_cons_zero, List.setIfInBounds_toArray, List.set_cons_zero, List.set_cons_succ]; rfl)) | ((with_reducible refine s_skip rfl rfl ?hw ?_); (case hw => rfl); refine s_norm (a' := ?_) ?_ ?_; rotate_left; (simp only [Act.put, List.getElem_toArray, List.getElem_cons_succ, List.getElem_cons_zero, List.setIfInBounds_toArray, List.set_cons_zero, List.set_cons_succ]; rfl)))
      (first | ((with_reducible refine s_read (v := ?_) rfl rfl ?hw (fun w' hC => ?hrun) ?_); (case hw => rfl); (case hrun => (obtain ⟨hq1, hq2⟩ := bcell hC; go_simp; with_reducible rfl)); refine s_norm (a' := ?_) ?_ ?_; rotate_left; (simp only [Act.put, List.getElem_toArray, List.getElem_cons_succ, List.getElem_cons_zero, List.setIfInBounds_toArray, List.set_cons_zero, List.set_cons_succ]; rfl)) | ((with_reducible refine s_skip rfl rfl ?hw ?_); (case hw => rfl); refine s_norm (a' := ?_) ?_ ?_; rotate_left; (simp only [Act.put, List.getElem_toArray, List.getElem_cons_succ, List.getElem_cons_zero, List.setIfInBounds_toArray, List.set_cons_zero, List.set_cons_succ]; rfl)))
      (first | ((with_reducible refine s_read (v := ?_) rfl rfl ?hw (fun w' hC => ?hrun) ?_); (case hw => rfl); (case hrun => (obtain ⟨hq1, hq2⟩ := bcell hC; go_simp; with_reducible rfl)); refine s_norm (a' := ?_) ?_ ?_; rotate_left; (simp only [Act.put, List.getElem_toArray, List.getElem_cons_succ, List.getElem_cons_zero, List.setIfInBounds_toArray, List.set_cons_zero, List.set_cons_succ]; rfl)) | ((with_reducible refine s_skip rfl rfl ?hw ?_); (case hw => rfl); refine s_norm (a' := ?_) ?_ ?_; rotate_left; (simp only [Act.put, List.getElem_toArray, List.getElem_cons_succ, List.getElem_cons_zero, List.setIfInBounds_toArray, List.set_cons_zero, List.set_cons_succ]; rfl)))
      (refine s_do_call (f := 42) (R := fun u w' => PushPost wd base Q qv k d ⟨y, (L : Int), v⟩ (.returned u) w') ((QPush_calls wd base Q k qv d ⟨y, (L : Int), v⟩ (HL6.out.later hwd).q HK.out (Nat.le_trans HB6.out hwd.size)).mono fun e w' h => ⟨.int .i64 0, h.1, by have h1 := h.1; subst h1; exact h⟩) (fn := _) Try.func42 (by kernel_rfl) rfl rfl rfl rfl ?hw ?hargs ?_; (case hw => rfl); (case hargs => (simp only [List.map_toArray, List.map_cons, List.map_nil]; rfl)); (intro u9 w9 hp9); refine s_norm (a' := ?_) ?_ ?_; rotate_left; (simp only [Act.put, List.getElem_toArray, List.getElem_cons_succ, List.getElem_cons_zero, List.setIfInBounds_toArray, List.set_cons_zero, List.set_cons_succ]; rfl))
      refine s_nil ?_
      obtain ⟨_, v9, d9, hq9, hm9, hfr9, ho9⟩ := hp9
      have HFIN := Lib.hid (loffer_put (HL6.out.later HWd7.out) (HF6.out.trans (Fx.new HWd7.out fun _ => False) (fun _ _ e => e.elim)) hq9 hm9 hfr9 ho9 (fun l' c' e => by rw [HBB.out] at e; injection e with e; injection e with e1 e2; subst e1 e2; exact HBET.out))
      clear hq9 hm9 hfr9 ho9 pc pf pl sc sf sl xc xf xl
      go_wp2
      go_end0
      exact HFIN.out

    · rw [Bool.eq_false_iff.2 (fun e => hbet ((bet_iff y l y2 l2).1 e))] at HC
      have HBET := Lib.hid hbet
      clear hbet
      go_wp2_with (go_at_call 31; (with_reducible refine HC.out.mono ?_); rintro e w4 ⟨rfl, rfl⟩)
      go_end0
      exact loffer_skip H.out HW5.out ⟨l2, y2, HBB.out, HBET.out⟩
end Go.Proofs.Yteaipeejhippiaa
