/- The same advert, and the same question. -/
import Derived.Test.YtmomndeknpochaaOut
import Derived.Test.YtmomndeknpochaaRFits
namespace Go.Proofs.Ytmomndeknpochaa
open Go.RowKit Plain
attribute [local go_sem] cell_set_self

set_option maxHeartbeats 4000000 in
theorem Theirs_calls (x : Adv) (w : World) : Calls Try.prog 9 #[.agg #[.int .i64 x.src, .int .i64 x.dst, .int .u64 x.cap, .int .i64 x.metric, .int .u32 x.groups, .int .i64 x.seq, .bool x.up, .int .u64 (x.free 0), .int .u64 (x.free 1), .int .u64 (x.free 2), .int .u64 (x.free 3), .int .u64 (x.free 4), .int .u64 (x.free 5), .int .u64 (x.free 6), .int .u64 (x.free 7)]] w fun e w' => e = .returned (.agg #[.int .i64 x.src, .int .i64 x.dst, .int .u64 x.cap, .int .i64 x.metric, .int .u32 x.groups, .int .i64 x.seq, .bool x.up, .int .u64 (x.free 0), .int .u64 (x.free 1), .int .u64 (x.free 2), .int .u64 (x.free 3), .int .u64 (x.free 4), .int .u64 (x.free 5), .int .u64 (x.free 6), .int .u64 (x.free 7)]) ∧ Below w.heap.size w w' := by
  go_enter Try.func9, Try.ntmps9
  go_wp2
  exact bodyPost_ret (v := .agg #[.int .i64 x.src, .int .i64 x.dst, .int .u64 x.cap, .int .i64 x.metric, .int .u32 x.groups, .int .i64 x.seq, .bool x.up, .int .u64 (x.free 0), .int .u64 (x.free 1), .int .u64 (x.free 2), .int .u64 (x.free 3), .int .u64 (x.free 4), .int .u64 (x.free 5), .int .u64 (x.free 6), .int .u64 (x.free 7)]) (by simp [results, Try.results9, go_sem]) rfl ⟨rfl, (by repeat (first | (with_reducible exact Below.refl _ _) | (with_reducible assumption) | ((with_reducible refine Below.setCell ?_ ?_ _); rotate_left; (first | omega | (simp <;> omega))) | ((with_reducible refine Below.alloc ?_ ?_ _); rotate_left; (first | omega | (simp <;> omega))) | ((with_reducible refine Below.drew ?_)) | ((with_reducible refine below_drewN ?_ _)) | ((with_reducible refine Below.trans ?_ (Below.mono (by with_reducible assumption) ?_)); rotate_left; (first | omega | (simp <;> omega)))))⟩

theorem info55 : Info Try.prog 55 (.agg #[.int .i64 0, .int .i64 0, .int .u64 0]) 3 24 := by unfold Info; kernel_rfl
theorem info40 : Info Try.prog 40 (.agg #[.int .i64 0, .int .i64 0, .int .u64 0, .int .i64 0, .int .u32 0, .int .i64 0, .bool false, .int .u64 0, .int .u64 0, .int .u64 0, .int .u64 0, .int .u64 0, .int .u64 0, .int .u64 0, .int .u64 0]) 15 120 := by unfold Info; kernel_rfl
theorem info35 : Info Try.prog 35 (.agg #[.int .i64 0, .int .i64 0, .int .u64 0, .int .i64 0, .int .u32 0]) 5 40 := by unfold Info; kernel_rfl
/-- The question, told with a slice of its own. -/
def TheirsPost (w : World) (q : Wnt) (A1 A2 : Option Addr) (n1 n2 n3 k1 k2 : Nat) (hops : Int) (s d b : Nat → Int) (e : Ending) (w' : World) : Prop :=
  ∃ A c, e = .returned (.agg #[.int .u64 q.bw, .int .i64 q.setup, .int .i64 q.hold, .int .u32 q.any, .int .u32 q.all, .int .u32 q.none, .slice A1 n1 k1, .slice A2 n2 k2, .slice A n3 c, .int .i64 hops]) ∧ Strip w' A n3 3 (owns s d b) ∧ Below w.heap.size w w'
set_option maxRecDepth 100000 in
set_option maxHeartbeats 8000000 in
theorem TheirsAsk_calls (w : World) (q : Wnt) (A1 A2 A3 : Option Addr) (n1 n2 n3 k1 k2 k3 : Nat) (hops : Int) (s d b : Nat → Int) (hn : n3 ≤ 100) (hs : Strip w A3 n3 3 (owns s d b)) :
    Calls Try.prog 10 #[.agg #[.int .u64 q.bw, .int .i64 q.setup, .int .i64 q.hold, .int .u32 q.any, .int .u32 q.all, .int .u32 q.none, .slice A1 n1 k1, .slice A2 n2 k2, .slice A3 n3 k3, .int .i64 hops]] w (TheirsPost w q A1 A2 n1 n2 n3 k1 k2 hops s d b) := by
  have HS := Lib.hid hs
  clear hs
  go_enter Try.func10, Try.ntmps10
  go_wp2
  have hb0 : Below w.heap.size w (((w.alloc (.cells #[.int .u64 q.bw, .int .i64 q.setup, .int .i64 q.hold, .int .u32 q.any, .int .u32 q.all, .int .u32 q.none, .slice A1 n1 k1, .slice A2 n2 k2, .slice A3 n3 k3, .int .i64 hops] 31)).alloc (.cells #[.int .u64 0, .int .i64 0, .int .i64 0, .int .u32 0, .int .u32 0, .int .u32 0, .slice none 0 0, .slice none 0 0, .slice none 0 0, .int .i64 0] 44)).alloc (.cells #[.int .u64 q.bw, .int .i64 q.setup, .int .i64 q.hold, .int .u32 q.any, .int .u32 q.all, .int .u32 q.none, .slice A1 n1 k1, .slice A2 n2 k2, .slice none 0 0, .int .i64 hops] 44)) := (by repeat (first | (with_reducible exact Below.refl _ _) | (with_reducible assumption) | ((with_reducible refine Below.setCell ?_ ?_ _); rotate_left; (first | omega | (simp <;> omega))) | ((with_reducible refine Below.alloc ?_ ?_ _); rotate_left; (first | omega | (simp <;> omega))) | ((with_reducible refine Below.drew ?_)) | ((with_reducible refine below_drewN ?_ _)) | ((with_reducible refine Below.trans ?_ (Below.mono (by with_reducible assumption) ?_)); rotate_left; (first | omega | (simp <;> omega)))))
  have HB := Lib.hid hb0
  have R1 := Lib.hid ((Row.new' (w.alloc (.cells #[.int .u64 q.bw, .int .i64 q.setup, .int .i64 q.hold, .int .u32 q.any, .int .u32 q.all, .int .u32 q.none, .slice A1 n1 k1, .slice A2 n2 k2, .slice A3 n3 k3, .int .i64 hops] 31)) (B := w.heap.size + 1) #[.int .u64 0, .int .i64 0, .int .i64 0, .int .u32 0, .int .u32 0, .int .u32 0, .slice none 0 0, .slice none 0 0, .slice none 0 0, .int .i64 0] 44 (by simp)).alloc (.cells #[.int .u64 q.bw, .int .i64 q.setup, .int .i64 q.hold, .int .u32 q.any, .int .u32 q.all, .int .u32 q.none, .slice A1 n1 k1, .slice A2 n2 k2, .slice none 0 0, .int .i64 hops] 44))
  have R2 := Lib.hid (Row.new' ((w.alloc (.cells #[.int .u64 q.bw, .int .i64 q.setup, .int .i64 q.hold, .int .u32 q.any, .int .u32 q.all, .int .u32 q.none, .slice A1 n1 k1, .slice A2 n2 k2, .slice A3 n3 k3, .int .i64 hops] 31)).alloc (.cells #[.int .u64 0, .int .i64 0, .int .i64 0, .int .u32 0, .int .u32 0, .int .u32 0, .slice none 0 0, .slice none 0 0, .slice none 0 0, .int .i64 0] 44)) (B := w.heap.size + 1 + 1) #[.int .u64 q.bw, .int .i64 q.setup, .int .i64 q.hold, .int .u32 q.any, .int .u32 q.all, .int .u32 q.none, .slice A1 n1 k1, .slice A2 n2 k2, .slice none 0 0, .int .i64 hops] 44 (by simp))
  go_loopw [18] (fun i wr => ∃ (k : Nat) (v : Value), k ≤ n3 ∧ i = .int .i64 (k : Int) ∧ OutRow wr (w.heap.size + 1 + 1 + 1) 55 3 v ((List.range k).map (owns s d b)) ∧ Below w.heap.size w wr ∧ Row wr (w.heap.size + 1) #[.int .u64 0, .int .i64 0, .int .i64 0, .int .u32 0, .int .u32 0, .int .u32 0, .slice none 0 0, .slice none 0 0, .slice none 0 0, .int .i64 0] ∧ Row wr (w.heap.size + 1 + 1) #[.int .u64 q.bw, .int .i64 q.setup, .int .i64 q.hold, .int .u32 q.any, .int .u32 q.all, .int .u32 q.none, .slice A1 n1 k1, .slice A2 n2 k2, v, .int .i64 hops]) (fun i _ => n3 - (intOf i).toNat)
  case atStart => exact ⟨0, _, by omega, rfl, OutRow.nil _ _ _ _, HB.out, R1.out, R2.out⟩
  case round =>
    obtain ⟨k, v, hk, rfl, ho, hbel, r1, r2⟩ := hrel
    clear HB R1 R2
    obtain ⟨A, c, rfl⟩ := ho.form
    have hkl : ((List.range k).map (owns s d b)).length = k := by simp
    rw [hkl] at ho r2
    have HKL := Lib.hid hkl
    clear hkl hb0
    have HO := Lib.hid ho
    have HB := Lib.hid hbel
    have R1 := Lib.hid r1
    have R2 := Lib.hid r2
    clear ho hbel
    obtain ⟨c1, f1, s1⟩ := r1
    obtain ⟨c2, f2, s2⟩ := r2
    by_cases hlt : k < n3
    · obtain ⟨ad, rfl, hadb, hc⟩ := HS.out (by omega)
      have hadb1 : (ad.add (k * 3)).block < w.heap.size := by rw [add_block]; exact hadb
      have g0 : wr.cell? (ad.add (k * 3)) = some (.int .i64 (s k)) := (HB.out.cell hadb1).trans (hc k hlt 0 (by omega))
      have g1 : wr.cell? ⟨(ad.add (k * 3)).block, (ad.add (k * 3)).off + 1, none⟩ = some (.int .i64 (d k)) := (HB.out.cell (by show (ad.add (k * 3)).block < _; exact hadb1)).trans (hc k hlt 1 (by omega))
      have g2 : wr.cell? ⟨(ad.add (k * 3)).block, (ad.add (k * 3)).off + 2, none⟩ = some (.int .u64 (b k)) := (HB.out.cell (by show (ad.add (k * 3)).block < _; exact hadb1)).trans (hc k hlt 2 (by omega))
      clear hc
      go_wp2_with (at_builtin; refine wpList_app _ rfl (.tmp 23) (.tmp 31) 42 rfl (w.heap.size + 1 + 1 + 1) 55 _ 3 24 Try.underlying42 info55 rfl (by omega) _ ((List.range k).map (owns s d b)) rfl ?hown _ 1 (owns s d b k) rfl rfl ?hcell ?h1 ?hn (by omega) ?hbase ?hgo; (case hown => exact (HO.out.alloc _).alloc _); (case hcell => exact new_row' _ _ _ (by simp)); (case h1 => (intro u hu; simp [owns] at hu; rcases hu with rfl | rfl | rfl <;> rfl)); (case hn => (rw [HKL.out]; omega)); (case hbase => (simp; omega)); (intro v' w' ho' hg' hbl; have hbl1 := Lib.hid (hbl _ (Nat.le_refl _)); have hbl0 := Lib.hid (hbl w.heap.size (by omega)); clear hbl; have r1 := Lib.hid (((R1.out.alloc _).alloc _).below hbl1.out (by omega)); have r2 := ((R2.out.alloc _).alloc _).below hbl1.out (by omega); have HR2 := Lib.hid r2; have hform : ∃ A c, v' = .slice A (k + 1) c := (by obtain ⟨A', c', h⟩ := ho'.form; rw [List.length_append, HKL.out] at h; exact ⟨A', c', h⟩); obtain ⟨A', c', rfl⟩ := hform; have HO2 := Lib.hid ho'; clear ho' hg'; obtain ⟨c5, f5, s5⟩ := r2))
      go_roundw
      case rel =>
        have hr := HR2.out.set 8 (.slice A' (k + 1) c')
        simp only [List.setIfInBounds_toArray, List.set_cons_zero, List.set_cons_succ] at hr
        exact ⟨k + 1, _, by omega, num_step k, by rw [List.range_succ, List.map_append]; exact HO2.out.far (by show _ + 1 + 1 < _; omega) _, (((HB.out.alloc (by omega) _).alloc (by simp; omega) _).trans hbl0.out).setCell (by show _ ≤ _ + 1 + 1; omega) _, r1.out.far (by show _ + 1 + 1 ≠ _ + 1; omega) _, hr⟩
      case measure => exact measure_step hlt
    · obtain rfl : k = n3 := by omega
      go_wp2
      refine bodyPost_ret (v := .agg #[.int .u64 q.bw, .int .i64 q.setup, .int .i64 q.hold, .int .u32 q.any, .int .u32 q.all, .int .u32 q.none, .slice A1 n1 k1, .slice A2 n2 k2, .slice A k c, .int .i64 hops]) (by simp [results, Try.results10, go_sem, c1]) rfl ?_
      have hbel := HB.out
      have hfa : ∀ j, (⟨w.heap.size + 1, j, none⟩ : Addr).block < w.heap.size + 1 + 1 + 1 := fun j => by show _ + 1 < _; omega
      have hba : ∀ j, w.heap.size ≤ (⟨w.heap.size + 1, j, none⟩ : Addr).block := fun j => by show _ ≤ _ + 1; omega
      have fin : ∀ W : World, OutRow W (w.heap.size + 1 + 1 + 1) 55 3 (.slice A k c) ((List.range k).map (owns s d b)) → Below w.heap.size w W → TheirsPost w q A1 A2 n1 n2 k k1 k2 hops s d b (.returned (.agg #[.int .u64 q.bw, .int .i64 q.setup, .int .i64 q.hold, .int .u32 q.any, .int .u32 q.all, .int .u32 q.none, .slice A1 n1 k1, .slice A2 n2 k2, .slice A k c, .int .i64 hops])) W := by
        intro W h1 h2
        refine ⟨A, c, rfl, ?_, h2⟩
        intro h0
        obtain ⟨ad, e, hl, hcc⟩ := h1.strip.2 h0
        refine ⟨ad, e, hl, fun i hi j hj => ?_⟩
        exact (hcc i hi j hj).trans (congrArg (·[j]?) (getD_map_range hi))
      exact fin _ ((((((((((HO.out.far (hfa 0) _).far (hfa 1) _).far (hfa 2) _).far (hfa 3) _).far (hfa 4) _).far (hfa 5) _).far (hfa 6) _).far (hfa 7) _).far (hfa 8) _).far (hfa 9) _) ((((((((((HB.out.setCell (hba 0) _).setCell (hba 1) _).setCell (hba 2) _).setCell (hba 3) _).setCell (hba 4) _).setCell (hba 5) _).setCell (hba 6) _).setCell (hba 7) _).setCell (hba 8) _).setCell (hba 9) _)
end Go.Proofs.Ytmomndeknpochaa
