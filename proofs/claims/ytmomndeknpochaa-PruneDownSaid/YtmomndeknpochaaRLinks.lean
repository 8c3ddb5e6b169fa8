/- The links over which a route may go, as the document tells them. -/
import Derived.Test.YtmomndeknpochaaAdverts
namespace Go.Proofs.Ytmomndeknpochaa
open Go.RowKit Plain
attribute [local go_sem] cell_set_self

set_option maxRecDepth 100000 in
set_option maxHeartbeats 8000000 in
theorem RLinks_calls (w : World) (A : Option Addr) (n c : Nat) (x : Nat → Adv) (p : Adv → Bool) (hn : n ≤ 100) (hs : Strip w A n 15 (fun i => advert (x i))) (q : Wnt) (A1 A2 A3 : Option Addr) (n1 n2 n3 k1 k2 k3 : Nat) (hops : Int)
    (hf : ∀ w', Below w.heap.size w w' → ∀ i, i < n → Calls Try.prog 11 #[.agg #[.int .i64 (x i).src, .int .i64 (x i).dst, .int .u64 (x i).cap, .int .i64 (x i).metric, .int .u32 (x i).groups, .int .i64 (x i).seq, .bool (x i).up, .int .u64 ((x i).free 0), .int .u64 ((x i).free 1), .int .u64 ((x i).free 2), .int .u64 ((x i).free 3), .int .u64 ((x i).free 4), .int .u64 ((x i).free 5), .int .u64 ((x i).free 6), .int .u64 ((x i).free 7)], .agg #[.int .u64 q.bw, .int .i64 q.setup, .int .i64 q.hold, .int .u32 q.any, .int .u32 q.all, .int .u32 q.none, .slice A1 n1 k1, .slice A2 n2 k2, .slice A3 n3 k3, .int .i64 hops]] w' fun e w'' => e = .returned (.bool (p (x i))) ∧ Below w'.heap.size w' w'') :
    Calls Try.prog 15 #[.slice A n c, .agg #[.int .u64 q.bw, .int .i64 q.setup, .int .i64 q.hold, .int .u32 q.any, .int .u32 q.all, .int .u32 q.none, .slice A1 n1 k1, .slice A2 n2 k2, .slice A3 n3 k3, .int .i64 hops]] w (GivesRows w 35 5 ((keep x p n).map link)) := by
  have HS := Lib.hid hs
  have HF := Lib.hid hf
  clear hs hf
  go_enter Try.func15, Try.ntmps15
  go_wp2
  have HB0 := Lib.hid (show Below w.heap.size w (w.alloc (.cells #[.int .u64 q.bw, .int .i64 q.setup, .int .i64 q.hold, .int .u32 q.any, .int .u32 q.all, .int .u32 q.none, .slice A1 n1 k1, .slice A2 n2 k2, .slice A3 n3 k3, .int .i64 hops] 31)) from (Below.refl _ _).alloc (Nat.le_refl _) _)
  have R0 := Lib.hid (Row.new w #[.int .u64 q.bw, .int .i64 q.setup, .int .i64 q.hold, .int .u32 q.any, .int .u32 q.all, .int .u32 q.none, .slice A1 n1 k1, .slice A2 n2 k2, .slice A3 n3 k3, .int .i64 hops] 31)
  go_loopw [5, 6] (fun v i wr => ∃ k : Nat, k ≤ n ∧ i = .int .i64 (k : Int) ∧ OutRow wr (w.heap.size + 1) 35 5 v ((keep x p k).map link) ∧ Below w.heap.size w wr ∧ Row wr w.heap.size #[.int .u64 q.bw, .int .i64 q.setup, .int .i64 q.hold, .int .u32 q.any, .int .u32 q.all, .int .u32 q.none, .slice A1 n1 k1, .slice A2 n2 k2, .slice A3 n3 k3, .int .i64 hops]) (fun _ i _ => n - (intOf i).toNat)
  case atStart => exact ⟨0, by omega, rfl, OutRow.nil _ _ _ _, HB0.out, R0.out⟩
  case round =>
    obtain ⟨k, hk, rfl, ho, hbel, hr⟩ := hrel
    clear HB0 R0
    obtain ⟨A4, c4, hv⟩ := ho.form
    have hkl := keep_le x p k
    have hkm : ((keep x p k).map link).length = (keep x p k).length := by simp
    have HKL := Lib.hid hkl
    rw [hkm] at hv
    subst hv
    have HO := Lib.hid ho
    have HB := Lib.hid hbel
    have HR := Lib.hid hr
    have HKM := Lib.hid hkm
    clear hkl ho hbel hkm
    obtain ⟨c1, f1, s1⟩ := hr
    by_cases hlt : k < n
    · obtain ⟨ad, rfl, hadb, hc⟩ := HS.out (by omega)
      have hge : w.heap.size + 1 ≤ wr.heap.size := s1
      have g : ∀ j, j < 15 → wr.cell? ((ad.add (k * 15)).add j) = (advert (x k))[j]? := fun j hj => (HB.out.cell (by rw [add_block, add_block]; exact hadb)).trans (hc k hlt j hj)
      have g0 : wr.cell? (ad.add (k * 15)) = some (.int .i64 (x k).src) := g 0 (by omega)
      have g1 : wr.cell? ⟨(ad.add (k * 15)).block, (ad.add (k * 15)).off + 1, none⟩ = some (.int .i64 (x k).dst) := g 1 (by omega)
      have g2 : wr.cell? ⟨(ad.add (k * 15)).block, (ad.add (k * 15)).off + 2, none⟩ = some (.int .u64 (x k).cap) := g 2 (by omega)
      have g3 : wr.cell? ⟨(ad.add (k * 15)).block, (ad.add (k * 15)).off + 3, none⟩ = some (.int .i64 (x k).metric) := g 3 (by omega)
      have g4 : wr.cell? ⟨(ad.add (k * 15)).block, (ad.add (k * 15)).off + 4, none⟩ = some (.int .u32 (x k).groups) := g 4 (by omega)
      have g5 : wr.cell? ⟨(ad.add (k * 15)).block, (ad.add (k * 15)).off + 5, none⟩ = some (.int .i64 (x k).seq) := g 5 (by omega)
      have g6 : wr.cell? ⟨(ad.add (k * 15)).block, (ad.add (k * 15)).off + 6, none⟩ = some (.bool (x k).up) := g 6 (by omega)
      have g7 : wr.cell? ⟨(ad.add (k * 15)).block, (ad.add (k * 15)).off + 7, none⟩ = some (.int .u64 ((x k).free 0)) := g 7 (by omega)
      have g8 : wr.cell? ⟨(ad.add (k * 15)).block, (ad.add (k * 15)).off + 8, none⟩ = some (.int .u64 ((x k).free 1)) := g 8 (by omega)
      have g9 : wr.cell? ⟨(ad.add (k * 15)).block, (ad.add (k * 15)).off + 9, none⟩ = some (.int .u64 ((x k).free 2)) := g 9 (by omega)
      have g10 : wr.cell? ⟨(ad.add (k * 15)).block, (ad.add (k * 15)).off + 10, none⟩ = some (.int .u64 ((x k).free 3)) := g 10 (by omega)
      have g11 : wr.cell? ⟨(ad.add (k * 15)).block, (ad.add (k * 15)).off + 11, none⟩ = some (.int .u64 ((x k).free 4)) := g 11 (by omega)
      have g12 : wr.cell? ⟨(ad.add (k * 15)).block, (ad.add (k * 15)).off + 12, none⟩ = some (.int .u64 ((x k).free 5)) := g 12 (by omega)
      have g13 : wr.cell? ⟨(ad.add (k * 15)).block, (ad.add (k * 15)).off + 13, none⟩ = some (.int .u64 ((x k).free 6)) := g 13 (by omega)
      have g14 : wr.cell? ⟨(ad.add (k * 15)).block, (ad.add (k * 15)).off + 14, none⟩ = some (.int .u64 ((x k).free 7)) := g 14 (by omega)
      have hst := Lib.hid (keep_succ x p k)
      have hT := fun w' hb => HF.out w' hb k hlt
      clear g hc
      by_cases hp : p (x k) = true
      · rw [hp] at hT
        have HT := Lib.hid hT
        have HP := Lib.hid hp
        clear hT hp
        have i0 : (0 : Int) ≤ (k : Int) := by omega
        have i1 : (k : Int) < (n : Int) := by omega
        have hadb1 : (ad.add (k * 15)).block < wr.heap.size := by rw [add_block]; omega
        go_wp2
        (refine q_region (by kernel_rfl) (by kernel_rfl) ?_; (repeat (first | ((refine q_pure (v := ?_) rfl (fun w' hC => ?hrun) ?_); (case hrun => (obtain ⟨hq1, hq2⟩ := bcell hC; obtain ⟨hq3, hq4⟩ := bcell' hC; go_simp; with_reducible rfl)); refine q_norm (a' := ?_) ?_ ?_; rotate_left; (simp only [Act.put, List.setIfInBounds_toArray, List.set_cons_zero, List.set_cons_succ]; rfl)) | ((refine q_skip rfl ?_); refine q_norm (a' := ?_) ?_ ?_; rotate_left; (simp only [Act.put, List.setIfInBounds_toArray, List.set_cons_zero, List.set_cons_succ]; rfl)) | ((with_reducible refine q_callB (f := 11) (fun w' hb => HT.out w' (HB.out.trans (hb.mono (by omega)))) Try.func11 (by kernel_rfl) rfl rfl ?hw ?hargs ?_); (case hw => rfl); (case hargs => (simp only [List.map_toArray, List.map_cons, List.map_nil]; rfl)); refine q_norm (a' := ?_) ?_ ?_; rotate_left; (simp only [Act.put, List.setIfInBounds_toArray, List.set_cons_zero, List.set_cons_succ]; rfl)) )); with_reducible refine wpQuiet_nil ?_; intro wq hq)
        obtain ⟨hq1, hq2⟩ := bcell' hq
        have hge1 : w.heap.size + 1 ≤ wq.heap.size := Nat.le_trans hge hq.size
        go_wp2_with (at_builtin; refine wpList_app _ rfl (.tmp 19) (.tmp 25) 48 rfl (w.heap.size + 1) 35 _ 5 40 Try.underlying48 info35 rfl (by omega) _ ((keep x p k).map link) rfl ?hown _ 1 (link (x k)) rfl rfl ?hcell ?h1 ?hn (by omega) ?hbase ?hgo; (case hown => exact (HO.out.later hq).alloc _); (case hcell => exact new_row' _ _ _ (by simp)); (case h1 => (intro u hu; simp [link] at hu; rcases hu with rfl | rfl | rfl | rfl | rfl <;> rfl)); (case hn => (rw [HKM.out]; have := HKL.out; omega)); (case hbase => (first | omega | (simp; omega))); (intro v' w' ho' hg' hbl; have hbl0 := Lib.hid (hbl w.heap.size (by omega)); have hbl1 := Lib.hid (hbl _ (Nat.le_refl _)); clear hbl; have HO2 := Lib.hid ho'; clear ho' hg'))
        all_goals
          go_roundw
          case rel => exact ⟨k + 1, by omega, num_step k, by rw [hst.out, if_pos HP.out, List.map_append]; exact HO2.out, ((HB.out.trans (hq.mono (by omega))).alloc (by omega) _).trans hbl0.out, ((HR.out.later hq).alloc _).below hbl1.out (by omega)⟩
          case measure => exact measure_step hlt
      · have hp' : p (x k) = false := by simpa using hp
        rw [hp'] at hT
        have HT := Lib.hid hT
        have HP := Lib.hid hp
        clear hT hp hp'
        have i0 : (0 : Int) ≤ (k : Int) := by omega
        have i1 : (k : Int) < (n : Int) := by omega
        have hadb1 : (ad.add (k * 15)).block < wr.heap.size := by rw [add_block]; omega
        go_wp2
        (refine q_region (by kernel_rfl) (by kernel_rfl) ?_; (repeat (first | ((refine q_pure (v := ?_) rfl (fun w' hC => ?hrun) ?_); (case hrun => (obtain ⟨hq1, hq2⟩ := bcell hC; obtain ⟨hq3, hq4⟩ := bcell' hC; go_simp; with_reducible rfl)); refine q_norm (a' := ?_) ?_ ?_; rotate_left; (simp only [Act.put, List.setIfInBounds_toArray, List.set_cons_zero, List.set_cons_succ]; rfl)) | ((refine q_skip rfl ?_); refine q_norm (a' := ?_) ?_ ?_; rotate_left; (simp only [Act.put, List.setIfInBounds_toArray, List.set_cons_zero, List.set_cons_succ]; rfl)) | ((with_reducible refine q_callB (f := 11) (fun w' hb => HT.out w' (HB.out.trans (hb.mono (by omega)))) Try.func11 (by kernel_rfl) rfl rfl ?hw ?hargs ?_); (case hw => rfl); (case hargs => (simp only [List.map_toArray, List.map_cons, List.map_nil]; rfl)); refine q_norm (a' := ?_) ?_ ?_; rotate_left; (simp only [Act.put, List.setIfInBounds_toArray, List.set_cons_zero, List.set_cons_succ]; rfl)) )); with_reducible refine wpQuiet_nil ?_; intro wq hq)
        obtain ⟨hq1, hq2⟩ := bcell' hq
        have hge1 : w.heap.size + 1 ≤ wq.heap.size := Nat.le_trans hge hq.size
        go_wp2
        go_roundw
        case rel => exact ⟨k + 1, by omega, num_step k, by rw [hst.out, if_neg HP.out]; exact HO.out.later hq, HB.out.trans (hq.mono (by omega)), HR.out.later hq⟩
        case measure => exact measure_step hlt
    · obtain rfl : k = n := by omega
      go_wp2
      go_ret
      exact ⟨A4, c4, by rw [HKM.out]; rfl, by rw [HKM.out]; exact HO.out.lower (Nat.le_succ _), HB.out⟩
end Go.Proofs.Ytmomndeknpochaa
