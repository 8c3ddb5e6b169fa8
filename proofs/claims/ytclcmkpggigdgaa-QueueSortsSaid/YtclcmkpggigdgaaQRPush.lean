/- The document's Push. -/
import Derived.Test.YtclcmkpggigdgaaQRPop
namespace Go.Proofs.Ytclcmkpggigdgaa
open Go.RowKit
attribute [local go_sem] cell_set_self

theorem infoR : Info Try.prog 23 (.agg #[.int .i64 0, .int .i64 0, .int .i64 0]) 3 24 := by unfold Info; kernel_rfl
theorem item_ones (x : Item) : ∀ u ∈ (itemRow x).toList, u.oneCell' = true := by
  intro u hu
  simp [itemRow] at hu
  rcases hu with rfl | rfl | rfl <;> rfl
def RPut (w : World) (l : List Item) (x : Item) (e : Ending) (w' : World) : Prop :=
  ∃ A c, e = .returned (.tuple #[.slice A (l.length + 1) c, .int .i64 0]) ∧ l.length + 1 ≤ c ∧ Strip w' A (l.length + 1) 3 (fun i => itemRow ((insr x l).getD i ⟨0, 0, 0⟩)) ∧ Below w.heap.size w w' ∧ ∀ ad, A = some ad → w.heap.size ≤ ad.block
set_option maxRecDepth 1000000 in
set_option maxHeartbeats 8000000 in
theorem RPush_full (w : World) (A : Option Addr) (n c : Nat) (x : Item) (hn : 1024 ≤ n) (hn2 : n ≤ 100000) :
    Calls Try.prog 16 #[.slice A n c, .agg #[.int .i64 x.cost, .int .i64 x.hops, .int .i64 x.node]] w fun e w' => e = .returned (.tuple #[.slice A n c, .int .i64 7]) ∧ Below w.heap.size w w' := by
  have h1 : ¬ ((n : Int) < 1024) := by omega
  have h2 : n ≤ 100000 := hn2
  clear hn hn2
  go_enter Try.func16, Try.ntmps16
  go_wp2
  go_ret2
  exact ⟨rfl, (by repeat (first | (with_reducible exact Below.refl _ _) | (with_reducible assumption) | ((with_reducible refine Below.setCell ?_ ?_ _); rotate_left; (first | omega | (simp <;> omega))) | ((with_reducible refine Below.alloc ?_ ?_ _); rotate_left; (first | omega | (simp <;> omega))) | ((with_reducible refine Below.drew ?_)) | ((with_reducible refine below_drewN ?_ _)) | ((with_reducible refine Below.trans ?_ (Below.mono (by with_reducible assumption) ?_)); rotate_left; (first | omega | (simp <;> omega)))))⟩
theorem getD_lt {l : List Item} {k : Nat} (h : k < l.length) : l[k]? = some (l.getD k ⟨0, 0, 0⟩) := by
  rw [List.getD_eq_getElem?_getD, List.getElem?_eq_getElem h]
  rfl
theorem take_snoc (l : List Item) {k : Nat} (h : k < l.length) : l.take (k + 1) = l.take k ++ [l.getD k ⟨0, 0, 0⟩] := by
  rw [List.take_add_one, getD_lt h]
  rfl
/-- The rows that are laid: the first k, x, and so many behind them. -/
def laid (x : Item) (l : List Item) (k i : Nat) : List Item := l.take k ++ x :: (l.drop k).take (i - k)
theorem laid_snoc {x : Item} {l : List Item} {k i : Nat} (hk : k ≤ i) (hi : i < l.length) : laid x l k (i + 1) = laid x l k i ++ [l.getD i ⟨0, 0, 0⟩] := by
  unfold laid
  rw [show i + 1 - k = (i - k) + 1 by omega, List.take_add_one, List.getElem?_drop, show k + (i - k) = i by omega, getD_lt hi]
  simp
theorem laid_length {x : Item} {l : List Item} {k i : Nat} (hk : k ≤ i) (hi : i ≤ l.length) : (laid x l k i).length = i + 1 := by
  unfold laid
  rw [List.length_append, List.length_take, List.length_cons, List.length_take, List.length_drop]
  omega
set_option maxRecDepth 1000000 in
set_option maxHeartbeats 32000000 in
theorem RPush_some (w : World) (A : Option Addr) (c : Nat) (l : List Item) (x : Item) (hn : l.length < 1024) (hs : Strip w A l.length 3 (fun i => itemRow (l.getD i ⟨0, 0, 0⟩))) :
    Calls Try.prog 16 #[.slice A l.length c, .agg #[.int .i64 x.cost, .int .i64 x.hops, .int .i64 x.node]] w (RPut w l x) := by
  obtain ⟨n, hnl⟩ : ∃ n, l.length = n := ⟨_, rfl⟩
  have HNL := Lib.hid hnl
  rw [hnl] at hs hn ⊢
  have HS := Lib.hid hs
  have hn5 : n < 1024 := hn
  have hn6 : (n : Int) < 1024 := by omega
  clear hs hn hnl
  have FIN := Lib.hid fun (W : World) (v : Value) (k : Nat) (hk : k ≤ n) (h1 : ∀ j, j < k → ∀ y, l[j]? = some y → ¬ Less x y) (h2 : ∀ y, l[k]? = some y → Less x y) (ho : OutRow W (w.heap.size + 1) 23 3 v ((laid x l k n).map itemRow)) (hb : Below w.heap.size w W) => (show RPut w l x (.returned (.tuple #[v, .int .i64 0])) W from by
    have e1 : laid x l k n = insr x l := by
      rw [take_insr x l k (by rw [HNL.out]; exact hk) h1 h2]
      have e0 : (l.drop k).take (n - k) = l.drop k := List.take_of_length_le (by rw [List.length_drop, HNL.out]; omega)
      unfold laid
      rw [e0]
    rw [e1] at ho
    obtain ⟨A1, c1, rfl⟩ := ho.form
    have e2 : ((insr x l).map itemRow).length = l.length + 1 := by rw [List.length_map, insr_length]
    rw [e2] at ho ⊢
    exact ⟨A1, c1, rfl, ho.cap, ho.strip_list.2, hb, fun ad e => Nat.le_trans (Nat.le_succ _) (ho.1.lt ad.block (by rw [e]; rfl)).1⟩)
  go_enter Try.func16, Try.ntmps16
  go_wp2_with fail
  have R0 := Lib.hid (Row.new w #[.int .i64 x.cost, .int .i64 x.hops, .int .i64 x.node] 23)
  have HB0 := Lib.hid ((Below.refl w.heap.size w).alloc (Nat.le_refl _) (.cells #[.int .i64 x.cost, .int .i64 x.hops, .int .i64 x.node] 23))
  go_loopw [6, 7] (fun v i wr => ∃ k : Nat, k ≤ n ∧ i = .int .i64 (k : Int) ∧ OutRow wr (w.heap.size + 1) 23 3 v ((l.take k).map itemRow) ∧ Below w.heap.size w wr ∧ Row wr w.heap.size #[.int .i64 x.cost, .int .i64 x.hops, .int .i64 x.node] ∧ (∀ j, j < k → ∀ y, l[j]? = some y → ¬ Less x y)) (fun _ i _ => n - (intOf i).toNat)
  case atStart => exact ⟨0, by omega, rfl, OutRow.nil _ _ _ _, HB0.out, R0.out, fun j h => by omega⟩
  case round =>
    obtain ⟨k, hk, rfl, ho, hbel, hr, hlt0⟩ := hrel
    clear R0 HB0
    obtain ⟨A1, c1, hv⟩ := ho.form
    have hkl : ((l.take k).map itemRow).length = k := by rw [List.length_map, List.length_take, HNL.out]; omega
    rw [hkl] at hv
    subst hv
    have HKL := Lib.hid hkl
    have HO := Lib.hid ho
    have HB := Lib.hid hbel
    have HR := Lib.hid hr
    have HL := Lib.hid hlt0
    clear hkl ho hbel hlt0
    obtain ⟨c2, f2, s2⟩ := hr
    have hge : w.heap.size + 1 ≤ wr.heap.size := s2
    by_cases hlt : k < n
    · obtain ⟨ad, rfl, hadb, g0, g1, g2⟩ := HS.out.item HB.out hlt
      have hadb1 : (ad.add (k * 3)).block < wr.heap.size := by rw [add_block]; omega
      have hyk := getD_lt (l := l) (k := k) (by rw [HNL.out]; exact hlt)
      have hts := take_snoc l (k := k) (by rw [HNL.out]; exact hlt)
      obtain ⟨y, hy⟩ : ∃ y, l.getD k ⟨0, 0, 0⟩ = y := ⟨_, rfl⟩
      rw [hy] at g0 g1 g2 hyk hts
      have HY := Lib.hid hyk
      have HT := Lib.hid hts
      clear hyk hts hy
      have i0 : (0 : Int) ≤ (k : Int) := by omega
      have i1 : (k : Int) < (n : Int) := by omega
      have LE := Lib.hid fun (w : World) => RLess_calls x y w
      by_cases hl : Less x y
      · have hlb : lessB x y = true := decide_eq_true hl
        rw [hlb] at LE
        have HLS := Lib.hid hl
        clear hl hlb
        go_wp2
        (refine q_region (by kernel_rfl) (by kernel_rfl) ?_; (repeat (first | ((refine q_pure (v := ?_) rfl (fun w' hC => ?hrun) ?_); (case hrun => (obtain ⟨hq1, hq2⟩ := bcell hC; obtain ⟨hq3, hq4⟩ := bcell' hC; go_simp; with_reducible rfl)); refine q_norm (a' := ?_) ?_ ?_; rotate_left; (simp only [Act.put, List.setIfInBounds_toArray, List.set_cons_zero, List.set_cons_succ]; rfl)) | ((refine q_skip rfl ?_); refine q_norm (a' := ?_) ?_ ?_; rotate_left; (simp only [Act.put, List.setIfInBounds_toArray, List.set_cons_zero, List.set_cons_succ]; rfl)) | ((with_reducible refine q_callB (f := 10) (fun w' _ => LE.out w') Try.func10 (by kernel_rfl) rfl rfl ?hw ?hargs ?_); (case hw => rfl); (case hargs => (simp only [List.map_toArray, List.map_cons, List.map_nil]; rfl)); refine q_norm (a' := ?_) ?_ ?_; rotate_left; (simp only [Act.put, List.setIfInBounds_toArray, List.set_cons_zero, List.set_cons_succ]; rfl)) )); with_reducible refine wpQuiet_nil ?_; intro wq hq)
        have h2 := Lib.hid (show ∀ z, l[k]? = some z → Less x z from fun z hz => by rw [HY.out] at hz; injection hz with hz; rw [← hz]; exact HLS.out)
        obtain ⟨hq1, hq2⟩ := bcell' hq
        have hqz : w.heap.size + 1 ≤ wq.heap.size := Nat.le_trans hge hq.size
        have HBQ := Lib.hid (HB.out.trans (hq.mono (by omega)))
        have RQ := Lib.hid (HR.out.later hq)
        go_wp2_with (at_builtin; refine wpList_app _ rfl (.tmp 34) (.tmp 36) 32 rfl (w.heap.size + 1) 23 _ 3 24 Try.underlying32 infoR rfl (by omega) _ ((l.take k).map itemRow) rfl ?hown_2 _ 1 (itemRow (x)) rfl rfl ?hcell_2 ?h1_2 ?hn_2 (by omega) ?hbase_2 ?hgo_2; (case hown_2 => exact (HO.out.later hq).alloc _); (case hcell_2 => exact new_row' _ _ _ (by simp)); (case h1_2 => exact item_ones _); (case hn_2 => (rw [HKL.out]; omega)); (case hbase_2 => (first | omega | (simp; omega))); (intro v' w' ho' hg' hbl; have hbl0 := Lib.hid (hbl w.heap.size (by omega)); have hbl1 := Lib.hid (hbl _ (Nat.le_refl _)); clear hbl; have HO2 := Lib.hid ho'; clear ho' hg'))
        have HO3 := Lib.hid (show OutRow w' (w.heap.size + 1) 23 3 v' ((laid x l k k).map itemRow) from by have h := HO2.out; unfold laid; rw [Nat.sub_self, List.take_zero, List.map_append]; exact h)
        have HB3 := Lib.hid ((HBQ.out.alloc (by omega) (.cells #[.int .i64 x.cost, .int .i64 x.hops, .int .i64 x.node] 23)).trans hbl0.out)
        clear HO2 hbl0 hbl1 c2 f2 s2 hq1 hq2
        go_loopw [6, 7] (fun v i wr => ∃ i' : Nat, k ≤ i' ∧ i' ≤ n ∧ i = .int .i64 (i' : Int) ∧ OutRow wr (w.heap.size + 1) 23 3 v ((laid x l k i').map itemRow) ∧ Below w.heap.size w wr) (fun _ i _ => n - (intOf i).toNat)
        case atStart => exact ⟨k, by omega, by omega, rfl, HO3.out, HB3.out⟩
        case round =>
          obtain ⟨i, hki, hin, rfl, ho, hbel⟩ := hrel
          clear HO3 HB3
          obtain ⟨A3, c3, hv⟩ := ho.form
          have hkl : ((laid x l k i).map itemRow).length = i + 1 := by rw [List.length_map, laid_length hki (by rw [HNL.out]; exact hin)]
          rw [hkl] at hv
          subst hv
          have HKL := Lib.hid hkl
          have HO := Lib.hid ho
          have HB := Lib.hid hbel
          clear hkl ho
          have hge2 := hbel.size
          by_cases hl2 : i < n
          · obtain ⟨ad2, had, hadb2, g0, g1, g2⟩ := HS.out.item HB.out hl2
            cases had
            have hls := Lib.hid (laid_snoc (x := x) (l := l) hki (by rw [HNL.out]; exact hl2))
            obtain ⟨z, hz⟩ : ∃ z, l.getD i ⟨0, 0, 0⟩ = z := ⟨_, rfl⟩
            rw [hz] at g0 g1 g2 hls
            clear hz hbel
            go_wp2_with (at_builtin; refine wpList_app _ rfl (.tmp 42) (.tmp 47) 32 rfl (w.heap.size + 1) 23 _ 3 24 Try.underlying32 infoR rfl (by omega) _ ((laid x l k i).map itemRow) rfl ?hown_3 _ 1 (itemRow (z)) rfl rfl ?hcell_3 ?h1_3 ?hn_3 (by omega) ?hbase_3 ?hgo_3; (case hown_3 => exact HO.out.alloc _); (case hcell_3 => exact new_row' _ _ _ (by simp)); (case h1_3 => exact item_ones _); (case hn_3 => (rw [HKL.out]; omega)); (case hbase_3 => (first | omega | (simp; omega))); (intro v' w' ho' hg' hbl; have hbl0 := Lib.hid (hbl w.heap.size (by omega)); have hbl1 := Lib.hid (hbl _ (Nat.le_refl _)); clear hbl; have HO2 := Lib.hid ho'; clear ho' hg'))
            all_goals
              go_roundw
              case rel => exact ⟨i + 1, by omega, by omega, num_step i, by rw [hls.out, List.map_append]; exact HO2.out, (HB.out.alloc (by omega) _).trans hbl0.out⟩
              case measure => exact measure_step hl2
          · obtain rfl : n = i := by omega
            go_wp2
            go_ret2
            exact FIN.out _ _ k hki HL.out h2.out HO.out HB.out
      · have hlb : lessB x y = false := decide_eq_false hl
        rw [hlb] at LE
        have HLS := Lib.hid hl
        clear hl hlb
        go_wp2
        (refine q_region (by kernel_rfl) (by kernel_rfl) ?_; (repeat (first | ((refine q_pure (v := ?_) rfl (fun w' hC => ?hrun) ?_); (case hrun => (obtain ⟨hq1, hq2⟩ := bcell hC; obtain ⟨hq3, hq4⟩ := bcell' hC; go_simp; with_reducible rfl)); refine q_norm (a' := ?_) ?_ ?_; rotate_left; (simp only [Act.put, List.setIfInBounds_toArray, List.set_cons_zero, List.set_cons_succ]; rfl)) | ((refine q_skip rfl ?_); refine q_norm (a' := ?_) ?_ ?_; rotate_left; (simp only [Act.put, List.setIfInBounds_toArray, List.set_cons_zero, List.set_cons_succ]; rfl)) | ((with_reducible refine q_callB (f := 10) (fun w' _ => LE.out w') Try.func10 (by kernel_rfl) rfl rfl ?hw ?hargs ?_); (case hw => rfl); (case hargs => (simp only [List.map_toArray, List.map_cons, List.map_nil]; rfl)); refine q_norm (a' := ?_) ?_ ?_; rotate_left; (simp only [Act.put, List.setIfInBounds_toArray, List.set_cons_zero, List.set_cons_succ]; rfl)) )); with_reducible refine wpQuiet_nil ?_; intro wq hq)
        obtain ⟨hq1, hq2⟩ := bcell' hq
        have hqz : w.heap.size + 1 ≤ wq.heap.size := Nat.le_trans hge hq.size
        go_wp2_with (at_builtin; refine wpList_app _ rfl (.tmp 25) (.tmp 30) 32 rfl (w.heap.size + 1) 23 _ 3 24 Try.underlying32 infoR rfl (by omega) _ ((l.take k).map itemRow) rfl ?hown_1 _ 1 (itemRow (y)) rfl rfl ?hcell_1 ?h1_1 ?hn_1 (by omega) ?hbase_1 ?hgo_1; (case hown_1 => exact (HO.out.later hq).alloc _); (case hcell_1 => exact new_row' _ _ _ (by simp)); (case h1_1 => exact item_ones _); (case hn_1 => (rw [HKL.out]; omega)); (case hbase_1 => (first | omega | (simp; omega))); (intro v' w' ho' hg' hbl; have hbl0 := Lib.hid (hbl w.heap.size (by omega)); have hbl1 := Lib.hid (hbl _ (Nat.le_refl _)); clear hbl; have HO2 := Lib.hid ho'; clear ho' hg'))
        all_goals
          go_roundw
          case rel => exact ⟨k + 1, by omega, num_step k, by rw [HT.out, List.map_append]; exact HO2.out, ((HB.out.trans (hq.mono (by omega))).alloc (by omega) _).trans hbl0.out, ((HR.out.later hq).alloc _).below hbl1.out (by omega), fun j hj z hz => by
            rcases Nat.lt_succ_iff_lt_or_eq.1 hj with h | rfl
            · exact HL.out j h z hz
            · rw [HY.out] at hz; injection hz with hz; rw [← hz]; exact HLS.out⟩
          case measure => exact measure_step hlt
    · obtain rfl : n = k := by omega
      have hne : decide (n < n) = false := decide_eq_false (by omega)
      go_wp2
      go_quiet (fail)
      have hq : Below wr.heap.size wr (wr.drewN nq) := Go.Proofs.Ytclcmkpggigdgaa.below_drewN (Below.refl _ _) nq
      generalize wr.drewN nq = wq at hq ⊢
      clear hne hlt
      have h2 := Lib.hid (show ∀ z, l[n]? = some z → Less x z from fun z hz => by rw [List.getElem?_eq_none (by rw [HNL.out]; omega)] at hz; cases hz)
      obtain ⟨hq1, hq2⟩ := bcell' hq
      have hqz : w.heap.size + 1 ≤ wq.heap.size := Nat.le_trans hge hq.size
      have HBQ := Lib.hid (HB.out.trans (hq.mono (by omega)))
      have RQ := Lib.hid (HR.out.later hq)
      go_wp2_with (at_builtin; refine wpList_app _ rfl (.tmp 34) (.tmp 36) 32 rfl (w.heap.size + 1) 23 _ 3 24 Try.underlying32 infoR rfl (by omega) _ ((l.take n).map itemRow) rfl ?hown_4 _ 1 (itemRow (x)) rfl rfl ?hcell_4 ?h1_4 ?hn_4 (by omega) ?hbase_4 ?hgo_4; (case hown_4 => exact (HO.out.later hq).alloc _); (case hcell_4 => exact new_row' _ _ _ (by simp)); (case h1_4 => exact item_ones _); (case hn_4 => (rw [HKL.out]; omega)); (case hbase_4 => (first | omega | (simp; omega))); (intro v' w' ho' hg' hbl; have hbl0 := Lib.hid (hbl w.heap.size (by omega)); have hbl1 := Lib.hid (hbl _ (Nat.le_refl _)); clear hbl; have HO2 := Lib.hid ho'; clear ho' hg'))
      have HO3 := Lib.hid (show OutRow w' (w.heap.size + 1) 23 3 v' ((laid x l n n).map itemRow) from by have h := HO2.out; unfold laid; rw [Nat.sub_self, List.take_zero, List.map_append]; exact h)
      have HB3 := Lib.hid ((HBQ.out.alloc (by omega) (.cells #[.int .i64 x.cost, .int .i64 x.hops, .int .i64 x.node] 23)).trans hbl0.out)
      clear HO2 hbl0 hbl1 c2 f2 s2 hq1 hq2
      go_loopw [6, 7] (fun v i wr => ∃ i' : Nat, n ≤ i' ∧ i' ≤ n ∧ i = .int .i64 (i' : Int) ∧ OutRow wr (w.heap.size + 1) 23 3 v ((laid x l n i').map itemRow) ∧ Below w.heap.size w wr) (fun _ i _ => n - (intOf i).toNat)
      case atStart => exact ⟨n, by omega, by omega, rfl, HO3.out, HB3.out⟩
      case round =>
        obtain ⟨i, hki, hin, rfl, ho, hbel⟩ := hrel
        clear HO3 HB3
        obtain ⟨A3, c3, hv⟩ := ho.form
        have hkl : ((laid x l n i).map itemRow).length = i + 1 := by rw [List.length_map, laid_length hki (by rw [HNL.out]; exact hin)]
        rw [hkl] at hv
        subst hv
        have HKL := Lib.hid hkl
        have HO := Lib.hid ho
        have HB := Lib.hid hbel
        clear hkl ho
        have hge2 := hbel.size
        by_cases hl2 : i < n
        · exact absurd hl2 (by omega)
        · obtain rfl : n = i := by omega
          go_wp2
          go_ret2
          exact FIN.out _ _ n hki HL.out h2.out HO.out HB.out
end Go.Proofs.Ytclcmkpggigdgaa
