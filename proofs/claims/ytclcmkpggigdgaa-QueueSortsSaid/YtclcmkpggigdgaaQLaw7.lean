/- What is popped is less than, or like, all that still waits. The walk of the law. -/
import Derived.Test.YtclcmkpggigdgaaQAlive
import Derived.Test.YtclcmkpggigdgaaOpenQ
namespace Go.Proofs.Ytclcmkpggigdgaa
open Go.RowKit
attribute [local go_sem] cell_set_self

theorem measure_step {n k : Nat} (h : k < n) : n - (intOf (.int .i64 ((k : Int) + 1))).toNat < n - (intOf (.int .i64 (k : Int))).toNat := by
  simp only [intOf]
  omega
theorem Strip.item {w w' : World} {A : Option Addr} {n k : Nat} {x : Nat → Item} (h : Strip w A n 3 (fun i => itemRow (x i))) (hb : Below w.heap.size w w') (hk : k < n) :
    ∃ ad, A = some ad ∧ ad.block < w.heap.size ∧ w'.cell? (ad.add (k * 3)) = some (.int .i64 (x k).cost) ∧ w'.cell? ⟨(ad.add (k * 3)).block, (ad.add (k * 3)).off + 1, none⟩ = some (.int .i64 (x k).hops) ∧ w'.cell? ⟨(ad.add (k * 3)).block, (ad.add (k * 3)).off + 2, none⟩ = some (.int .i64 (x k).node) := by
  obtain ⟨ad, e, hl, hc⟩ := h (by omega)
  have g : ∀ j, j < 3 → w'.cell? ((ad.add (k * 3)).add j) = (itemRow (x k))[j]? := fun j hj => (hb.cell (by rw [add_block, add_block]; exact hl)).trans (hc k hk j hj)
  exact ⟨ad, e, hl, g 0 (by omega), g 1 (by omega), g 2 (by omega)⟩
/-- Each of the first k is counted. -/
theorem many_of {x : Nat → Item} {k n : Nat} {d : Nat → Item} (hm : ∀ y, many d n y = many x n y) (hk : k < n) : 0 < many d n (x k) := by
  rw [hm]
  exact many_pos.2 ⟨k, hk, rfl⟩
set_option maxRecDepth 1000000 in
set_option maxHeartbeats 16000000 in
theorem QueueLeast_small (w : World) (A : Option Addr) (n c : Nat) (x : Nat → Item) (hn : n ≤ 200) (hs : Strip w A n 3 (fun i => itemRow (x i))) :
    Calls Try.prog 7 #[.slice A n c] w fun e w' => e = .returned (.bool true) ∧ Below w.heap.size w w' := by
  have hn5 : n ≤ 200 := hn
  have HS := Lib.hid hs
  have HA := Lib.hid alive_calls
  have HN := Lib.hid New_calls
  have TH := Lib.hid fun (k : Nat) (w : World) => theirs_calls (x k) w
  clear hs hn
  have hz : ¬ ((200 : Int) < (n : Int)) := by omega
  go_enter Try.func7, Try.ntmps7
  go_wp2_with (first | (go_at_call 11; (with_reducible refine (HA.out _).mono ?_); rintro e w1 ⟨rfl, hb⟩) | (go_at_call 12; (with_reducible refine (HN.out _).mono ?_); rintro e w2 ⟨rfl, rfl⟩))
  have HQ := Lib.hid (Que.new w1 w.heap.size (fun _ => ⟨0, 0, 0⟩))
  have HB := Lib.hid (hb.alloc hb.size (.cells #[.bool true, .slice none 0 0] 52))
  have hQw : w.heap.size ≤ w1.heap.size := hb.size
  clear hb HA HN
  generalize w1.heap.size = Q at *
  have hQw2 : w.heap.size ≤ Q := hQw
  have HP := Lib.hid fun (w' : World) (k : Nat) (hk : k < n) (v : Value) (d : Nat → Item) (hq : Que w' w.heap.size Q v k d) (hb : w.heap.size ≤ w'.heap.size) => QPush_calls w' w.heap.size Q k v d (x k) hq (by omega) hb
  go_loopw [18] (fun i wr => ∃ (k : Nat) (v : Value) (d : Nat → Item), k ≤ n ∧ i = .int .i64 (k : Int) ∧ Below w.heap.size w wr ∧ Que wr w.heap.size Q v k d ∧ ∀ y, many d k y = many x k y) (fun i _ => n - (intOf i).toNat)
  case atStart => exact ⟨0, _, _, by omega, rfl, HB.out, HQ.out, fun _ => rfl⟩
  case round =>
    obtain ⟨k, v, d, hk, rfl, hbel, hq, hm⟩ := hrel
    clear HQ HB
    have HQ := Lib.hid hq
    have HB := Lib.hid hbel
    have HM := Lib.hid hm
    have hQr : Q < wr.heap.size := hq.blk.lt
    clear hq hbel hm
    by_cases hlt : k < n
    · obtain ⟨ad, rfl, hadb, g0, g1, g2⟩ := HS.out.item HB.out (k := k) (by omega)
      go_wp2_with (first | (go_at_call 9; (with_reducible refine (TH.out k _).mono ?_); rintro e w3 ⟨rfl, hb3⟩; have hs3 := hb3.size) | (go_at_call 17; (with_reducible refine (HP.out _ k hlt v d (HQ.out.later hb3) (by omega)).mono ?_); rintro e w4 ⟨rfl, v4, d4, hq4, hm4, hf4, _⟩; have hk4 := (HQ.out.later hb3).keeps hf4 (by omega) hQw2))
      go_roundw
      case rel => exact ⟨k + 1, v4, d4, by omega, num_step k, (HB.out.trans (hb3.mono (by omega))).trans hk4, hq4, fun y => by rw [hm4 y, HM.out y]; rfl⟩
      case measure => exact measure_step hlt
    · obtain rfl : k = n := by omega
      by_cases h0 : k = 0
      · subst h0
        obtain ⟨A0, c0, rfl⟩ := HQ.out.row.form
        have HL := Lib.hid (show Calls Try.prog 18 #[.pointer (some ⟨Q, 0, none⟩)] wr (fun e w' => e = .returned (.int .i64 0) ∧ wr = w') from QLen_calls wr Q 0 A0 c0 HQ.out.blk)
        clear HP
        go_wp2_with (go_at_call 18; (with_reducible refine HL.out.mono ?_); rintro e w5 ⟨rfl, rfl⟩)
        go_ret
        exact ⟨rfl, HB.out⟩
      · obtain ⟨m, rfl⟩ : ∃ m, k = m + 1 := ⟨k - 1, by omega⟩
        have hne : ¬ ((((m + 1 : Nat) : Int)) == 0) = true := by simp <;> omega
        have HT := Lib.hid (QPop_calls wr w.heap.size Q m v d HQ.out (by omega))
        have HL := Lib.hid fun (w' : World) (v' : Value) (d' : Nat → Item) (hq : Que w' w.heap.size Q v' m d') => (show Calls Try.prog 18 #[.pointer (some ⟨Q, 0, none⟩)] w' (fun e w'' => e = .returned (.int .i64 (m : Int)) ∧ w' = w'') from by obtain ⟨A0, c0, rfl⟩ := hq.row.form; exact QLen_calls w' Q m A0 c0 hq.blk)
        have HD := Lib.hid fun j (hj : j < m + 1) => (show lessB (x j) (d 0) = false from decide_eq_false (HQ.out.least (many_of HM.out hj)))
        clear HP
        go_wp2_with (first | (go_at_call 13; (with_reducible refine HT.out.mono ?_); rintro e w5 ⟨rfl, v5, d5, hq5, hm5, hf5, _⟩; have hk5 := HQ.out.keeps hf5 (Nat.le_of_lt (Nat.lt_of_le_of_lt hQw2 hQr)) hQw2; have hs5 := hk5.size; have HQ5 := Lib.hid hq5; clear hq5 hm5 hf5) | (go_at_call 18; (with_reducible refine (HL.out _ v5 d5 (HQ5.out.later ((Below.refl _ _).alloc (Nat.le_refl _) _))).mono ?_); rintro e w6 ⟨rfl, rfl⟩))
        have HB5 := Lib.hid ((HB.out.trans hk5).alloc (Nat.le_trans HB.out.size hs5) (.cells #[.int .i64 (d 0).cost, .int .i64 (d 0).hops, .int .i64 (d 0).node] 25))
        have R5 := Lib.hid (Row.new w5 #[.int .i64 (d 0).cost, .int .i64 (d 0).hops, .int .i64 (d 0).node] 25)
        clear HT HL HQ5 hk5 HB HQ
        generalize w5.heap.size = B at *
        have LE := Lib.hid fun (j : Nat) (w : World) => Less_calls (x j) (d 0) w
        go_loopw [50] (fun i wr => ∃ k : Nat, k ≤ m + 1 ∧ i = .int .i64 (k : Int) ∧ Below w.heap.size w wr ∧ Row wr B #[.int .i64 (d 0).cost, .int .i64 (d 0).hops, .int .i64 (d 0).node]) (fun i _ => m + 1 - (intOf i).toNat)
        case atStart => exact ⟨0, by omega, rfl, HB5.out, R5.out⟩
        case round =>
          obtain ⟨k, hk, rfl, hbel, hr⟩ := hrel
          clear HB5 R5
          have HB := Lib.hid hbel
          have HR := Lib.hid hr
          clear hbel
          obtain ⟨c1, f1, s1⟩ := hr
          by_cases hlt : k < m + 1
          · obtain ⟨ad, rfl, hadb, g0, g1, g2⟩ := HS.out.item HB.out (k := k) (by omega)
            have hw := HB.out.size
            have hadb1 : (ad.add (k * 3)).block < wr.heap.size := by rw [add_block]; omega
            have i0 : (0 : Int) ≤ (k : Int) := by omega
            have i1 : (k : Int) < (m : Int) + 1 := by omega
            have LK := Lib.hid fun w => (show Calls Try.prog 8 #[.agg #[.int .i64 (x k).cost, .int .i64 (x k).hops, .int .i64 (x k).node], .agg #[.int .i64 (d 0).cost, .int .i64 (d 0).hops, .int .i64 (d 0).node]] w fun e w' => e = .returned (.bool false) ∧ Below w.heap.size w w' from by have h := LE.out k w; rw [HD.out k hlt] at h; exact h)
            go_wp2
            (refine q_region (by kernel_rfl) (by kernel_rfl) ?_; (repeat (first | ((refine q_pure (v := ?_) rfl (fun w' hC => ?hrun) ?_); (case hrun => (obtain ⟨hq1, hq2⟩ := bcell hC; obtain ⟨hq3, hq4⟩ := bcell' hC; go_simp; with_reducible rfl)); refine q_norm (a' := ?_) ?_ ?_; rotate_left; (simp only [Act.put, List.setIfInBounds_toArray, List.set_cons_zero, List.set_cons_succ]; rfl)) | ((refine q_skip rfl ?_); refine q_norm (a' := ?_) ?_ ?_; rotate_left; (simp only [Act.put, List.setIfInBounds_toArray, List.set_cons_zero, List.set_cons_succ]; rfl)) | ((with_reducible refine q_callB (f := 9) (fun w' _ => TH.out k w') Try.func9 (by kernel_rfl) rfl rfl ?hw ?hargs ?_); (case hw => rfl); (case hargs => (simp only [List.map_toArray, List.map_cons, List.map_nil]; rfl)); refine q_norm (a' := ?_) ?_ ?_; rotate_left; (simp only [Act.put, List.setIfInBounds_toArray, List.set_cons_zero, List.set_cons_succ]; rfl)) | ((with_reducible refine q_callB (f := 8) (fun w' _ => LK.out w') Try.func8 (by kernel_rfl) rfl rfl ?hw ?hargs ?_); (case hw => rfl); (case hargs => (simp only [List.map_toArray, List.map_cons, List.map_nil]; rfl)); refine q_norm (a' := ?_) ?_ ?_; rotate_left; (simp only [Act.put, List.setIfInBounds_toArray, List.set_cons_zero, List.set_cons_succ]; rfl)) )); with_reducible refine wpQuiet_nil ?_; intro wq hq)
            go_wp2
            go_roundw
            case rel => exact ⟨k + 1, by omega, num_step k, HB.out.trans (hq.mono hw), HR.out.later hq⟩
            case measure => exact measure_step hlt
          · go_wp2
            go_ret
            exact ⟨rfl, HB.out⟩

set_option maxRecDepth 1000000 in
set_option maxHeartbeats 16000000 in
theorem QueueLeast_big (w : World) (A : Option Addr) (n c : Nat) (x : Nat → Item) (hn : 200 < n) (hs : Strip w A n 3 (fun i => itemRow (x i))) :
    Calls Try.prog 7 #[.slice A n c] w fun e w' => e = .returned (.bool true) ∧ Below w.heap.size w w' := by
  have hn5 : 200 < n := hn
  have HS := Lib.hid hs
  have HA := Lib.hid alive_calls
  have HN := Lib.hid New_calls
  have TH := Lib.hid fun (k : Nat) (w : World) => theirs_calls (x k) w
  clear hs hn
  have hz : ((200 : Int) < (n : Int)) := by omega
  go_enter Try.func7, Try.ntmps7
  go_wp2_with (first | (go_at_call 11; (with_reducible refine (HA.out _).mono ?_); rintro e w1 ⟨rfl, hb⟩) | (go_at_call 12; (with_reducible refine (HN.out _).mono ?_); rintro e w2 ⟨rfl, rfl⟩))
  have HQ := Lib.hid (Que.new w1 w.heap.size (fun _ => ⟨0, 0, 0⟩))
  have HB := Lib.hid (hb.alloc hb.size (.cells #[.bool true, .slice none 0 0] 52))
  have hQw : w.heap.size ≤ w1.heap.size := hb.size
  clear hb HA HN
  generalize w1.heap.size = Q at *
  have hQw2 : w.heap.size ≤ Q := hQw
  have HP := Lib.hid fun (w' : World) (k : Nat) (hk : k < 200) (v : Value) (d : Nat → Item) (hq : Que w' w.heap.size Q v k d) (hb : w.heap.size ≤ w'.heap.size) => QPush_calls w' w.heap.size Q k v d (x k) hq (by omega) hb
  go_loopw [18] (fun i wr => ∃ (k : Nat) (v : Value) (d : Nat → Item), k ≤ 200 ∧ i = .int .i64 (k : Int) ∧ Below w.heap.size w wr ∧ Que wr w.heap.size Q v k d ∧ ∀ y, many d k y = many x k y) (fun i _ => 200 - (intOf i).toNat)
  case atStart => exact ⟨0, _, _, by omega, rfl, HB.out, HQ.out, fun _ => rfl⟩
  case round =>
    obtain ⟨k, v, d, hk, rfl, hbel, hq, hm⟩ := hrel
    clear HQ HB
    have HQ := Lib.hid hq
    have HB := Lib.hid hbel
    have HM := Lib.hid hm
    have hQr : Q < wr.heap.size := hq.blk.lt
    clear hq hbel hm
    by_cases hlt : k < 200
    · obtain ⟨ad, rfl, hadb, g0, g1, g2⟩ := HS.out.item HB.out (k := k) (by omega)
      go_wp2_with (first | (go_at_call 9; (with_reducible refine (TH.out k _).mono ?_); rintro e w3 ⟨rfl, hb3⟩; have hs3 := hb3.size) | (go_at_call 17; (with_reducible refine (HP.out _ k hlt v d (HQ.out.later hb3) (by omega)).mono ?_); rintro e w4 ⟨rfl, v4, d4, hq4, hm4, hf4, _⟩; have hk4 := (HQ.out.later hb3).keeps hf4 (by omega) hQw2))
      go_roundw
      case rel => exact ⟨k + 1, v4, d4, by omega, num_step k, (HB.out.trans (hb3.mono (by omega))).trans hk4, hq4, fun y => by rw [hm4 y, HM.out y]; rfl⟩
      case measure => exact measure_step hlt
    · obtain rfl : k = 200 := by omega
      have hne : ¬ ((((200 : Nat) : Int)) == 0) = true := by simp <;> omega
      have HT := Lib.hid (QPop_calls wr w.heap.size Q 199 v d HQ.out (by omega))
      have HL := Lib.hid fun (w' : World) (v' : Value) (d' : Nat → Item) (hq : Que w' w.heap.size Q v' 199 d') => (show Calls Try.prog 18 #[.pointer (some ⟨Q, 0, none⟩)] w' (fun e w'' => e = .returned (.int .i64 199) ∧ w' = w'') from by obtain ⟨A0, c0, rfl⟩ := hq.row.form; exact QLen_calls w' Q 199 A0 c0 hq.blk)
      have HD := Lib.hid fun j (hj : j < 200) => (show lessB (x j) (d 0) = false from decide_eq_false (HQ.out.least (many_of HM.out hj)))
      clear HP
      go_wp2_with (first | (go_at_call 13; (with_reducible refine HT.out.mono ?_); rintro e w5 ⟨rfl, v5, d5, hq5, hm5, hf5, _⟩; have hk5 := HQ.out.keeps hf5 (Nat.le_of_lt (Nat.lt_of_le_of_lt hQw2 hQr)) hQw2; have hs5 := hk5.size; have HQ5 := Lib.hid hq5; clear hq5 hm5 hf5) | (go_at_call 18; (with_reducible refine (HL.out _ v5 d5 (HQ5.out.later ((Below.refl _ _).alloc (Nat.le_refl _) _))).mono ?_); rintro e w6 ⟨rfl, rfl⟩))
      have HB5 := Lib.hid ((HB.out.trans hk5).alloc (Nat.le_trans HB.out.size hs5) (.cells #[.int .i64 (d 0).cost, .int .i64 (d 0).hops, .int .i64 (d 0).node] 25))
      have R5 := Lib.hid (Row.new w5 #[.int .i64 (d 0).cost, .int .i64 (d 0).hops, .int .i64 (d 0).node] 25)
      clear HT HL HQ5 hk5 HB HQ
      generalize w5.heap.size = B at *
      have LE := Lib.hid fun (j : Nat) (w : World) => Less_calls (x j) (d 0) w
      go_loopw [50] (fun i wr => ∃ k : Nat, k ≤ 200 ∧ i = .int .i64 (k : Int) ∧ Below w.heap.size w wr ∧ Row wr B #[.int .i64 (d 0).cost, .int .i64 (d 0).hops, .int .i64 (d 0).node]) (fun i _ => 200 - (intOf i).toNat)
      case atStart => exact ⟨0, by omega, rfl, HB5.out, R5.out⟩
      case round =>
        obtain ⟨k, hk, rfl, hbel, hr⟩ := hrel
        clear HB5 R5
        have HB := Lib.hid hbel
        have HR := Lib.hid hr
        clear hbel
        obtain ⟨c1, f1, s1⟩ := hr
        by_cases hlt : k < 200
        · obtain ⟨ad, rfl, hadb, g0, g1, g2⟩ := HS.out.item HB.out (k := k) (by omega)
          have hw := HB.out.size
          have hadb1 : (ad.add (k * 3)).block < wr.heap.size := by rw [add_block]; omega
          have i0 : (0 : Int) ≤ (k : Int) := by omega
          have i1 : (k : Int) < (n : Int) := by omega
          have LK := Lib.hid fun w => (show Calls Try.prog 8 #[.agg #[.int .i64 (x k).cost, .int .i64 (x k).hops, .int .i64 (x k).node], .agg #[.int .i64 (d 0).cost, .int .i64 (d 0).hops, .int .i64 (d 0).node]] w fun e w' => e = .returned (.bool false) ∧ Below w.heap.size w w' from by have h := LE.out k w; rw [HD.out k hlt] at h; exact h)
          go_wp2
          (refine q_region (by kernel_rfl) (by kernel_rfl) ?_; (repeat (first | ((refine q_pure (v := ?_) rfl (fun w' hC => ?hrun) ?_); (case hrun => (obtain ⟨hq1, hq2⟩ := bcell hC; obtain ⟨hq3, hq4⟩ := bcell' hC; go_simp; with_reducible rfl)); refine q_norm (a' := ?_) ?_ ?_; rotate_left; (simp only [Act.put, List.setIfInBounds_toArray, List.set_cons_zero, List.set_cons_succ]; rfl)) | ((refine q_skip rfl ?_); refine q_norm (a' := ?_) ?_ ?_; rotate_left; (simp only [Act.put, List.setIfInBounds_toArray, List.set_cons_zero, List.set_cons_succ]; rfl)) | ((with_reducible refine q_callB (f := 9) (fun w' _ => TH.out k w') Try.func9 (by kernel_rfl) rfl rfl ?hw ?hargs ?_); (case hw => rfl); (case hargs => (simp only [List.map_toArray, List.map_cons, List.map_nil]; rfl)); refine q_norm (a' := ?_) ?_ ?_; rotate_left; (simp only [Act.put, List.setIfInBounds_toArray, List.set_cons_zero, List.set_cons_succ]; rfl)) | ((with_reducible refine q_callB (f := 8) (fun w' _ => LK.out w') Try.func8 (by kernel_rfl) rfl rfl ?hw ?hargs ?_); (case hw => rfl); (case hargs => (simp only [List.map_toArray, List.map_cons, List.map_nil]; rfl)); refine q_norm (a' := ?_) ?_ ?_; rotate_left; (simp only [Act.put, List.setIfInBounds_toArray, List.set_cons_zero, List.set_cons_succ]; rfl)) )); with_reducible refine wpQuiet_nil ?_; intro wq hq)
          go_wp2
          go_roundw
          case rel => exact ⟨k + 1, by omega, num_step k, HB.out.trans (hq.mono hw), HR.out.later hq⟩
          case measure => exact measure_step hlt
        · go_wp2
          go_ret
          exact ⟨rfl, HB.out⟩
theorem QueueLeast_walk (w : World) (A : Option Addr) (n c : Nat) (x : Nat → Item) (_hn : n ≤ 9223372036854775807) (hs : Strip w A n 3 (fun i => itemRow (x i))) :
    Calls Try.prog 7 #[.slice A n c] w fun e w' => e = .returned (.bool true) ∧ Below w.heap.size w w' := by
  by_cases h : n ≤ 200
  · exact QueueLeast_small w A n c x h hs
  · exact QueueLeast_big w A n c x (by omega) hs
end Go.Proofs.Ytclcmkpggigdgaa
