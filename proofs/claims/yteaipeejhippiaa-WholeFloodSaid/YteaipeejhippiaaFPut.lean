/- A number of n bytes behind others: octet.Put. -/
import Derived.Test.YteaipeejhippiaaFBytes
import Derived.Test.YteaipeejhippiaaOwn4
import Derived.Deep.DeepCutAuto
namespace Go.Proofs.Yteaipeejhippiaa
open Go.RowKit
attribute [local go_sem] cell_set_self
set_option linter.unusedVariables false

theorem infoByte : Info Try.prog 5 (.int .u8 0) 1 1 := by unfold Info; kernel_rfl
theorem cat_snoc0 (f : Nat → Int) (k : Nat) (u : Int) (n : Nat) : (List.range k).map (byteRow (cat f 0 (dig u n))) ++ [#[.int .u8 (dig u n k)]] = (List.range (0 + (k + 1))).map (byteRow (cat f 0 (dig u n))) := by
  rw [Nat.zero_add, List.range_succ, List.map_append]
  congr 1
theorem cat_snoc (f : Nat → Int) (m k : Nat) (u : Int) (n : Nat) : (List.range (m + k)).map (byteRow (cat f m (dig u n))) ++ [#[.int .u8 (dig u n k)]] = (List.range (m + (k + 1))).map (byteRow (cat f m (dig u n))) := by
  rw [← Nat.add_assoc, List.range_succ, List.map_append]
  congr 1
  simp [byteRow, cat]
  intro h
  omega
theorem cat_lo (f : Nat → Int) (m : Nat) (g : Nat → Int) : (List.range m).map (byteRow f) = (List.range m).map (byteRow (cat f m g)) := by
  refine List.map_congr_left fun i hi => ?_
  unfold byteRow cat
  rw [if_pos (List.mem_range.1 hi)]
def PutPost (w : World) (m : Nat) (f : Nat → Int) (n : Nat) (u : Int) (e : Ending) (w' : World) : Prop := ∃ A c, e = .returned (.tuple #[.slice A (m + n) c, .int .i64 0]) ∧ Strip w' A (m + n) 1 (byteRow (cat f m (dig u n))) ∧ (∃ ad, A = some ad) ∧ Below w.heap.size w w'
def PutRel (w : World) (m : Nat) (f : Nat → Int) (n : Nat) (u : Int) (v i : Value) (wr : World) : Prop := ∃ r k : Nat, r + k = n ∧ i = .int .i64 ((r : Int) - 1) ∧ OutRow wr w.heap.size 5 1 v ((List.range (m + k)).map (byteRow (cat f m (dig u n)))) ∧ Below w.heap.size w wr
theorem wrap8 (a : Int) (h : 0 ≤ a) : IntKind.u8.wrap a = a % 256 := by
  simp [IntKind.wrap, IntKind.bits, IntKind.signed]
set_option maxRecDepth 100000 in
set_option maxHeartbeats 4000000 in
theorem Put_calls (w : World) (A : Option Addr) (m c : Nat) (f : Nat → Int) (n : Nat) (u : Int) (hm : m ≤ 10000) (hs : Strip w A m 1 (byteRow f)) (h0 : A = none → m = 0 ∧ c = 0) (hn1 : 1 ≤ n) (hn8 : n ≤ 8) (hu : 0 ≤ u) (hu2 : u < 2 ^ (8 * n)) : Calls Try.prog 34 #[.slice A m c, .int .i64 (n : Int), .int .u64 u] w (PutPost w m f n u) := by
  have i1 : (1 : Int) ≤ (n : Int) := by omega
  have i2 : (n : Int) ≤ 8 := by omega
  have j1 : (0 : Int) ≤ 8 * (n : Int) := by omega
  have j2 : 8 * (n : Int) < 64 + 1 := by omega
  have hz : (u / 2 ^ (8 * n) != 0) = false := by rw [Int.ediv_eq_zero_of_lt hu hu2]; rfl
  obtain ⟨i0, hi1, hi2, hi3, hi4⟩ := info_parts infoByte
  have HIN := Lib.hid hi1
  have HIN2 := Lib.hid hi2
  have HIN3 := Lib.hid hi3
  have HIN4 := Lib.hid hi4
  have HS := Lib.hid hs
  have HU2 := Lib.hid hu2
  clear hi1 hi2 hi3 hi4 hs hu2
  rcases A with _ | ad
  · obtain ⟨rfl, rfl⟩ := h0 rfl
    clear h0 HS
    by_cases h8 : n = 8
    · have i3 : ¬ (n : Int) < 8 := by omega
      clear h8
      go_enter Try.func34, Try.ntmps34
      go_wp2_with (at_make; refine wpList_make_own _ rfl _ _ 67 rfl w.heap.size 5 i0 (.int .u8 0) 1 Try.underlying67 HIN.out HIN2.out HIN3.out .i64 .i64 _ (0 + n) rfl rfl (by omega) (by rw [HIN4.out]; omega) (by unfold maxLen; omega) (Nat.le_refl _) ?_; intro w1 ho1 hg1; have HO := Lib.hid (show OutRow w1 w.heap.size 5 1 (.slice (some ⟨w.heap.size, 0, none⟩) 0 (0 + n)) [] from ⟨ho1, fun _ h => by cases h⟩); have HB1 := Lib.hid (show Below w.heap.size w w1 from (Below.refl _ _).grown hg1 (Nat.le_refl _) (fun k hk => by cases hk)); have HO2 := Lib.hid (show OutRow w1 w.heap.size 5 1 (.slice (some ⟨w.heap.size, 0, none⟩) 0 n) ((List.range 0).map (byteRow (cat f 0 (dig u n)))) from by have h := HO.out; rwa [Nat.zero_add] at h); have HB2 := HB1; clear ho1 hg1)
      go_loopw [8, 9] (fun v i wr => PutRel w 0 f n u v i wr) (fun _ i _ => (intOf i + 1).toNat)
      case atStart => exact ⟨n, 0, rfl, rfl, HO2.out, HB2.out⟩
      case round =>
        clear HO2 HB2
        obtain ⟨r, k, hrk, rfl, ho, hb⟩ := hrel
        rw [Nat.zero_add] at ho
        obtain ⟨A3, c3, rfl⟩ := ho.form
        have hl : ((List.range k).map (byteRow (cat f 0 (dig u n)))).length = k := by simp
        rw [hl] at ho
        have HO3 := Lib.hid ho
        have HB3 := Lib.hid hb
        have hws := hb.size
        have HL := Lib.hid hl
        clear ho hb
        rcases r with _ | j
        · have e : (((0 : Nat) : Int) - 1) = -1 := rfl
          rw [e, hl]
          clear e hl
          have hkn : k = n := by omega
          subst hkn
          go_wp2
          go_ret2
          have h1 := HO3.out.strip_map
          have h2 := HO3.out.at_ (by simp; omega)
          obtain ⟨g, cg, hv, _⟩ := h2
          injection hv with hv
          exact ⟨A3, c3, by rw [Nat.zero_add]; rfl, by rw [Nat.zero_add]; exact h1.2, ⟨_, hv⟩, HB3.out⟩
        · have e : (((j + 1 : Nat) : Int) - 1) = (j : Int) := by omega
          rw [e, hl]
          clear e hl
          have q0 : (0 : Int) ≤ (j : Int) := by omega
          have q1 : (0 : Int) ≤ 8 * (j : Int) := by omega
          have q2 : 8 * (j : Int) < 64 := by omega
          have q3 : (j : Int) < 8 := by omega
          have hw8 : IntKind.u8.wrap (u / 2 ^ (8 * j)) = dig u n k := by
            have hj : n - 1 - k = j := by omega
            rw [wrap8 _ (Int.ediv_nonneg hu (Int.le_of_lt (pow8_pos j))), dig, hj]
          go_wp2_with (at_builtin; refine wpList_app _ rfl (.tmp 40) (.tmp 46) 67 rfl w.heap.size 5 _ 1 1 Try.underlying67 infoByte rfl (by omega) (.slice A3 k c3) ((List.range k).map (byteRow (cat f 0 (dig u n)))) rfl (HO3.out.alloc _) wr.heap.size 1 #[.int .u8 (dig u n k)] rfl rfl (new_row _ _ _) (by intro u hu; simp at hu; subst hu; rfl) (by simp; omega) (by omega) (by simp; omega) ?_; intro v4 w4 ho4 hg4 hb4; have HO4 := Lib.hid ho4; have HB4 := Lib.hid ((HB3.out.alloc hws (.cells #[.int .u8 (dig u n k)] 5)).trans (hb4 _ (Nat.le_refl _))); clear ho4 hg4 hb4)
          have ho5 := HO4.out
          rw [cat_snoc0] at ho5
          have HO5 := Lib.hid ho5
          clear ho5
          go_roundw
          case rel => exact ⟨j, k + 1, by omega, rfl, HO5.out, HB4.out⟩
          case measure => simp [intOf]

    · have i3 : (n : Int) < 8 := by omega
      clear h8
      go_enter Try.func34, Try.ntmps34
      go_wp2_with (at_make; refine wpList_make_own _ rfl _ _ 67 rfl w.heap.size 5 i0 (.int .u8 0) 1 Try.underlying67 HIN.out HIN2.out HIN3.out .i64 .i64 _ (0 + n) rfl rfl (by omega) (by rw [HIN4.out]; omega) (by unfold maxLen; omega) (Nat.le_refl _) ?_; intro w1 ho1 hg1; have HO := Lib.hid (show OutRow w1 w.heap.size 5 1 (.slice (some ⟨w.heap.size, 0, none⟩) 0 (0 + n)) [] from ⟨ho1, fun _ h => by cases h⟩); have HB1 := Lib.hid (show Below w.heap.size w w1 from (Below.refl _ _).grown hg1 (Nat.le_refl _) (fun k hk => by cases hk)); have HO2 := Lib.hid (show OutRow w1 w.heap.size 5 1 (.slice (some ⟨w.heap.size, 0, none⟩) 0 n) ((List.range 0).map (byteRow (cat f 0 (dig u n)))) from by have h := HO.out; rwa [Nat.zero_add] at h); have HB2 := HB1; clear ho1 hg1)
      go_loopw [8, 9] (fun v i wr => PutRel w 0 f n u v i wr) (fun _ i _ => (intOf i + 1).toNat)
      case atStart => exact ⟨n, 0, rfl, rfl, HO2.out, HB2.out⟩
      case round =>
        clear HO2 HB2
        obtain ⟨r, k, hrk, rfl, ho, hb⟩ := hrel
        rw [Nat.zero_add] at ho
        obtain ⟨A3, c3, rfl⟩ := ho.form
        have hl : ((List.range k).map (byteRow (cat f 0 (dig u n)))).length = k := by simp
        rw [hl] at ho
        have HO3 := Lib.hid ho
        have HB3 := Lib.hid hb
        have hws := hb.size
        have HL := Lib.hid hl
        clear ho hb
        rcases r with _ | j
        · have e : (((0 : Nat) : Int) - 1) = -1 := rfl
          rw [e, hl]
          clear e hl
          have hkn : k = n := by omega
          subst hkn
          go_wp2
          go_ret2
          have h1 := HO3.out.strip_map
          have h2 := HO3.out.at_ (by simp; omega)
          obtain ⟨g, cg, hv, _⟩ := h2
          injection hv with hv
          exact ⟨A3, c3, by rw [Nat.zero_add]; rfl, by rw [Nat.zero_add]; exact h1.2, ⟨_, hv⟩, HB3.out⟩
        · have e : (((j + 1 : Nat) : Int) - 1) = (j : Int) := by omega
          rw [e, hl]
          clear e hl
          have q0 : (0 : Int) ≤ (j : Int) := by omega
          have q1 : (0 : Int) ≤ 8 * (j : Int) := by omega
          have q2 : 8 * (j : Int) < 64 := by omega
          have q3 : (j : Int) < 8 := by omega
          have hw8 : IntKind.u8.wrap (u / 2 ^ (8 * j)) = dig u n k := by
            have hj : n - 1 - k = j := by omega
            rw [wrap8 _ (Int.ediv_nonneg hu (Int.le_of_lt (pow8_pos j))), dig, hj]
          go_wp2_with (at_builtin; refine wpList_app _ rfl (.tmp 40) (.tmp 46) 67 rfl w.heap.size 5 _ 1 1 Try.underlying67 infoByte rfl (by omega) (.slice A3 k c3) ((List.range k).map (byteRow (cat f 0 (dig u n)))) rfl (HO3.out.alloc _) wr.heap.size 1 #[.int .u8 (dig u n k)] rfl rfl (new_row _ _ _) (by intro u hu; simp at hu; subst hu; rfl) (by simp; omega) (by omega) (by simp; omega) ?_; intro v4 w4 ho4 hg4 hb4; have HO4 := Lib.hid ho4; have HB4 := Lib.hid ((HB3.out.alloc hws (.cells #[.int .u8 (dig u n k)] 5)).trans (hb4 _ (Nat.le_refl _))); clear ho4 hg4 hb4)
          have ho5 := HO4.out
          rw [cat_snoc0] at ho5
          have HO5 := Lib.hid ho5
          clear ho5
          go_roundw
          case rel => exact ⟨j, k + 1, by omega, rfl, HO5.out, HB4.out⟩
          case measure => simp [intOf]

  · clear h0
    by_cases h8 : n = 8
    · have i3 : ¬ (n : Int) < 8 := by omega
      clear h8
      go_enter Try.func34, Try.ntmps34
      go_wp2_with (first | (at_make; refine wpList_make_own _ rfl _ _ 67 rfl w.heap.size 5 i0 (.int .u8 0) 1 Try.underlying67 HIN.out HIN2.out HIN3.out .i64 .i64 _ (m + n) rfl rfl (by omega) (by rw [HIN4.out]; omega) (by unfold maxLen; omega) (Nat.le_refl _) ?_; intro w1 ho1 hg1; have HO := Lib.hid (show OutRow w1 w.heap.size 5 1 (.slice (some ⟨w.heap.size, 0, none⟩) 0 (m + n)) [] from ⟨ho1, fun _ h => by cases h⟩); have HB1 := Lib.hid (show Below w.heap.size w w1 from (Below.refl _ _).grown hg1 (Nat.le_refl _) (fun k hk => by cases hk)); clear ho1 hg1) | (at_builtin; refine wpList_copyS _ rfl (.tmp 31) (.tmp 32) 67 rfl w.heap.size 5 _ 1 1 Try.underlying67 infoByte rfl (by omega) _ rfl HO.out ad m c (byteRow f) rfl (HS.out.below HB1.out) (fun _ => rfl) (fun i u hu => by simp [byteRow] at hu; subst hu; rfl) (by omega) (by omega) HB1.out.size ?_; intro v2 w2 ho2 hb2; rw [cat_lo f m (dig u n)] at ho2; obtain ⟨A2, c2, rfl⟩ := ho2.form; have hl2 : ((List.range m).map (byteRow (cat f m (dig u n)))).length = m := (by simp); rw [hl2] at ho2; rw [hl2]; clear hl2; have HO2 := Lib.hid ho2; have HB2 := Lib.hid (HB1.out.trans hb2); clear ho2 hb2))
      go_loopw [8, 9] (fun v i wr => PutRel w m f n u v i wr) (fun _ i _ => (intOf i + 1).toNat)
      case atStart => exact ⟨n, 0, rfl, rfl, HO2.out, HB2.out⟩
      case round =>
        clear HO2 HB2
        obtain ⟨r, k, hrk, rfl, ho, hb⟩ := hrel
        obtain ⟨A3, c3, rfl⟩ := ho.form
        have hl : ((List.range (m + k)).map (byteRow (cat f m (dig u n)))).length = m + k := by simp
        rw [hl] at ho
        have HO3 := Lib.hid ho
        have HB3 := Lib.hid hb
        have hws := hb.size
        have HL := Lib.hid hl
        clear ho hb
        rcases r with _ | j
        · have e : (((0 : Nat) : Int) - 1) = -1 := rfl
          rw [e, hl]
          clear e hl
          have hkn : k = n := by omega
          subst hkn
          go_wp2
          go_ret2
          have h1 := HO3.out.strip_map
          have h2 := HO3.out.at_ (by simp; omega)
          obtain ⟨g, cg, hv, _⟩ := h2
          injection hv with hv
          exact ⟨A3, c3, rfl, h1.2, ⟨_, hv⟩, HB3.out⟩
        · have e : (((j + 1 : Nat) : Int) - 1) = (j : Int) := by omega
          rw [e, hl]
          clear e hl
          have q0 : (0 : Int) ≤ (j : Int) := by omega
          have q1 : (0 : Int) ≤ 8 * (j : Int) := by omega
          have q2 : 8 * (j : Int) < 64 := by omega
          have q3 : (j : Int) < 8 := by omega
          have hw8 : IntKind.u8.wrap (u / 2 ^ (8 * j)) = dig u n k := by
            have hj : n - 1 - k = j := by omega
            rw [wrap8 _ (Int.ediv_nonneg hu (Int.le_of_lt (pow8_pos j))), dig, hj]
          go_wp2_with (at_builtin; refine wpList_app _ rfl (.tmp 40) (.tmp 46) 67 rfl w.heap.size 5 _ 1 1 Try.underlying67 infoByte rfl (by omega) (.slice A3 (m + k) c3) ((List.range (m + k)).map (byteRow (cat f m (dig u n)))) rfl (HO3.out.alloc _) wr.heap.size 1 #[.int .u8 (dig u n k)] rfl rfl (new_row _ _ _) (by intro u hu; simp at hu; subst hu; rfl) (by simp; omega) (by omega) (by simp; omega) ?_; intro v4 w4 ho4 hg4 hb4; have HO4 := Lib.hid ho4; have HB4 := Lib.hid ((HB3.out.alloc hws (.cells #[.int .u8 (dig u n k)] 5)).trans (hb4 _ (Nat.le_refl _))); clear ho4 hg4 hb4)
          have ho5 := HO4.out
          rw [cat_snoc] at ho5
          have HO5 := Lib.hid ho5
          clear ho5
          go_roundw
          case rel => exact ⟨j, k + 1, by omega, rfl, HO5.out, HB4.out⟩
          case measure => simp [intOf]

    · have i3 : (n : Int) < 8 := by omega
      clear h8
      go_enter Try.func34, Try.ntmps34
      go_wp2_with (first | (at_make; refine wpList_make_own _ rfl _ _ 67 rfl w.heap.size 5 i0 (.int .u8 0) 1 Try.underlying67 HIN.out HIN2.out HIN3.out .i64 .i64 _ (m + n) rfl rfl (by omega) (by rw [HIN4.out]; omega) (by unfold maxLen; omega) (Nat.le_refl _) ?_; intro w1 ho1 hg1; have HO := Lib.hid (show OutRow w1 w.heap.size 5 1 (.slice (some ⟨w.heap.size, 0, none⟩) 0 (m + n)) [] from ⟨ho1, fun _ h => by cases h⟩); have HB1 := Lib.hid (show Below w.heap.size w w1 from (Below.refl _ _).grown hg1 (Nat.le_refl _) (fun k hk => by cases hk)); clear ho1 hg1) | (at_builtin; refine wpList_copyS _ rfl (.tmp 31) (.tmp 32) 67 rfl w.heap.size 5 _ 1 1 Try.underlying67 infoByte rfl (by omega) _ rfl HO.out ad m c (byteRow f) rfl (HS.out.below HB1.out) (fun _ => rfl) (fun i u hu => by simp [byteRow] at hu; subst hu; rfl) (by omega) (by omega) HB1.out.size ?_; intro v2 w2 ho2 hb2; rw [cat_lo f m (dig u n)] at ho2; obtain ⟨A2, c2, rfl⟩ := ho2.form; have hl2 : ((List.range m).map (byteRow (cat f m (dig u n)))).length = m := (by simp); rw [hl2] at ho2; rw [hl2]; clear hl2; have HO2 := Lib.hid ho2; have HB2 := Lib.hid (HB1.out.trans hb2); clear ho2 hb2))
      go_loopw [8, 9] (fun v i wr => PutRel w m f n u v i wr) (fun _ i _ => (intOf i + 1).toNat)
      case atStart => exact ⟨n, 0, rfl, rfl, HO2.out, HB2.out⟩
      case round =>
        clear HO2 HB2
        obtain ⟨r, k, hrk, rfl, ho, hb⟩ := hrel
        obtain ⟨A3, c3, rfl⟩ := ho.form
        have hl : ((List.range (m + k)).map (byteRow (cat f m (dig u n)))).length = m + k := by simp
        rw [hl] at ho
        have HO3 := Lib.hid ho
        have HB3 := Lib.hid hb
        have hws := hb.size
        have HL := Lib.hid hl
        clear ho hb
        rcases r with _ | j
        · have e : (((0 : Nat) : Int) - 1) = -1 := rfl
          rw [e, hl]
          clear e hl
          have hkn : k = n := by omega
          subst hkn
          go_wp2
          go_ret2
          have h1 := HO3.out.strip_map
          have h2 := HO3.out.at_ (by simp; omega)
          obtain ⟨g, cg, hv, _⟩ := h2
          injection hv with hv
          exact ⟨A3, c3, rfl, h1.2, ⟨_, hv⟩, HB3.out⟩
        · have e : (((j + 1 : Nat) : Int) - 1) = (j : Int) := by omega
          rw [e, hl]
          clear e hl
          have q0 : (0 : Int) ≤ (j : Int) := by omega
          have q1 : (0 : Int) ≤ 8 * (j : Int) := by omega
          have q2 : 8 * (j : Int) < 64 := by omega
          have q3 : (j : Int) < 8 := by omega
          have hw8 : IntKind.u8.wrap (u / 2 ^ (8 * j)) = dig u n k := by
            have hj : n - 1 - k = j := by omega
            rw [wrap8 _ (Int.ediv_nonneg hu (Int.le_of_lt (pow8_pos j))), dig, hj]
          go_wp2_with (at_builtin; refine wpList_app _ rfl (.tmp 40) (.tmp 46) 67 rfl w.heap.size 5 _ 1 1 Try.underlying67 infoByte rfl (by omega) (.slice A3 (m + k) c3) ((List.range (m + k)).map (byteRow (cat f m (dig u n)))) rfl (HO3.out.alloc _) wr.heap.size 1 #[.int .u8 (dig u n k)] rfl rfl (new_row _ _ _) (by intro u hu; simp at hu; subst hu; rfl) (by simp; omega) (by omega) (by simp; omega) ?_; intro v4 w4 ho4 hg4 hb4; have HO4 := Lib.hid ho4; have HB4 := Lib.hid ((HB3.out.alloc hws (.cells #[.int .u8 (dig u n k)] 5)).trans (hb4 _ (Nat.le_refl _))); clear ho4 hg4 hb4)
          have ho5 := HO4.out
          rw [cat_snoc] at ho5
          have HO5 := Lib.hid ho5
          clear ho5
          go_roundw
          case rel => exact ⟨j, k + 1, by omega, rfl, HO5.out, HB4.out⟩
          case measure => simp [intOf]
end Go.Proofs.Yteaipeejhippiaa
