/- Adverts as bytes: tedb.Encode. -/
import Derived.Test.YteaipeejhippiaaFNums
namespace Go.Proofs.Yteaipeejhippiaa
open Go.RowKit
attribute [local go_sem] cell_set_self
set_option linter.unusedVariables false

/-- The bytes of number i. -/
def digs (u : Int) (n : Nat) : List Int := (List.range n).map (dig u n)
/-- The bytes of the first k numbers of an advert. -/
def encN (x : Adv) (k : Nat) : List Int := (List.range k).flatMap fun i => digs (val x i) (sz i)
/-- The bytes of adverts. -/
def encL (xs : List Adv) : List Int := xs.flatMap fun x => encN x 16
def nthI (bs : List Int) (i : Nat) : Int := bs.getD i 0
theorem digs_length (u : Int) (n : Nat) : (digs u n).length = n := by simp [digs]
theorem encN_succ (x : Adv) (k : Nat) : encN x (k + 1) = encN x k ++ digs (val x k) (sz k) := by
  unfold encN
  rw [List.range_succ, List.flatMap_append]
  simp
theorem encN_length (x : Adv) (k : Nat) : (encN x k).length ≤ k * 8 := by
  induction k with
  | zero => simp [encN]
  | succ k ih =>
    rw [encN_succ, List.length_append, digs_length]
    have := (sz_bounds k).2
    omega
theorem encN_full (x : Adv) : (encN x 16).length = 88 := by
  simp [encN, List.range_succ, digs_length, sz]
theorem encL_length (xs : List Adv) : (encL xs).length = xs.length * 88 := by
  induction xs with
  | nil => rfl
  | cons x xs ih =>
    have e : encL (x :: xs) = encN x 16 ++ encL xs := rfl
    rw [e, List.length_append, ih, encN_full, List.length_cons]
    omega
theorem encL_snoc (xs : List Adv) (x : Adv) : encL (xs ++ [x]) = encL xs ++ encN x 16 := by simp [encL]
theorem cat_nth (bs : List Int) (u : Int) (n i : Nat) (h : i < bs.length + n) : cat (nthI bs) bs.length (dig u n) i = nthI (bs ++ digs u n) i := by
  unfold cat nthI
  by_cases hi : i < bs.length
  · rw [if_pos hi, List.getD_eq_getElem?_getD, List.getD_eq_getElem?_getD, List.getElem?_append_left hi]
  · rw [if_neg hi, List.getD_eq_getElem?_getD, List.getElem?_append_right (by omega), digs, List.getElem?_map, List.getElem?_range (by omega)]
    rfl
theorem Strip.congr {w : World} {A : Option Addr} {n k : Nat} {f g : Nat → Array Value} (h : Strip w A n k f) (e : ∀ i, i < n → f i = g i) : Strip w A n k g := fun h0 => by
  obtain ⟨ad, e1, hl, hc⟩ := h h0
  exact ⟨ad, e1, hl, fun i hi j hj => (hc i hi j hj).trans (by rw [e i hi])⟩
/-- A slice of these bytes, at v. -/
def BV (w : World) (v : Value) (bs : List Int) : Prop := ∃ A c, v = .slice A bs.length c ∧ Strip w A bs.length 1 (byteRow (nthI bs)) ∧ (A = none → bs.length = 0 ∧ c = 0)
theorem BV.later {w w' : World} {v : Value} {bs : List Int} (h : BV w v bs) (hb : Below w.heap.size w w') : BV w' v bs := by
  obtain ⟨A, c, h1, h2, h3⟩ := h
  exact ⟨A, c, h1, h2.below hb, h3⟩
theorem Put_bytes (w : World) (v : Value) (bs : List Int) (n : Nat) (u : Int) (h : BV w v bs) (hm : bs.length ≤ 10000) (hn1 : 1 ≤ n) (hn8 : n ≤ 8) (hu : 0 ≤ u) (hu2 : u < 2 ^ (8 * n)) : Calls Try.prog 34 #[v, .int .i64 (n : Int), .int .u64 u] w fun e w' => ∃ A m c, e = .returned (.tuple #[.slice A m c, .int .i64 0]) ∧ BV w' (.slice A m c) (bs ++ digs u n) ∧ Below w.heap.size w w' := by
  obtain ⟨A, c, rfl, h2, h3⟩ := h
  refine (Put_calls w A bs.length c (nthI bs) n u hm h2 h3 hn1 hn8 hu hu2).mono fun e w' hp => ?_
  obtain ⟨A', c', rfl, hs, ⟨ad, rfl⟩, hb⟩ := hp
  have hl : (bs ++ digs u n).length = bs.length + n := by rw [List.length_append, digs_length]
  refine ⟨_, _, _, rfl, ⟨_, c', by rw [hl], ?_, fun e => by cases e⟩, hb⟩
  rw [hl]
  exact hs.congr fun i hi => by unfold byteRow; rw [cat_nth _ _ _ _ hi]
def EncPost (w : World) (xs : List Adv) (e : Ending) (w' : World) : Prop := ∃ A m c, e = .returned (.tuple #[.slice A m c, .int .i64 0]) ∧ BV w' (.slice A m c) (encL xs) ∧ Below w.heap.size w w'
theorem nth_take (xs : List Adv) (k : Nat) (hk : k < xs.length) : xs.take (k + 1) = xs.take k ++ [nth xs k] := by
  rw [List.take_succ_eq_append_getElem hk]
  unfold nth
  rw [List.getD_eq_getElem?_getD, List.getElem?_eq_getElem hk]
  rfl
def EncRel (w : World) (xs : List Adv) (v i : Value) (wr : World) : Prop := ∃ k : Nat, k ≤ xs.length ∧ i = .int .i64 (k : Int) ∧ BV wr v (encL (xs.take k)) ∧ Below w.heap.size w wr
def EncRel2 (w : World) (bs : List Int) (x : Adv) (v i : Value) (wr : World) : Prop := ∃ k : Nat, k ≤ 16 ∧ i = .int .i64 (k : Int) ∧ BV wr v (bs ++ encN x k) ∧ Below w.heap.size w wr
set_option maxRecDepth 100000 in
set_option maxHeartbeats 8000000 in
theorem Encode_calls (w : World) (A : Option Addr) (c : Nat) (xs : List Adv) (hn : xs.length ≤ 64) (hs : Strip w A xs.length 15 (fun i => advert (nth xs i))) (hf : ∀ i, i < xs.length → (nth xs i).Fine ∧ (nth xs i).Wf ∧ I64 (nth xs i).src ∧ I64 (nth xs i).dst) : Calls Try.prog 21 #[.slice A xs.length c] w (EncPost w xs) := by
  have HS := Lib.hid hs
  have HF := Lib.hid hf
  have hni : (xs.length : Int) ≤ 64 := by omega
  clear hs hf
  go_enter Try.func21, Try.ntmps21
  go_wp2
  go_loopw [4, 14] (fun v i wr => EncRel w xs v i wr) (fun _ i _ => xs.length - (intOf i).toNat)
  case atStart => exact ⟨0, Nat.zero_le _, rfl, ⟨none, 0, rfl, fun h => absurd h (by simp [encL]), fun _ => ⟨rfl, rfl⟩⟩, Below.refl _ _⟩
  case round =>
    obtain ⟨k, hk, rfl, hv, hb⟩ := hrel
    obtain ⟨A1, c1, rfl, hv1, hv2⟩ := hv
    have HV := Lib.hid (show BV wr (.slice A1 (encL (xs.take k)).length c1) (encL (xs.take k)) from ⟨A1, c1, rfl, hv1, hv2⟩)
    have HB := Lib.hid hb
    have hws := hb.size
    clear hb hv1 hv2
    by_cases hlt : k < xs.length
    · have i0 : (0 : Int) ≤ (k : Int) := by omega
      have i1 : (k : Int) < (xs.length : Int) := by omega
      obtain ⟨f1, f2, f3, f4⟩ := HF.out k hlt
      have HX := Lib.hid f1
      have HX2 := Lib.hid f2
      have HM := Lib.hid fun (w' : World) => (show Calls Try.prog 18 #[.agg #[.int .i64 (nth xs k).src, .int .i64 (nth xs k).dst, .int .u64 (nth xs k).cap, .int .i64 (nth xs k).metric, .int .u32 (nth xs k).groups, .int .i64 (nth xs k).seq, .bool (nth xs k).up, .int .u64 ((nth xs k).free 0), .int .u64 ((nth xs k).free 1), .int .u64 ((nth xs k).free 2), .int .u64 ((nth xs k).free 3), .int .u64 ((nth xs k).free 4), .int .u64 ((nth xs k).free 5), .int .u64 ((nth xs k).free 6), .int .u64 ((nth xs k).free 7)]] w' fun e w'' => e = .returned (.bool true) ∧ Below w'.heap.size w' w'' from by rw [← mayB_yes f1]; exact May_calls w' (nth xs k) f3 f4)
      have HN := Lib.hid fun (w' : World) => numbers_calls w' (nth xs k) f1 f2
      obtain ⟨ad, rfl, hadb, gg⟩ := HS.out.adv hlt
      have gg := gg wr HB.out
      have g0 : wr.cell? (ad.add (k * 15)) = some (.int .i64 (nth xs k).src) := gg 0 (by omega); have g1 : wr.cell? ⟨(ad.add (k * 15)).block, (ad.add (k * 15)).off + 1, none⟩ = some (.int .i64 (nth xs k).dst) := gg 1 (by omega); have g2 : wr.cell? ⟨(ad.add (k * 15)).block, (ad.add (k * 15)).off + 2, none⟩ = some (.int .u64 (nth xs k).cap) := gg 2 (by omega); have g3 : wr.cell? ⟨(ad.add (k * 15)).block, (ad.add (k * 15)).off + 3, none⟩ = some (.int .i64 (nth xs k).metric) := gg 3 (by omega); have g4 : wr.cell? ⟨(ad.add (k * 15)).block, (ad.add (k * 15)).off + 4, none⟩ = some (.int .u32 (nth xs k).groups) := gg 4 (by omega); have g5 : wr.cell? ⟨(ad.add (k * 15)).block, (ad.add (k * 15)).off + 5, none⟩ = some (.int .i64 (nth xs k).seq) := gg 5 (by omega); have g6 : wr.cell? ⟨(ad.add (k * 15)).block, (ad.add (k * 15)).off + 6, none⟩ = some (.bool (nth xs k).up) := gg 6 (by omega); have g7 : wr.cell? ⟨(ad.add (k * 15)).block, (ad.add (k * 15)).off + 7, none⟩ = some (.int .u64 ((nth xs k).free 0)) := gg 7 (by omega); have g8 : wr.cell? ⟨(ad.add (k * 15)).block, (ad.add (k * 15)).off + 8, none⟩ = some (.int .u64 ((nth xs k).free 1)) := gg 8 (by omega); have g9 : wr.cell? ⟨(ad.add (k * 15)).block, (ad.add (k * 15)).off + 9, none⟩ = some (.int .u64 ((nth xs k).free 2)) := gg 9 (by omega); have g10 : wr.cell? ⟨(ad.add (k * 15)).block, (ad.add (k * 15)).off + 10, none⟩ = some (.int .u64 ((nth xs k).free 3)) := gg 10 (by omega); have g11 : wr.cell? ⟨(ad.add (k * 15)).block, (ad.add (k * 15)).off + 11, none⟩ = some (.int .u64 ((nth xs k).free 4)) := gg 11 (by omega); have g12 : wr.cell? ⟨(ad.add (k * 15)).block, (ad.add (k * 15)).off + 12, none⟩ = some (.int .u64 ((nth xs k).free 5)) := gg 12 (by omega); have g13 : wr.cell? ⟨(ad.add (k * 15)).block, (ad.add (k * 15)).off + 13, none⟩ = some (.int .u64 ((nth xs k).free 6)) := gg 13 (by omega); have g14 : wr.cell? ⟨(ad.add (k * 15)).block, (ad.add (k * 15)).off + 14, none⟩ = some (.int .u64 ((nth xs k).free 7)) := gg 14 (by omega)
      clear gg f1 f2 f3 f4
      go_upto_region 10 with (first | (go_at_call 18; (with_reducible refine (HM.out _).mono ?_); rintro e w1 ⟨rfl, hb⟩; have HRX := Lib.hid ((Row.new wr #[.int .i64 (nth xs k).src, .int .i64 (nth xs k).dst, .int .u64 (nth xs k).cap, .int .i64 (nth xs k).metric, .int .u32 (nth xs k).groups, .int .i64 (nth xs k).seq, .bool (nth xs k).up, .int .u64 ((nth xs k).free 0), .int .u64 ((nth xs k).free 1), .int .u64 ((nth xs k).free 2), .int .u64 ((nth xs k).free 3), .int .u64 ((nth xs k).free 4), .int .u64 ((nth xs k).free 5), .int .u64 ((nth xs k).free 6), .int .u64 ((nth xs k).free 7)] 41).later hb); have HB1 := Lib.hid (HB.out.trans ((Below.alloc (Below.refl wr.heap.size wr) (Nat.le_refl _) (.cells #[.int .i64 (nth xs k).src, .int .i64 (nth xs k).dst, .int .u64 (nth xs k).cap, .int .i64 (nth xs k).metric, .int .u32 (nth xs k).groups, .int .i64 (nth xs k).seq, .bool (nth xs k).up, .int .u64 ((nth xs k).free 0), .int .u64 ((nth xs k).free 1), .int .u64 ((nth xs k).free 2), .int .u64 ((nth xs k).free 3), .int .u64 ((nth xs k).free 4), .int .u64 ((nth xs k).free 5), .int .u64 ((nth xs k).free 6), .int .u64 ((nth xs k).free 7)] 41)).trans (hb.mono (by simp)) |>.mono hws)); have HV1 := Lib.hid (HV.out.later (show Below wr.heap.size wr w1 from (by repeat (first | (with_reducible exact Below.refl _ _) | (with_reducible assumption) | ((with_reducible refine Below.setCell ?_ ?_ _); rotate_left; (first | omega | (simp <;> omega))) | ((with_reducible refine Below.alloc ?_ ?_ _); rotate_left; (first | omega | (simp <;> omega))) | ((with_reducible refine Below.drew ?_)) | ((with_reducible refine below_drewN ?_ _)) | ((with_reducible refine Below.trans ?_ (Below.mono (by with_reducible assumption) ?_)); rotate_left; (first | omega | (simp <;> omega))))))); obtain ⟨cx, fx, sx⟩ := HRX.out; clear hb) | (go_at_call 33; (with_reducible refine (HN.out _).mono ?_); rintro e w2 ⟨A2, c2, rfl, hs2, hb2⟩; have HS2 := Lib.hid hs2; have HB2 := Lib.hid (HB1.out.trans (hb2.mono HB1.out.size)); have HV2 := Lib.hid (HV1.out.later hb2); clear hs2 hb2 cx fx sx))
      have hkl : (encL (xs.take k)).length ≤ 5544 := by rw [encL_length, List.length_take]; omega
      have HXT := Lib.hid (show encL (xs.take (k + 1)) = encL (xs.take k) ++ encN (nth xs k) 16 from by rw [nth_take xs k hlt, encL_snoc])
      have hw2 : w.heap.size ≤ w2.heap.size := HB2.out.size
      generalize encL (xs.take k) = bs at *
      clear HM HN HV HV1 HB1 HB
      go_loopw [4, 24] (fun v i wx => EncRel2 w2 bs (nth xs k) v i wx) (fun _ i _ => 16 - (intOf i).toNat)
      case atStart => exact ⟨0, by omega, rfl, by simpa [encN] using HV2.out, Below.refl _ _⟩
      case round =>
        clear HV2
        obtain ⟨j, hj, rfl, hv, hb⟩ := hrel
        have HV := Lib.hid hv
        obtain ⟨A3, c3, rfl, _, _⟩ := hv
        have HB := Lib.hid hb
        have hwx := hb.size
        clear hb
        have HP := Lib.hid fun (w' : World) (hj : j < 16) (h : BV w' (.slice A3 (bs ++ encN (nth xs k) j).length c3) (bs ++ encN (nth xs k) j)) => Put_bytes w' _ (bs ++ encN (nth xs k) j) (sz j) (val (nth xs k) j) h (by rw [List.length_append]; have := encN_length (nth xs k) j; omega) (sz_bounds j).1 (sz_bounds j).2 (val_fits HX.out HX2.out j hj).1 (val_fits HX.out HX2.out j hj).2
        generalize (bs ++ encN (nth xs k) j).length = L at *
        by_cases hlj : j < 16
        · have j0 : (0 : Int) ≤ (j : Int) := by omega
          have j1 : (j : Int) < 16 := by omega
          obtain ⟨ad2, rfl, hadb2, hc2⟩ := HS2.out (by omega)
          have g0 : wr.cell? (ad2.add (j * 2)) = some (.int .i64 (sz j : Int)) := (HB.out.cell (by rw [add_block]; exact hadb2)).trans (hc2 j hlj 0 (by omega))
          have g1 : wr.cell? ⟨(ad2.add (j * 2)).block, (ad2.add (j * 2)).off + 1, none⟩ = some (.int .u64 (val (nth xs k) j)) := (HB.out.cell (by show (ad2.add (j * 2)).block < _; rw [add_block]; exact hadb2)).trans (hc2 j hlj 1 (by omega))
          clear hc2
          go_wp2_with (go_at_call 34; (with_reducible refine (HP.out _ hlj (HV.out.later (by repeat (first | (with_reducible exact Below.refl _ _) | (with_reducible assumption) | ((with_reducible refine Below.setCell ?_ ?_ _); rotate_left; (first | omega | (simp <;> omega))) | ((with_reducible refine Below.alloc ?_ ?_ _); rotate_left; (first | omega | (simp <;> omega))) | ((with_reducible refine Below.drew ?_)) | ((with_reducible refine below_drewN ?_ _)) | ((with_reducible refine Below.trans ?_ (Below.mono (by with_reducible assumption) ?_)); rotate_left; (first | omega | (simp <;> omega))))))).mono ?_); rintro e w3 ⟨A4, m4, c4, rfl, hv4, hb4⟩; have HV4 := Lib.hid hv4; have HB4 := Lib.hid hb4; clear hv4 hb4)
          have hv5 := HV4.out
          rw [List.append_assoc, ← encN_succ] at hv5
          have HV5 := Lib.hid hv5
          have HB5 := Lib.hid ((HB.out.alloc hwx (.cells #[.int .i64 (sz j : Int), .int .u64 (val (nth xs k) j)] 104)).trans (HB4.out.mono (by simp; omega)))
          clear hv5
          go_roundw
          case rel => exact ⟨j + 1, by omega, num_step j, HV5.out, HB5.out⟩
          case measure => exact measure_step hlj
        · obtain rfl : j = 16 := by omega
          have HV6 := Lib.hid (show BV wr (.slice A3 L c3) (encL (xs.take (k + 1))) from by rw [HXT.out]; exact HV.out)
          have HB6 := Lib.hid (HB2.out.trans (HB.out.mono hw2))
          go_wp2
          go_roundw
          case rel => exact ⟨k + 1, by omega, num_step k, HV6.out, HB6.out⟩
          case measure => exact measure_step hlt
    · obtain rfl : k = xs.length := by omega
      have hv := HV.out
      rw [List.take_length] at hv
      rw [List.take_length]
      have HV := Lib.hid hv
      clear hv
      go_wp2
      go_ret2
      exact ⟨_, _, _, rfl, HV.out, HB.out⟩
end Go.Proofs.Yteaipeejhippiaa
