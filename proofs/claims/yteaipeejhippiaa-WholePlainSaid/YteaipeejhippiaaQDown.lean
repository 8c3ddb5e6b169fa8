/- Down: an item goes down to its place. -/
import Derived.Test.YteaipeejhippiaaQUp
namespace Go.Proofs.Yteaipeejhippiaa
open Go.RowKit
attribute [local go_sem] cell_set_self

theorem iLess_at (w : World) (Q g n m cap i j : Nat) (I J : Int) (hI : I = (i : Int)) (hJ : J = (j : Int)) (d : Nat → Item) (hc : w.cell? ⟨Q, 1, none⟩ = some (.slice (some ⟨g, 0, none⟩) n cap)) (hQ : Q < w.heap.size) (hi : i < m) (hj : j < m) (hm : m ≤ n) (hd : Items w g m cap d) (r : Bool) (hr : lessB (d i) (d j) = r) :
    Calls Try.prog 90 #[.pointer (some ⟨Q, 1, none⟩), .int .i64 I, .int .i64 J] w fun e w' => e = .returned (.bool r) ∧ Below w.heap.size w w' := by
  subst hI hJ hr
  exact iLess_calls w Q g n m cap i j d hc hQ hi hj hm hd
theorem iSwap_at (w : World) (Q g n m cap i j : Nat) (J : Int) (hJ : J = (j : Int)) (d : Nat → Item) (hc : w.cell? ⟨Q, 1, none⟩ = some (.slice (some ⟨g, 0, none⟩) n cap)) (hi : i < m) (hj : j < m) (hm : m ≤ n) (hd : Items w g m cap d) :
    Calls Try.prog 92 #[.pointer (some ⟨Q, 1, none⟩), .int .i64 (i : Int), .int .i64 J] w (SwapPost w g m cap i j d) := by
  subst hJ
  exact iSwap_calls w Q g n m cap i j d hc hi hj hm hd
theorem par_of {k i : Nat} (h : k = 2 * i + 1 ∨ k = 2 * i + 2) : par k = i := by unfold par; omega
set_option maxRecDepth 1000000 in
set_option maxHeartbeats 4000000 in
theorem down_none (w : World) (h : Value) (i n : Nat) (hi : i ≤ 100000) (h2 : n ≤ 2 * i + 1) :
    Calls Try.prog 57 #[h, .int .i64 (i : Int), .int .i64 (n : Int)] w fun e w' => e = .returned (.bool false) ∧ w = w' := by
  have c1 : ¬ (2 * (i : Int) + 1 < (n : Int)) := by omega
  go_enter Try.func57, Try.ntmps57
  go_wp2_with fail
  refine wp_loop_rounds 1 ?_
  rw [rounds_succ]
  go_wp2
  go_ret
  exact ⟨rfl, rfl⟩
def DownPost (w : World) (g m cap n : Nat) (d : Nat → Item) (e : Ending) (w' : World) : Prop := (∃ b : Bool, e = .returned (.bool b)) ∧ UpPost w g m cap n d w'
set_option maxRecDepth 1000000 in
set_option maxHeartbeats 32000000 in
theorem down_calls (w : World) (Q g m cap n i0 : Nat) (d : Nat → Item) (hc : w.cell? ⟨Q, 1, none⟩ = some (.slice (some ⟨g, 0, none⟩) m cap)) (hQ : Q < w.heap.size) (hQg : Q ≠ g) (hm : m ≤ 100000) (hn : n ≤ m) (hi0 : i0 ≤ n) (hd : Items w g m cap d) (hI : DownInv d n i0) :
    Calls Try.prog 57 #[.iface 129 (.pointer (some ⟨Q, 1, none⟩)), .int .i64 (i0 : Int), .int .i64 (n : Int)] w (DownPost w g m cap n d) := by
  have hm5 : m ≤ 100000 := hm
  have HD := Lib.hid hd
  have HI := Lib.hid hI
  have HC := Lib.hid hc
  have HG := Lib.hid (fun h : some Q = some g => hQg (by injection h))
  clear hd hI hc hQg hm
  go_enter Try.func57, Try.ntmps57
  go_wp2_with fail
  go_loopw [7] (fun i wr => ∃ (k : Nat) (dk : Nat → Item), k ≤ n ∧ i = .int .i64 (k : Int) ∧ w.grownBy wr (some g) ∧ Items wr g m cap dk ∧ DownInv dk n k ∧ (∀ x, many dk n x = many d n x) ∧ (∀ k, n ≤ k → dk k = d k)) (fun i _ => n - (intOf i).toNat)
  case atStart => exact ⟨i0, d, hi0, rfl, World.grownBy.refl _ _, HD.out, HI.out, fun _ => rfl, fun _ _ => rfl⟩
  case round =>
    obtain ⟨k, dk, hk, rfl, hg, hdk, hIk, hmm, ho⟩ := hrel
    clear HD HI
    have HGR := Lib.hid hg
    have HD := Lib.hid hdk
    have HI := Lib.hid hIk
    have HM := Lib.hid hmm
    have HO := Lib.hid ho
    have HCR := Lib.hid (hg.cell HC.out HG.out)
    have hQr : Q < wr.heap.size := Nat.lt_of_lt_of_le hQ hg.size
    clear hg hdk hIk hmm ho
    by_cases c1 : 2 * k + 1 < n
    · have d1 : 2 * (k : Int) + 1 < (n : Int) := by omega
      have d1n : ¬ (2 * (k : Int) + 1 < 0) := by omega
      clear c1
      have c1 : 2 * k + 1 < n := by omega
      have ML := m_less
      have MS := m_swap
      by_cases c2 : 2 * k + 2 < n
      · have d2 : 2 * (k : Int) + 1 + 1 < (n : Int) := by omega
        by_cases l1 : Less (dk (2 * k + 2)) (dk (2 * k + 1))
        · have H1 := Lib.hid (iLess_at wr Q g m m cap (2 * k + 2) (2 * k + 1) (2 * (k : Int) + 1 + 1) (2 * (k : Int) + 1) (by omega) (by omega) dk HCR.out hQr (by omega) (by omega) (Nat.le_refl _) HD.out true (decide_eq_true l1))
          have hpj := par_of (k := 2 * k + 2) (i := k) (by omega)
          have hmin : ∀ y, 0 < y → y < n → par y = k → ¬ Less (dk y) (dk (2 * k + 2)) := (fun y a b e => by rcases par_child a e with h | h; (subst h; exact l1.asymm); (subst h; exact Less.irrefl _))
          by_cases l2 : Less (dk (2 * k + 2)) (dk k)
          · have HMIN := Lib.hid hmin
            clear hmin
            have H2 := Lib.hid fun w1 (hb : Below wr.heap.size wr w1) => iLess_at w1 Q g m m cap (2 * k + 2) k (2 * (k : Int) + 1 + 1) k (by omega) rfl dk ((hb.cell (p := ⟨Q, 1, none⟩) hQr).trans HCR.out) (Nat.lt_of_lt_of_le hQr hb.size) (by omega) (by omega) (Nat.le_refl _) (HD.out.later hb) true (decide_eq_true l2)
            have H3 := Lib.hid fun w1 (hb : Below wr.heap.size wr w1) => iSwap_at w1 Q g m m cap k (2 * k + 2) (2 * (k : Int) + 1 + 1) (by omega) dk ((hb.cell (p := ⟨Q, 1, none⟩) hQr).trans HCR.out) (by omega) (by omega) (Nat.le_refl _) (HD.out.later hb)
            have HS := Lib.hid (fun x => many_sw dk k (2 * k + 2) x n (by omega) (by omega))
            have HI2 := Lib.hid (down_go HI.out (by omega) (by omega) hpj l2 HMIN.out)
            clear hpj l2 HMIN l1
            go_wp2_with (first | (go_at_call 90; (with_reducible refine H1.out.mono ?_); rintro e w1 ⟨rfl, hb⟩) | (go_at_call 90; (with_reducible refine (H2.out _ hb).mono ?_); rintro e w2 ⟨rfl, hb2⟩; have hb0 : Below wr.heap.size wr w2 := hb.trans (hb2.mono hb.size)) | (go_at_call 92; (with_reducible refine (H3.out _ hb0).mono ?_); rintro e w3 ⟨rfl, hd3, hg3⟩))
            go_roundw
            case rel => exact ⟨2 * k + 2, _, by omega, congrArg (Value.int .i64) (by omega), grown_trans (grown_below HGR.out hb0) hg3, hd3, HI2.out, fun x => (HS.out x).trans (HM.out x), fun y hy => (sw_o (by omega) (by omega)).trans (HO.out y hy)⟩
            case measure => simp only [intOf]; omega
          · have HMIN := Lib.hid hmin
            clear hmin
            have H2 := Lib.hid fun w1 (hb : Below wr.heap.size wr w1) => iLess_at w1 Q g m m cap (2 * k + 2) k (2 * (k : Int) + 1 + 1) k (by omega) rfl dk ((hb.cell (p := ⟨Q, 1, none⟩) hQr).trans HCR.out) (Nat.lt_of_lt_of_le hQr hb.size) (by omega) (by omega) (Nat.le_refl _) (HD.out.later hb) false (decide_eq_false l2)
            have HH := Lib.hid (down_stop HI.out (fun y a b e => not_less_trans (HMIN.out y a b e) l2))
            clear hpj l2 HMIN l1
            go_wp2_with (first | (go_at_call 90; (with_reducible refine H1.out.mono ?_); rintro e w1 ⟨rfl, hb⟩) | (go_at_call 90; (with_reducible refine (H2.out _ hb).mono ?_); rintro e w2 ⟨rfl, hb2⟩; have hb0 : Below wr.heap.size wr w2 := hb.trans (hb2.mono hb.size)))
            go_ret
            exact ⟨⟨_, rfl⟩, dk, HD.out.later hb0, HH.out, HM.out, HO.out, grown_below HGR.out hb0⟩
        · have H1 := Lib.hid (iLess_at wr Q g m m cap (2 * k + 2) (2 * k + 1) (2 * (k : Int) + 1 + 1) (2 * (k : Int) + 1) (by omega) (by omega) dk HCR.out hQr (by omega) (by omega) (Nat.le_refl _) HD.out false (decide_eq_false l1))
          have hpj := par_of (k := 2 * k + 1) (i := k) (by omega)
          have hmin : ∀ y, 0 < y → y < n → par y = k → ¬ Less (dk y) (dk (2 * k + 1)) := (fun y a b e => by rcases par_child a e with h | h; (subst h; exact Less.irrefl _); (subst h; exact l1))
          by_cases l2 : Less (dk (2 * k + 1)) (dk k)
          · have HMIN := Lib.hid hmin
            clear hmin
            have H2 := Lib.hid fun w1 (hb : Below wr.heap.size wr w1) => iLess_at w1 Q g m m cap (2 * k + 1) k (2 * (k : Int) + 1) k (by omega) rfl dk ((hb.cell (p := ⟨Q, 1, none⟩) hQr).trans HCR.out) (Nat.lt_of_lt_of_le hQr hb.size) (by omega) (by omega) (Nat.le_refl _) (HD.out.later hb) true (decide_eq_true l2)
            have H3 := Lib.hid fun w1 (hb : Below wr.heap.size wr w1) => iSwap_at w1 Q g m m cap k (2 * k + 1) (2 * (k : Int) + 1) (by omega) dk ((hb.cell (p := ⟨Q, 1, none⟩) hQr).trans HCR.out) (by omega) (by omega) (Nat.le_refl _) (HD.out.later hb)
            have HS := Lib.hid (fun x => many_sw dk k (2 * k + 1) x n (by omega) (by omega))
            have HI2 := Lib.hid (down_go HI.out (by omega) (by omega) hpj l2 HMIN.out)
            clear hpj l2 HMIN l1
            go_wp2_with (first | (go_at_call 90; (with_reducible refine H1.out.mono ?_); rintro e w1 ⟨rfl, hb⟩) | (go_at_call 90; (with_reducible refine (H2.out _ hb).mono ?_); rintro e w2 ⟨rfl, hb2⟩; have hb0 : Below wr.heap.size wr w2 := hb.trans (hb2.mono hb.size)) | (go_at_call 92; (with_reducible refine (H3.out _ hb0).mono ?_); rintro e w3 ⟨rfl, hd3, hg3⟩))
            go_roundw
            case rel => exact ⟨2 * k + 1, _, by omega, congrArg (Value.int .i64) (by omega), grown_trans (grown_below HGR.out hb0) hg3, hd3, HI2.out, fun x => (HS.out x).trans (HM.out x), fun y hy => (sw_o (by omega) (by omega)).trans (HO.out y hy)⟩
            case measure => simp only [intOf]; omega
          · have HMIN := Lib.hid hmin
            clear hmin
            have H2 := Lib.hid fun w1 (hb : Below wr.heap.size wr w1) => iLess_at w1 Q g m m cap (2 * k + 1) k (2 * (k : Int) + 1) k (by omega) rfl dk ((hb.cell (p := ⟨Q, 1, none⟩) hQr).trans HCR.out) (Nat.lt_of_lt_of_le hQr hb.size) (by omega) (by omega) (Nat.le_refl _) (HD.out.later hb) false (decide_eq_false l2)
            have HH := Lib.hid (down_stop HI.out (fun y a b e => not_less_trans (HMIN.out y a b e) l2))
            clear hpj l2 HMIN l1
            go_wp2_with (first | (go_at_call 90; (with_reducible refine H1.out.mono ?_); rintro e w1 ⟨rfl, hb⟩) | (go_at_call 90; (with_reducible refine (H2.out _ hb).mono ?_); rintro e w2 ⟨rfl, hb2⟩; have hb0 : Below wr.heap.size wr w2 := hb.trans (hb2.mono hb.size)))
            go_ret
            exact ⟨⟨_, rfl⟩, dk, HD.out.later hb0, HH.out, HM.out, HO.out, grown_below HGR.out hb0⟩
      · have d2 : decide (2 * (k : Int) + 1 + 1 < (n : Int)) = false := decide_eq_false (by omega)
        have hpj := par_of (k := 2 * k + 1) (i := k) (by omega)
        have hmin : ∀ y, 0 < y → y < n → par y = k → ¬ Less (dk y) (dk (2 * k + 1)) := (fun y a b e => by rcases par_child a e with h | h; (subst h; exact Less.irrefl _); omega)
        by_cases l2 : Less (dk (2 * k + 1)) (dk k)
        · have HMIN := Lib.hid hmin
          clear hmin
          have H2 := Lib.hid fun w1 (hb : Below wr.heap.size wr w1) => iLess_at w1 Q g m m cap (2 * k + 1) k (2 * (k : Int) + 1) k (by omega) rfl dk ((hb.cell (p := ⟨Q, 1, none⟩) hQr).trans HCR.out) (Nat.lt_of_lt_of_le hQr hb.size) (by omega) (by omega) (Nat.le_refl _) (HD.out.later hb) true (decide_eq_true l2)
          have H3 := Lib.hid fun w1 (hb : Below wr.heap.size wr w1) => iSwap_at w1 Q g m m cap k (2 * k + 1) (2 * (k : Int) + 1) (by omega) dk ((hb.cell (p := ⟨Q, 1, none⟩) hQr).trans HCR.out) (by omega) (by omega) (Nat.le_refl _) (HD.out.later hb)
          have HS := Lib.hid (fun x => many_sw dk k (2 * k + 1) x n (by omega) (by omega))
          have HI2 := Lib.hid (down_go HI.out (by omega) (by omega) hpj l2 HMIN.out)
          clear hpj l2 HMIN
          go_wp2_with (first | (go_at_call 90; (with_reducible refine (H2.out _ (Below.refl _ _)).mono ?_); rintro e w2 ⟨rfl, hb2⟩; have hb0 : Below wr.heap.size wr w2 := hb2) | (go_at_call 92; (with_reducible refine (H3.out _ hb0).mono ?_); rintro e w3 ⟨rfl, hd3, hg3⟩))
          go_roundw
          case rel => exact ⟨2 * k + 1, _, by omega, congrArg (Value.int .i64) (by omega), grown_trans (grown_below HGR.out hb0) hg3, hd3, HI2.out, fun x => (HS.out x).trans (HM.out x), fun y hy => (sw_o (by omega) (by omega)).trans (HO.out y hy)⟩
          case measure => simp only [intOf]; omega
        · have HMIN := Lib.hid hmin
          clear hmin
          have H2 := Lib.hid fun w1 (hb : Below wr.heap.size wr w1) => iLess_at w1 Q g m m cap (2 * k + 1) k (2 * (k : Int) + 1) k (by omega) rfl dk ((hb.cell (p := ⟨Q, 1, none⟩) hQr).trans HCR.out) (Nat.lt_of_lt_of_le hQr hb.size) (by omega) (by omega) (Nat.le_refl _) (HD.out.later hb) false (decide_eq_false l2)
          have HH := Lib.hid (down_stop HI.out (fun y a b e => not_less_trans (HMIN.out y a b e) l2))
          clear hpj l2 HMIN
          go_wp2_with (first | (go_at_call 90; (with_reducible refine (H2.out _ (Below.refl _ _)).mono ?_); rintro e w2 ⟨rfl, hb2⟩; have hb0 : Below wr.heap.size wr w2 := hb2))
          go_ret
          exact ⟨⟨_, rfl⟩, dk, HD.out.later hb0, HH.out, HM.out, HO.out, grown_below HGR.out hb0⟩
    · have d1 : ¬ (2 * (k : Int) + 1 < (n : Int)) := by omega
      have HH := Lib.hid (down_stop HI.out (fun j a b e => by rcases par_child a e with h | h <;> omega))
      clear c1
      go_wp2_with fail
      go_ret
      exact ⟨⟨_, rfl⟩, dk, HD.out, HH.out, HM.out, HO.out, HGR.out⟩
end Go.Proofs.Yteaipeejhippiaa
