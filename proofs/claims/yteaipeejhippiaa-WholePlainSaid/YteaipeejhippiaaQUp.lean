/- Up: an item goes up to its place. -/
import Derived.Test.YteaipeejhippiaaQHeap
namespace Go.Proofs.Yteaipeejhippiaa
open Go.RowKit
attribute [local go_sem] cell_set_self

theorem m_less (a : Addr) (w : World) : (method 283 129 (.pointer (some a)) "Less").run Try.prog w = .ok (90, .pointer (some a)) w := by kernel_rfl
theorem m_swap (a : Addr) (w : World) : (method 283 129 (.pointer (some a)) "Swap").run Try.prog w = .ok (92, .pointer (some a)) w := by kernel_rfl
theorem m_len (a : Addr) (w : World) : (method 283 129 (.pointer (some a)) "Len").run Try.prog w = .ok (56, .pointer (some a)) w := by kernel_rfl
theorem m_pop (a : Addr) (w : World) : (method 283 129 (.pointer (some a)) "Pop").run Try.prog w = .ok (91, .pointer (some a)) w := by kernel_rfl
/-- A heap of the same items, in the same row. -/
def UpPost (w : World) (g m cap n : Nat) (d : Nat → Item) (w' : World) : Prop := ∃ d', Items w' g m cap d' ∧ Heap d' n ∧ (∀ x, many d' n x = many d n x) ∧ (∀ k, n ≤ k → d' k = d k) ∧ w.grownBy w' (some g)
theorem tdiv_par {k : Nat} (h : 0 < k) : ((k : Int) - 1).tdiv 2 = ((par k : Nat) : Int) := by
  have e : (k : Int) - 1 = ((k - 1 : Nat) : Int) := by omega
  rw [e, Int.tdiv_eq_ediv_of_nonneg (by omega)]
  unfold par
  omega
set_option maxRecDepth 1000000 in
set_option maxHeartbeats 16000000 in
theorem up_calls (w : World) (Q g m cap j : Nat) (d : Nat → Item) (hc : w.cell? ⟨Q, 1, none⟩ = some (.slice (some ⟨g, 0, none⟩) m cap)) (hQ : Q < w.heap.size) (hQg : Q ≠ g) (hm : m ≤ 100000) (hj : j < m) (hd : Items w g m cap d) (hI : UpInv d m j) :
    Calls Try.prog 65 #[.iface 129 (.pointer (some ⟨Q, 1, none⟩)), .int .i64 (j : Int)] w fun e w' => e = .returned (.tuple #[]) ∧ UpPost w g m cap m d w' := by
  have hm5 : m ≤ 100000 := hm
  clear hm
  have HD := Lib.hid hd
  have HI := Lib.hid hI
  have HC := Lib.hid hc
  have HG := Lib.hid (fun h : some Q = some g => hQg (by injection h))
  clear hd hI hc hQg
  go_enter Try.func65, Try.ntmps65
  go_wp2_with fail
  go_loopw [1] (fun i wr => ∃ (k : Nat) (dk : Nat → Item), k < m ∧ i = .int .i64 (k : Int) ∧ w.grownBy wr (some g) ∧ Items wr g m cap dk ∧ UpInv dk m k ∧ (∀ x, many dk m x = many d m x) ∧ (∀ k, m ≤ k → dk k = d k)) (fun i _ => (intOf i).toNat)
  case atStart => exact ⟨j, d, hj, rfl, World.grownBy.refl _ _, HD.out, HI.out, fun _ => rfl, fun _ _ => rfl⟩
  case round =>
    obtain ⟨k, dk, hk, rfl, hg, hdk, hIk, hm, ho⟩ := hrel
    clear HD HI
    have HGR := Lib.hid hg
    have HD := Lib.hid hdk
    have HI := Lib.hid hIk
    have HM := Lib.hid hm
    have HO := Lib.hid ho
    have HCR := Lib.hid (hg.cell HC.out HG.out)
    have hQr : Q < wr.heap.size := Nat.lt_of_lt_of_le hQ hg.size
    clear hg hdk hIk hm ho
    by_cases h0 : k = 0
    · subst h0
      go_wp2_with fail
      go_end0
      exact ⟨rfl, dk, HD.out, up_stop HI.out (.inl rfl), HM.out, HO.out, HGR.out⟩
    · have hk1 : 1 ≤ k := by omega
      have ht := tdiv_par (k := k) (by omega)
      have hp : par k < k := by unfold par; omega
      have ML := m_less
      have MS := m_swap
      by_cases hl : Less (dk k) (dk (par k))
      · have hlb : lessB (dk k) (dk (par k)) = true := decide_eq_true hl
        have h1 := iLess_calls wr Q g m m cap k (par k) dk HCR.out hQr hk (by omega) (Nat.le_refl _) HD.out
        rw [hlb] at h1
        have H1 := Lib.hid h1
        have H2 := Lib.hid fun w1 (hb : Below wr.heap.size wr w1) => iSwap_calls w1 Q g m m cap (par k) k dk ((hb.cell (p := ⟨Q, 1, none⟩) hQr).trans HCR.out) (by omega) hk (Nat.le_refl _) (HD.out.later hb)
        have HS := Lib.hid (fun x => many_sw dk (par k) k x m (by omega) hk)
        have HI2 := Lib.hid (up_go HI.out (by omega) hk hl)
        clear h1 hlb hl
        generalize par k = i at *
        have hne : ((i : Int) == (k : Int)) = false := by rw [beq_eq_false_iff_ne]; omega
        go_wp2_with (first | (go_at_call 90; (with_reducible refine H1.out.mono ?_); rintro e w1 ⟨rfl, hb⟩) | (go_at_call 92; (with_reducible refine (H2.out _ hb).mono ?_); rintro e w2 ⟨rfl, hd2, hg2⟩))
        go_roundw
        case rel => exact ⟨i, _, by omega, rfl, grown_trans (grown_below HGR.out hb) hg2, hd2, HI2.out, fun x => (HS.out x).trans (HM.out x), fun y hy => (sw_o (by omega) (by omega)).trans (HO.out y hy)⟩
        case measure => simp only [intOf]; omega
      · have hlb : lessB (dk k) (dk (par k)) = false := decide_eq_false hl
        have h1 := iLess_calls wr Q g m m cap k (par k) dk HCR.out hQr hk (by omega) (Nat.le_refl _) HD.out
        rw [hlb] at h1
        have H1 := Lib.hid h1
        have HH := Lib.hid (up_stop HI.out (.inr hl))
        clear h1 hlb hl
        generalize par k = i at *
        have hne : ((i : Int) == (k : Int)) = false := by rw [beq_eq_false_iff_ne]; omega
        go_wp2_with (first | (go_at_call 90; (with_reducible refine H1.out.mono ?_); rintro e w1 ⟨rfl, hb⟩))
        go_end0
        exact ⟨rfl, dk, HD.out.later hb, HH.out, HM.out, HO.out, grown_below HGR.out hb⟩
end Go.Proofs.Yteaipeejhippiaa
