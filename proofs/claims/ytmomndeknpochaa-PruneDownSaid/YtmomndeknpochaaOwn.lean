/- What a tunnel has already of a link. -/
import Derived.Test.YtmomndeknpochaaPairs
namespace Go.Proofs.Ytmomndeknpochaa
open Go.RowKit
attribute [local go_sem] cell_set_self

def owns (s d b : Nat → Int) : Nat → Array Value := fun i => #[.int .i64 (s i), .int .i64 (d i), .int .u64 (b i)]
/-- The most that is held, of the first n. -/
def hasN (s d b : Nat → Int) (v u : Int) : Nat → Int
  | 0 => 0
  | n + 1 => if s n = v ∧ d n = u then (if hasN s d b v u n < b n then b n else hasN s d b v u n) else hasN s d b v u n

set_option maxHeartbeats 4000000 in
theorem RHas_calls (w : World) (q : Wnt) (A1 A2 A3 : Option Addr) (n1 n2 n3 k1 k2 k3 : Nat) (hops : Int) (s d b : Nat → Int) (v u : Int) (hn : n3 ≤ 9223372036854775807) (hs : Strip w A3 n3 3 (owns s d b)) :
    Calls Try.prog 25 #[.agg #[.int .u64 q.bw, .int .i64 q.setup, .int .i64 q.hold, .int .u32 q.any, .int .u32 q.all, .int .u32 q.none, .slice A1 n1 k1, .slice A2 n2 k2, .slice A3 n3 k3, .int .i64 hops], .int .i64 v, .int .i64 u] w fun e w' => e = .returned (.int .u64 (hasN s d b v u n3)) ∧ Below w.heap.size w w' := by
  have HS := Lib.hid hs
  clear hs
  go_enter Try.func25, Try.ntmps25
  go_wp2
  have HB := Lib.hid (show Below w.heap.size w (w.alloc (.cells #[.int .u64 q.bw, .int .i64 q.setup, .int .i64 q.hold, .int .u32 q.any, .int .u32 q.all, .int .u32 q.none, .slice A1 n1 k1, .slice A2 n2 k2, .slice A3 n3 k3, .int .i64 hops] 31)) from (Below.refl _ _).alloc (Nat.le_refl _) _)
  go_loop [7, 8] (fun m i => ∃ k : Nat, k ≤ n3 ∧ i = .int .i64 (k : Int) ∧ m = .int .u64 (hasN s d b v u k)) (fun _ i => n3 - (intOf i).toNat)
  case atStart => exact ⟨0, by omega, rfl, rfl⟩
  case round =>
    obtain ⟨k, hk, rfl, rfl⟩ := hrel
    by_cases hlt : k < n3
    · obtain ⟨ad, rfl, hadb, hc⟩ := HS.out (by omega)
      have g0 : w.cell? (ad.add (k * 3)) = some (.int .i64 (s k)) := hc k hlt 0 (by omega)
      have g1 : w.cell? ⟨(ad.add (k * 3)).block, (ad.add (k * 3)).off + 1, none⟩ = some (.int .i64 (d k)) := hc k hlt 1 (by omega)
      have g2 : w.cell? ⟨(ad.add (k * 3)).block, (ad.add (k * 3)).off + 2, none⟩ = some (.int .u64 (b k)) := hc k hlt 2 (by omega)
      clear hc
      have hadb2 : (ad.add (k * 3)).block < w.heap.size := by rw [add_block]; exact hadb
      by_cases e1 : s k = v <;> by_cases e2 : d k = u
      all_goals
        have hst : hasN s d b v u (k + 1) = hasN s d b v u (k + 1) := rfl
        conv at hst => rhs; unfold hasN
        simp only [e1, e2, and_self, and_true, and_false, if_true, if_false] at hst
        have HT := Lib.hid hst
        clear hst
        go_wp2
        exact ⟨⟨k + 1, by omega, num_step k, (by rw [HT.out])⟩, measure_step hlt⟩
    · go_wp2
      obtain rfl : k = n3 := by omega
      go_ret
      exact ⟨rfl, HB.out⟩
set_option maxHeartbeats 4000000 in
theorem PHas_calls (w : World) (q : Wnt) (A1 A2 A3 : Option Addr) (n1 n2 n3 k1 k2 k3 : Nat) (hops : Int) (s d b : Nat → Int) (x : Adv) (hn : n3 ≤ 9223372036854775807) (hs : Strip w A3 n3 3 (owns s d b)) :
    Calls Try.prog 20 #[.agg #[.int .u64 q.bw, .int .i64 q.setup, .int .i64 q.hold, .int .u32 q.any, .int .u32 q.all, .int .u32 q.none, .slice A1 n1 k1, .slice A2 n2 k2, .slice A3 n3 k3, .int .i64 hops], .agg #[.int .i64 x.src, .int .i64 x.dst, .int .u64 x.cap, .int .i64 x.metric, .int .u32 x.groups]] w fun e w' => e = .returned (.int .u64 (hasN s d b x.src x.dst n3)) ∧ Below w.heap.size w w' := by
  have HS := Lib.hid hs
  clear hs
  go_enter Try.func20, Try.ntmps20
  go_wp2
  have HB := Lib.hid (show Below w.heap.size w ((w.alloc (.cells #[.int .u64 q.bw, .int .i64 q.setup, .int .i64 q.hold, .int .u32 q.any, .int .u32 q.all, .int .u32 q.none, .slice A1 n1 k1, .slice A2 n2 k2, .slice A3 n3 k3, .int .i64 hops] 44)).alloc (.cells #[.int .i64 x.src, .int .i64 x.dst, .int .u64 x.cap, .int .i64 x.metric, .int .u32 x.groups] 35)) from (by repeat (first | (with_reducible exact Below.refl _ _) | (with_reducible assumption) | ((with_reducible refine Below.setCell ?_ ?_ _); rotate_left; (first | omega | (simp <;> omega))) | ((with_reducible refine Below.alloc ?_ ?_ _); rotate_left; (first | omega | (simp <;> omega))) | ((with_reducible refine Below.drew ?_)) | ((with_reducible refine below_drewN ?_ _)) | ((with_reducible refine Below.trans ?_ (Below.mono (by with_reducible assumption) ?_)); rotate_left; (first | omega | (simp <;> omega))))))
  have HR2 := Lib.hid (Row.new' (w.alloc (.cells #[.int .u64 q.bw, .int .i64 q.setup, .int .i64 q.hold, .int .u32 q.any, .int .u32 q.all, .int .u32 q.none, .slice A1 n1 k1, .slice A2 n2 k2, .slice A3 n3 k3, .int .i64 hops] 44)) (B := w.heap.size + 1) #[.int .i64 x.src, .int .i64 x.dst, .int .u64 x.cap, .int .i64 x.metric, .int .u32 x.groups] 35 (by simp))
  go_loopw [5, 11] (fun m i wr => ∃ k : Nat, k ≤ n3 ∧ i = .int .i64 (k : Int) ∧ m = .int .u64 (hasN s d b x.src x.dst k) ∧ Below w.heap.size w wr ∧ Row wr (w.heap.size + 1) #[.int .i64 x.src, .int .i64 x.dst, .int .u64 x.cap, .int .i64 x.metric, .int .u32 x.groups]) (fun _ i _ => n3 - (intOf i).toNat)
  case atStart => exact ⟨0, by omega, rfl, rfl, HB.out, HR2.out⟩
  case round =>
    obtain ⟨k, hk, rfl, rfl, hbel, hr⟩ := hrel
    clear HB HR2
    have HB := Lib.hid hbel
    have HR2 := Lib.hid hr
    clear hbel
    obtain ⟨c1, f1, s1⟩ := hr
    by_cases hlt : k < n3
    · obtain ⟨ad, rfl, hadb, hc⟩ := HS.out (by omega)
      have hadb1 : (ad.add (k * 3)).block < w.heap.size := by rw [add_block]; exact hadb
      have g0 : wr.cell? (ad.add (k * 3)) = some (.int .i64 (s k)) := (HB.out.cell hadb1).trans (hc k hlt 0 (by omega))
      have g1 : wr.cell? ⟨(ad.add (k * 3)).block, (ad.add (k * 3)).off + 1, none⟩ = some (.int .i64 (d k)) := (HB.out.cell (by show (ad.add (k * 3)).block < _; exact hadb1)).trans (hc k hlt 1 (by omega))
      have g2 : wr.cell? ⟨(ad.add (k * 3)).block, (ad.add (k * 3)).off + 2, none⟩ = some (.int .u64 (b k)) := (HB.out.cell (by show (ad.add (k * 3)).block < _; exact hadb1)).trans (hc k hlt 2 (by omega))
      clear hc
      have hadb2 : (ad.add (k * 3)).block < wr.heap.size := by omega
      have hge : w.heap.size ≤ wr.heap.size := HB.out.size
      by_cases e1 : s k = x.src <;> by_cases e2 : d k = x.dst
      all_goals
        have hst : hasN s d b x.src x.dst (k + 1) = hasN s d b x.src x.dst (k + 1) := rfl
        conv at hst => rhs; unfold hasN
        simp only [e1, e2, and_self, and_true, and_false, if_true, if_false] at hst
        have HT := Lib.hid hst
        clear hst
        go_wp2
        go_roundw
        case rel => exact ⟨k + 1, by omega, num_step k, (by rw [HT.out]), HB.out.alloc hge _, HR2.out.alloc _⟩
        case measure => exact measure_step hlt
    · go_wp2
      obtain rfl : k = n3 := by omega
      go_ret
      exact ⟨rfl, HB.out⟩
end Go.Proofs.Ytmomndeknpochaa
