/- The best route to a node: spf.Best. -/
import Derived.Test.YteaipeejhippiaaPAll
namespace Go.Proofs.Yteaipeejhippiaa
open Go.RowKit
attribute [local go_sem] cell_set_self
set_option linter.unusedVariables false

/-- May there be such a search? -/
def Asks (n : Int) (m : Nat) (x : Nat → Lnk) (fr tt : Int) : Prop := Net n m x ∧ 0 ≤ fr ∧ fr < n ∧ 0 ≤ tt ∧ tt < n ∧ fr ≠ tt
theorem BestBad_calls (w : World) (A : Option Addr) (m c : Nat) (x : Nat → Lnk) (n fr tt : Int) (hm : m ≤ 1000) (hx : ∀ i, i < m → I64 (x i).src ∧ I64 (x i).dst) (hs : Strip w A m 5 (fun i => link (x i))) (hbad : ¬ Asks n m x fr tt) :
    Calls Try.prog 12 #[.int .i64 n, .slice A m c, .int .i64 fr, .int .i64 tt] w fun e w' => e = .returned (.tuple #[.slice none 0 0, .int .i64 0, .int .i64 2]) ∧ Below w.heap.size w w' := by
  by_cases h1 : ¬ Net n m x ∨ fr < 0 ∨ n ≤ fr
  · have HA := Lib.hid (AllBad_calls w A m c x n fr hm hx hs h1)
    clear hm hx hs hbad h1
    go_enter Try.func12, Try.ntmps12
    go_wp2_with (go_at_call 23; (with_reducible refine HA.out.mono ?_); rintro e w1 ⟨rfl, hb⟩)
    go_ret3
    exact ⟨rfl, hb⟩
  · have hN : Net n m x := Classical.byContradiction fun h => h1 (.inl h)
    have h0 : 0 ≤ fr := by omega
    have h2 : fr < n := by omega
    have hbt : tt < 0 ∨ n ≤ tt ∨ tt = fr := by
      by_cases a1 : tt < 0
      · exact .inl a1
      · by_cases a2 : n ≤ tt
        · exact .inr (.inl a2)
        · refine .inr (.inr (Classical.byContradiction fun h3 => hbad ⟨hN, h0, h2, by omega, by omega, fun e => h3 e.symm⟩))
    obtain ⟨n', rfl⟩ : ∃ k : Nat, n = (k : Int) := ⟨n.toNat, by have := hN.n0; omega⟩
    obtain ⟨f, rfl⟩ : ∃ k : Nat, fr = (k : Int) := ⟨fr.toNat, by omega⟩
    have HA := Lib.hid (All_calls w A m c x n' f hN hs (by omega))
    clear hm hx hs hbad h1 hN
    by_cases a1 : tt < 0
    · clear hbt
      go_enter Try.func12, Try.ntmps12
      go_wp2_with (go_at_call 23; (with_reducible refine HA.out.mono ?_); rintro e w1 ⟨R1, R2, lo, E, rfl, _, _, hb⟩)
      go_ret3
      exact ⟨rfl, hb⟩
    · by_cases a2 : (n' : Int) ≤ tt
      · clear hbt
        go_enter Try.func12, Try.ntmps12
        go_wp2_with (go_at_call 23; (with_reducible refine HA.out.mono ?_); rintro e w1 ⟨R1, R2, lo, E, rfl, _, _, hb⟩)
        go_ret3
        exact ⟨rfl, hb⟩
      · obtain rfl : tt = (f : Int) := by omega
        clear hbt
        go_enter Try.func12, Try.ntmps12
        go_wp2_with (go_at_call 23; (with_reducible refine HA.out.mono ?_); rintro e w1 ⟨R1, R2, lo, E, rfl, _, _, hb⟩)
        go_ret3
        exact ⟨rfl, hb⟩
/-- What is told of a best route: none, or the route and what it costs. -/
def Tells1 (w : World) (o : Option (List Int × Int)) (v : Value) (cost er : Int) : Prop :=
  match o with
  | none => v = .slice none 0 0 ∧ cost = 0 ∧ er = 8
  | some y => (∃ A c, v = .slice A y.1.length c ∧ Strip w A y.1.length 1 (intRow (nth y.1))) ∧ cost = y.2 ∧ er = 0
def BestPost (w : World) (m : Nat) (x : Nat → Lnk) (fr tt : Int) (e : Ending) (w' : World) : Prop :=
  ∃ E v cost er, Best m x fr E ∧ e = .returned (.tuple #[v, .int .i64 cost, .int .i64 er]) ∧ Tells1 w' (E tt) v cost er ∧ Below w.heap.size w w'
set_option maxHeartbeats 8000000 in
theorem Best_calls (w : World) (A : Option Addr) (m c : Nat) (x : Nat → Lnk) (n fr tt : Int) (hs : Strip w A m 5 (fun i => link (x i))) (hok : Asks n m x fr tt) :
    Calls Try.prog 12 #[.int .i64 n, .slice A m c, .int .i64 fr, .int .i64 tt] w (BestPost w m x fr tt) := by
  obtain ⟨N, h0, h1, h2, h3, h4⟩ := hok
  obtain ⟨n', rfl⟩ : ∃ k : Nat, n = (k : Int) := ⟨n.toNat, by have := N.n0; omega⟩
  obtain ⟨f, rfl⟩ : ∃ k : Nat, fr = (k : Int) := ⟨fr.toNat, by omega⟩
  obtain ⟨t, rfl⟩ : ∃ k : Nat, tt = (k : Int) := ⟨tt.toNat, by omega⟩
  have HA := Lib.hid (All_calls w A m c x n' f N hs (by omega))
  have HM := Lib.hid (fun i hi => (N.may i hi))
  have t1 : ¬ ((t : Int) < 0) := by omega
  have t2 : ¬ ((n' : Int) ≤ (t : Int)) := by omega
  have t3 : ¬ ((t : Int) = (f : Int)) := by omega
  have htn : t < n' := by omega
  have d1 : decide ((t : Int) < 0) = false := by simp
  have d2 : decide (n' ≤ t) = false := by simp; omega
  have d3 : ((t : Int) == (f : Int)) = false := by simp; omega
  clear hs N
  go_enter Try.func12, Try.ntmps12
  go_upto_region 4 with (go_at_call 23; (with_reducible refine HA.out.mono ?_); rintro e w1 ⟨R1, R2, lo, E, rfl, he, ht, hb⟩; have HE := Lib.hid he; have HT := Lib.hid ht; have HB := Lib.hid hb; clear he ht hb)
  obtain ⟨⟨ca, ba, sa, ga⟩, ⟨cb, bb, sb, gb⟩⟩ := HT.out
  obtain ⟨v, e1, A2, c2, rfl, hst, hlo⟩ := ga t htn
  have e2 := gb t htn
  have t0 : (0 : Int) ≤ (t : Int) := by omega
  have t4 : (t : Int) < (n' : Int) := by omega
  have k1 : w1.cell? ⟨R1, t, none⟩ = some (.slice A2 (routeO (E (t : Int))).length c2) := (ba.cell _).trans e1
  have k2 : w1.cell? ⟨R2, t, none⟩ = some (.int .i64 (costO (E (t : Int)))) := (bb.cell _).trans e2
  have HST := Lib.hid hst
  have al := ba.lt
  have bl := bb.lt
  clear ga gb e1 e2 hst hlo ba bb
  cases hE : E (t : Int) with
  | none =>
    rw [hE] at k1 k2
    have k3 : w1.cell? ⟨R2, t, none⟩ = some (.int .i64 (-1)) := k2
    have HE2 := Lib.hid hE
    clear k2 hE
    go_wp2
    go_ret3
    exact ⟨E, _, _, _, HE.out, rfl, by rw [HE2.out]; exact ⟨rfl, rfl, rfl⟩, HB.out⟩
  | some y =>
    rw [hE] at k1 k2
    have k3 : w1.cell? ⟨R2, t, none⟩ = some (.int .i64 y.2) := k2
    have k4 : w1.cell? ⟨R1, t, none⟩ = some (.slice A2 y.1.length c2) := k1
    have hst2 := HST.out
    rw [hE] at hst2
    have HST2 := Lib.hid (show Strip w1 A2 y.1.length 1 (intRow (nth y.1)) from hst2)
    have hc := ((HE.out.way _ _ _ hE).range HM.out ⟨by omega, by omega⟩).2
    have hc2 : ¬ (y.2 < 0) := by omega
    have HE2 := Lib.hid hE
    obtain ⟨L, hL⟩ : ∃ L, L = y.1.length := ⟨_, rfl⟩
    rw [← hL] at k4
    have HL := Lib.hid hL
    clear k2 k1 hE hst2 hL HST
    go_wp2
    go_quiet (fail)
    have HQ := Lib.hid (below_drewN (Below.refl w1.heap.size w1) nq)
    go_wp2
    go_ret3
    exact ⟨E, .slice A2 y.1.length c2, y.2, 0, HE.out, by rw [← HL.out]; rfl, by rw [HE2.out]; exact ⟨⟨A2, c2, rfl, HST2.out.below HQ.out⟩, rfl, rfl⟩, HB.out.trans (HQ.out.mono HB.out.size)⟩
end Go.Proofs.Yteaipeejhippiaa
