/- The search takes a route, if it is better than what was found: offer. -/
import Derived.Test.YteaipeejhippiaaPSpf
import Derived.Test.YteaipeejhippiaaPSame
namespace Go.Proofs.Yteaipeejhippiaa
open Go.RowKit
attribute [local go_sem] cell_set_self
set_option linter.unusedVariables false

def OfferPost (w : World) (base S W Q : Nat) (A : Option Addr) (m c : Nat) (x : Nat → Lnk) (n : Nat) (B : (Int → Option (List Int × Int))) (D : Int → Bool) (qv : Value) (k : Nat) (d : Nat → Item) (i : Nat) (l : List Int) (y : Int) (e : Ending) (w' : World) : Prop :=
  e = .returned (.tuple #[]) ∧ ∃ B' qv' k' d', Srch w' base S W Q A m c x n B' D qv' k' d' ∧ Fx w w' (fun j => j = W ∨ j = Q ∨ some j = qv.ownBlock) ∧ (∀ g, qv'.ownBlock = some g → qv.ownBlock = some g ∨ w.heap.size ≤ g) ∧
    ((B' = B ∧ k' = k ∧ (∀ z, many d' k' z = many d k z) ∧ (D (i : Int) = true ∨ ∃ l' c', B (i : Int) = some (l', c') ∧ ¬ Bet y l c' l')) ∨
     (B' = updT B (i : Int) (l, y) ∧ D (i : Int) = false ∧ (∀ l' c', B (i : Int) = some (l', c') → Bet y l c' l') ∧ k' = k + 1 ∧ ∀ z, many d' k' z = many d k z + if (⟨y, (l.length : Int), (i : Int)⟩ : Item) = z then 1 else 0))
section
variable {w : World} {base S W Q : Nat} {A : Option Addr} {m c : Nat} {x : Nat → Lnk} {n : Nat} {B : (Int → Option (List Int × Int))} {D : Int → Bool} {qv : Value} {k : Nat} {d : Nat → Item} {i : Nat} {l : List Int} {y : Int}
theorem offer_skip (h : Srch w base S W Q A m c x n B D qv k d) {w' : World} (hb : Below w.heap.size w w') (hs : D (i : Int) = true ∨ ∃ l' c', B (i : Int) = some (l', c') ∧ ¬ Bet y l c' l') : OfferPost w base S W Q A m c x n B D qv k d i l y (.returned (.tuple #[])) w' :=
  ⟨rfl, B, qv, k, d, h.later hb, Fx.new hb _, fun _ hg => .inl hg, .inl ⟨rfl, rfl, fun _ => rfl, hs⟩⟩
end
theorem offer_put {w : World} {base S W Q : Nat} {A : Option Addr} {m c : Nat} {x : Nat → Lnk} {n : Nat} {B : (Int → Option (List Int × Int))} {D : Int → Bool} {qv : Value} {k : Nat} {d : Nat → Item} {i : Nat} {l : List Int} {y : Int} {w2 w1 : World} {v' : Value} {d' : Nat → Item}
    (h : Srch w2 base S W Q A m c x n (updT B (i : Int) (l, y)) D qv k d) (hf : Fx w w2 (fun j => j = W)) (hq : Que w1 base Q v' (k + 1) d') (hm : ∀ z, many d' (k + 1) z = many d k z + if (⟨y, (l.length : Int), (i : Int)⟩ : Item) = z then 1 else 0) (hfr : Fr w2 w1 Q qv.ownBlock) (ho : ∀ g, v'.ownBlock = some g → qv.ownBlock = some g ∨ w2.heap.size ≤ g)
    (hD : D (i : Int) = false) (hb : ∀ l' c', B (i : Int) = some (l', c') → Bet y l c' l') : OfferPost w base S W Q A m c x n B D qv k d i l y (.returned (.tuple #[])) w1 :=
  ⟨rfl, _, v', k + 1, d', h.queue hfr hq, (hf.mono fun _ _ e => .inl e).trans (Fx.fr hfr) fun j _ hj => .inr hj, fun g hg => (ho g hg).imp id fun e => Nat.le_trans hf.size e, .inr ⟨rfl, hD, hb, rfl, hm⟩⟩
set_option maxRecDepth 100000 in
set_option maxHeartbeats 8000000 in
theorem Offer_calls (w : World) (base S W Q : Nat) (A : Option Addr) (m c : Nat) (x : Nat → Lnk) (n : Nat) (B : (Int → Option (List Int × Int))) (D : Int → Bool) (qv : Value) (k : Nat) (d : Nat → Item) (i : Nat) (l : List Int) (y : Int) (v : Value)
    (h : Srch w base S W Q A m c x n B D qv k d) (hi : i < n) (hr : Rt w v l) (hy : 0 ≤ y) (hk : k < 1024) (hl : l.length ≤ 100000) (hbase : base ≤ w.heap.size) :
    Calls Try.prog 38 #[.pointer (some ⟨S, 0, none⟩), .int .i64 (i : Int), v, .int .i64 y] w (OfferPost w base S W Q A m c x n B D qv k d i l y) := by
  have H := Lib.hid h
  have HR := Lib.hid hr
  have HY := Lib.hid hy
  have HK := Lib.hid hk
  have HBS := Lib.hid hbase
  have hn0 : (0 : Int) ≤ (i : Int) := by omega
  have hn1 : (i : Int) < (n : Int) := by omega
  have HI := Lib.hid hi
  obtain ⟨V, ⟨cs, hW, hcs⟩, hV⟩ := h.ways
  obtain ⟨e0, e1, e2⟩ := hcs i hi
  have w0 : w.cell? ⟨W, i * 3, none⟩ = some (V i) := (hW.cell _).trans e0
  have w1 : w.cell? ⟨W, i * 3 + 1, none⟩ = some (.int .i64 (costO (B (i : Int)))) := (hW.cell _).trans e1
  have w2 : w.cell? ⟨W, i * 3 + 2, none⟩ = some (.bool (D (i : Int))) := (hW.cell _).trans e2
  have wf := hW.frozen
  have wl := hW.lt
  have hvi := hV i hi
  obtain ⟨sc, sf, sl⟩ := h.s.row
  obtain ⟨A1, c1, rfl, hst⟩ := hr.strip
  have HST := Lib.hid hst
  clear h hr hy hk hbase hcs hW e0 e1 e2 hV hst
  generalize hu : V i = u at *
  clear hu
  cases hD : D (i : Int) with
  | true =>
    rw [hD] at w2
    have HD := Lib.hid hD
    clear hD hvi
    go_enter Try.func38, Try.ntmps38
    go_wp2
    go_quiet (fail)
    have HQ := Lib.hid (below_drewN (Below.refl w.heap.size w) nq)
    go_wp2
    go_end0
    exact offer_skip H.out HQ.out (.inl HD.out)
  | false =>
    rw [hD] at w2
    have HD := Lib.hid hD
    clear hD
    cases hB : B (i : Int) with
    | none =>
      rw [hB] at w1 hvi
      have HB := Lib.hid hB
      have w1' : w.cell? ⟨W, i * 3 + 1, none⟩ = some (.int .i64 (-1)) := w1
      clear hB w1 hvi
      go_enter Try.func38, Try.ntmps38
      go_wp2
      go_quiet (fail)
      have HQ := Lib.hid (below_drewN (Below.refl w.heap.size w) nq)
      have HS2 := Lib.hid ((H.out.later HQ.out).put HI.out (HR.out.later HQ.out) HY.out)
      have HB2 := Lib.hid (show base ≤ (((w.drewN nq).setCell ⟨W, i * 3, none⟩ (.slice A1 l.length c1)).setCell ⟨W, i * 3 + 1, none⟩ (.int .i64 y)).heap.size from by simpa [World.setCell] using HBS.out)
      have HF2 := Lib.hid (((Fx.new HQ.out (fun j => j = W)).trans (Fx.set (w.drewN nq) ⟨W, i * 3, none⟩ (.slice A1 l.length c1)) (fun _ _ e => e)).trans (Fx.set ((w.drewN nq).setCell ⟨W, i * 3, none⟩ (.slice A1 l.length c1)) ⟨W, i * 3 + 1, none⟩ (.int .i64 y)) (fun _ _ e => e))
      have NE := Lib.hid ((H.out.wblk.elim fun cs hW => H.out.s.ne hW (by decide)))
      have hne := NE.out
      go_wp2_with (go_at_call 42; (with_reducible refine (QPush_calls _ base Q k qv d ⟨y, (l.length : Int), (i : Int)⟩ HS2.out.q HK.out HB2.out).mono ?_); rintro e w1 ⟨rfl, v', d', hq', hmany, hfr, hown⟩; have HQ' := Lib.hid hq'; have HM := Lib.hid hmany; have HFR := Lib.hid hfr; have HOW := Lib.hid hown; clear hq' hmany hfr hown)
      go_end0
      exact offer_put HS2.out HF2.out HQ'.out HM.out HFR.out HOW.out HD.out (fun l' c' e => by rw [HB.out] at e; cases e)
    | some b =>
      obtain ⟨l', y'⟩ := b
      rw [hB] at w1 hvi
      have hy' : 0 ≤ y' := H.out.pos _ _ _ hB
      have HB := Lib.hid hB
      have w1' : w.cell? ⟨W, i * 3 + 1, none⟩ = some (.int .i64 y') := w1
      have hvi' : Rt w u l' := hvi
      obtain ⟨A2, c2, rfl, hst2⟩ := hvi'.strip
      have HC := Lib.hid fun (w' : World) (hb : Below w.heap.size w w') => Better_same w' y y' A1 A2 l.length l'.length c1 c2 (nth l) (nth l') (by omega) (HST.out.below hb) (hst2.below hb)
      clear hB w1 hvi hvi' hst2
      by_cases hbet : Bet y l y' l'
      · rw [(bet_iff y l y' l').2 hbet] at HC
        have HBET := Lib.hid hbet
        clear hbet
        go_enter Try.func38, Try.ntmps38
        go_wp2
        go_quiet (first | (go_at_call 31; exact Calls.quiet_of_same (HC.out _ (below_drewN (Below.refl _ _) _))))
        have HQ := Lib.hid (below_drewN (Below.refl w.heap.size w) nq)
        have HS2 := Lib.hid ((H.out.later HQ.out).put HI.out (HR.out.later HQ.out) HY.out)
        have HB2 := Lib.hid (show base ≤ (((w.drewN nq).setCell ⟨W, i * 3, none⟩ (.slice A1 l.length c1)).setCell ⟨W, i * 3 + 1, none⟩ (.int .i64 y)).heap.size from by simpa [World.setCell] using HBS.out)
        have HF2 := Lib.hid (((Fx.new HQ.out (fun j => j = W)).trans (Fx.set (w.drewN nq) ⟨W, i * 3, none⟩ (.slice A1 l.length c1)) (fun _ _ e => e)).trans (Fx.set ((w.drewN nq).setCell ⟨W, i * 3, none⟩ (.slice A1 l.length c1)) ⟨W, i * 3 + 1, none⟩ (.int .i64 y)) (fun _ _ e => e))
        have NE := Lib.hid ((H.out.wblk.elim fun cs hW => H.out.s.ne hW (by decide)))
        have hne := NE.out
        go_wp2_with (go_at_call 42; (with_reducible refine (QPush_calls _ base Q k qv d ⟨y, (l.length : Int), (i : Int)⟩ HS2.out.q HK.out HB2.out).mono ?_); rintro e w1 ⟨rfl, v', d', hq', hmany, hfr, hown⟩; have HQ' := Lib.hid hq'; have HM := Lib.hid hmany; have HFR := Lib.hid hfr; have HOW := Lib.hid hown; clear hq' hmany hfr hown)
        go_end0
        exact offer_put HS2.out HF2.out HQ'.out HM.out HFR.out HOW.out HD.out (fun l2 c2 e => by rw [HB.out] at e; injection e with e; injection e with e1 e2; subst e1 e2; exact HBET.out)
      · rw [Bool.eq_false_iff.2 (fun e => hbet ((bet_iff y l y' l').1 e))] at HC
        have HBET := Lib.hid hbet
        clear hbet
        go_enter Try.func38, Try.ntmps38
        go_wp2
        go_quiet (first | (go_at_call 31; exact Calls.quiet_of_same (HC.out _ (below_drewN (Below.refl _ _) _))))
        have HQ := Lib.hid (below_drewN (Below.refl w.heap.size w) nq)
        go_wp2
        go_end0
        exact offer_skip H.out HQ.out (.inr ⟨l', y', HB.out, HBET.out⟩)
end Go.Proofs.Yteaipeejhippiaa
