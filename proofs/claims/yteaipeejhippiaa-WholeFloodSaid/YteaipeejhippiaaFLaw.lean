/- Bases that were told whatever each know the same when each was told what the other one knows. The walk of the law. -/
import Derived.Test.YteaipeejhippiaaFMore
import Derived.Deep.DeepCutAuto
import Derived.Deep.CutRange
namespace Go.Proofs.Yteaipeejhippiaa
open Go.RowKit
attribute [local go_sem] cell_set_self
set_option linter.unusedVariables false

theorem net_none (x : Nat → Lnk) : Net 2 0 x := ⟨by omega, by omega, by omega, fun i h => by omega, fun i j _ h => by omega⟩
theorem New_none (w : World) (x : Nat → Lnk) : Calls Try.prog 5 #[.int .i64 2, .slice none 0 0] w (NewPost w 0 x) := New_yes w 2 none 0 0 x (by omega) (fun i h => by omega) (fun h => absurd h (by omega)) (net_none x)
theorem All_none (w : World) (base Q : Nat) (v : Value) (h : Bas w base Q v []) : Calls Try.prog 6 #[.pointer (some ⟨Q, 0, none⟩)] w fun e w' => ∃ A c, e = .returned (.slice A 0 c) ∧ Below w.heap.size w w' := (All_calls w base Q v [] h (by simp)).mono fun e w' ⟨A, c, h1, _, _, h2⟩ => ⟨A, c, h1, h2⟩
def Clear2 (k : Nat) (l : Nat → Adv) : Prop := ∀ p q, p < k → q < p → (l p).src = (l q).src → (l p).dst = (l q).dst → (l p).seq = (l q).seq → advB (l p) (l q) = true
def OutRel (w : World) (P0 : Nat) (row : Array Value) (n : Nat) (l : Nat → Adv) (i : Value) (wr : World) : Prop := ∃ k : Nat, k ≤ n ∧ i = .int .i64 (k : Int) ∧ Clear2 k l ∧ Below w.heap.size w wr ∧ Row wr P0 row
theorem AllM (w : World) (base Q : Nat) (v : Value) (xs : List Adv) (m : Nat) (h : Bas w base Q v xs) (hm : xs.length = m) (h64 : m ≤ 64) : Calls Try.prog 6 #[.pointer (some ⟨Q, 0, none⟩)] w fun e w' => ∃ u, e = .returned u ∧ Below w.heap.size w w' ∧ ∃ A c, u = .slice A m c ∧ Strip w' A m 15 (fun i => advert (nth xs i)) := by
  subst hm
  exact (All_calls w base Q v xs h h64).mono fun e w' ⟨A, c, h1, h2, _, h3⟩ => ⟨_, h1, h3, A, c, rfl, h2⟩
theorem OursM (w : World) (A : Option Addr) (n c : Nat) (f : Nat → Adv) (hn : n ≤ 64) (hs : Strip w A n 15 (fun i => advert (f i))) : Calls Try.prog 11 #[.slice A n c] w fun e w' => ∃ u, e = .returned u ∧ Below w.heap.size w w' ∧ ∃ A c, u = .slice A n c ∧ Strip w' A n 15 (fun i => advert (f i)) :=
  (Ours_calls w A n c f (by omega) hs).mono fun e w' ⟨A, c, h1, h2, h3⟩ => ⟨_, h1, h3, A, c, rfl, h2⟩
theorem Strip.like {w : World} {A : Option Addr} {m k : Nat} {f g : Nat → Array Value} (h : Strip w A m k f) (hh : ∀ i, i < m → f i = g i) : Strip w A m k g := fun h0 => by
  obtain ⟨ad, e, hl, hc⟩ := h h0
  exact ⟨ad, e, hl, fun i hi j hj => by rw [← hh i hi]; exact hc i hi j hj⟩
theorem Clear2.clear {n : Nat} {l : Nat → Adv} (h : Clear2 n l) : Clear n l := fun p q hp hq h1 h2 h3 => advB_iff.1 (h p q hp hq h1 h2 h3)
def FloodRel (w : World) (m : Nat) (x : Nat → Lnk) (n : Nat) (l : Nat → Adv) (Ba Bb QA QB : Nat) (vA vB : Value) (i : Value) (wr : World) : Prop := ∃ (k : Nat) (xs ys : List Adv), k ≤ n ∧ i = .int .i64 (k : Int) ∧ Knows m x n l xs ∧ Knows m x n l ys ∧ Two w wr Ba Bb QA QB vA vB xs ys
theorem Strip.bit {w : World} {A : Option Addr} {m k : Nat} {t : Nat → Bool} (h : Strip w A m 1 (fun i => #[.bool (t i)])) (hk : k < m) : ∃ ad, A = some ad ∧ ad.block < w.heap.size ∧ ∀ w', Below w.heap.size w w' → w'.cell? (ad.add k) = some (.bool (t k)) := by
  obtain ⟨ad, e, hl, hc⟩ := h (by omega)
  refine ⟨ad, e, hl, fun w' hb => ?_⟩
  have h2 := hc k hk 0 (by omega)
  rw [Nat.mul_one] at h2
  exact (hb.cell (p := ad.add k) (by rw [add_block]; exact hl)).trans h2
def InRel (w : World) (P0 : Nat) (row : Array Value) (p : Nat) (l : Nat → Adv) (i : Value) (wr : World) : Prop := ∃ q : Nat, q ≤ p ∧ i = .int .i64 (q : Int) ∧ (∀ j, j < q → (l p).src = (l j).src → (l p).dst = (l j).dst → (l p).seq = (l j).seq → advB (l p) (l j) = true) ∧ Below w.heap.size w wr ∧ Row wr P0 row
set_option maxRecDepth 100000 in
set_option maxHeartbeats 32000000 in
theorem WholeFlood_walk (w : World) (N : Int) (A1 : Option Addr) (m c1 : Nat) (x : Nat → Lnk) (A2 : Option Addr) (n c2 : Nat) (l : Nat → Adv) (A3 : Option Addr) (n3 c3 : Nat) (t : Nat → Bool) (hm : m ≤ 9223372036854775807) (hn : n ≤ 9223372036854775807) (hn3 : n3 ≤ 9223372036854775807)
    (s1 : Strip w A1 m 5 (fun i => link (x i))) (s2 : Strip w A2 n 15 (fun i => advert (l i))) (s3 : Strip w A3 n3 1 (fun i => #[.bool (t i)]))
    (hx : ∀ i, i < m → I64 (x i).src ∧ I64 (x i).dst) (hxw : ∀ i, i < m → (first (x i)).Wf) (hl : ∀ i, i < n → I64 (l i).src ∧ I64 (l i).dst) (hlw : ∀ i, i < n → (l i).Wf) :
    Calls Try.prog 3 #[.agg #[.int .i64 N, .slice A1 m c1], .slice A2 n c2, .slice A3 n3 c3] w fun e w' => e = .returned (.bool true) ∧ Below w.heap.size w w' := by
  have HNN := Lib.hid fun (w' : World) => New_none w' x
  have HAN := Lib.hid fun (w' : World) (base Q : Nat) (v : Value) (h : Bas w' base Q v []) => All_none w' base Q v h
  have S1 := Lib.hid s1
  have S2 := Lib.hid s2
  have S3 := Lib.hid s3
  have HX := Lib.hid hx
  have HXW := Lib.hid hxw
  have HL := Lib.hid hl
  have HLW := Lib.hid hlw
  have hm5 : m ≤ 9223372036854775807 := hm
  have hn5 : n ≤ 9223372036854775807 := hn
  have hn35 : n3 ≤ 9223372036854775807 := hn3
  clear s1 s2 s3 hx hxw hl hlw hm hn hn3
  go_enter Try.func3, Try.ntmps3
  go_upto_region 2 with (go_at_call 5; (with_reducible refine (HNN.out _).mono ?_); rintro e w1 ⟨Q0, v0, rfl, hb0, hQ0, hbb⟩; have HB0 := Lib.hid hb0; have HW := Lib.hid (show Below w.heap.size w w1 from (by repeat (first | (with_reducible exact Below.refl _ _) | (with_reducible assumption) | ((with_reducible refine Below.setCell ?_ ?_ _); rotate_left; (first | omega | (simp <;> omega))) | ((with_reducible refine Below.alloc ?_ ?_ _); rotate_left; (first | omega | (simp <;> omega))) | ((with_reducible refine Below.drew ?_)) | ((with_reducible refine below_drewN ?_ _)) | ((with_reducible refine Below.trans ?_ (Below.mono (by with_reducible assumption) ?_)); rotate_left; (first | omega | (simp <;> omega)))))); have HP := Lib.hid ((Row.new w #[.int .i64 N, .slice A1 m c1] 24).later hbb); clear hb0 hbb hQ0)
  obtain ⟨cp, fp, sp⟩ := HP.out
  have HBE := Lib.hid (show Bas w1 _ Q0 v0 [] from HB0.out)
  clear HB0 HNN
  by_cases hbig : m ≤ 100 ∧ n ≤ 100
  · obtain ⟨hm1, hn1⟩ := hbig
    have hmi : (m : Int) ≤ 100 := by omega
    have hni : (n : Int) ≤ 100 := by omega
    go_upto_region 4 with (go_at_call 6; (with_reducible refine (HAN.out _ _ _ _ HBE.out).mono ?_); rintro e w2 ⟨Ae, ce, rfl, hb2⟩; have HW2 := Lib.hid (HW.out.trans (hb2.mono HW.out.size)); have HP2 := Lib.hid (HP.out.later hb2); clear cp fp sp hb2; obtain ⟨cp, fp, sp⟩ := HP2.out)
    have HW := HW2
    have HP := HP2
    clear HW2 HP2 HBE HAN cp fp sp
    rename World => W2
    go_wp2
    go_loopw [44] (fun i wr => OutRel w w.heap.size #[.int .i64 N, .slice A1 m c1] n l i wr) (fun i _ => n - (intOf i).toNat)
    case atStart => exact ⟨0, Nat.zero_le _, rfl, fun p q h => by omega, HW.out, HP.out⟩
    case round =>
      clear HW HP
      obtain ⟨p, hp, rfl, hc, hb, hr⟩ := hrel
      have HC := Lib.hid hc
      have HW := Lib.hid hb
      have HP := Lib.hid hr
      clear hc hb hr
      by_cases hlp : p < n
      · have p0 : (0 : Int) ≤ (p : Int) := by omega
        have p1 : (p : Int) < (n : Int) := by omega
        rename World => W3
        go_wp2
        go_loopw [48] (fun i wr => InRel w w.heap.size #[.int .i64 N, .slice A1 m c1] p l i wr) (fun i _ => p - (intOf i).toNat)
        case atStart => exact ⟨0, Nat.zero_le _, rfl, fun j h => by omega, HW.out, HP.out⟩
        case round =>
          clear HW HP
          obtain ⟨q, hq, rfl, hd, hb, hr⟩ := hrel
          have HD := Lib.hid hd
          have HW := Lib.hid hb
          have HP := Lib.hid hr
          clear hd hb hr
          by_cases hlq : q < p
          · have q0 : (0 : Int) ≤ (q : Int) := by omega
            have q1 : (q : Int) < (p : Int) := by omega
            have q2 : (q : Int) < (n : Int) := by omega
            obtain ⟨ada, rfl, _, gg⟩ := S2.out.adv hlp
            obtain ⟨ada', e, _, hh⟩ := S2.out.adv (show q < n by omega)
            injection e with e
            subst e
            have gga := gg wr HW.out
            have ggb := hh wr HW.out
            have a0 : wr.cell? (ada.add (p * 15)) = some (.int .i64 (l p).src) := gga 0 (by omega); have a1 : wr.cell? ⟨(ada.add (p * 15)).block, (ada.add (p * 15)).off + 1, none⟩ = some (.int .i64 (l p).dst) := gga 1 (by omega); have a2 : wr.cell? ⟨(ada.add (p * 15)).block, (ada.add (p * 15)).off + 2, none⟩ = some (.int .u64 (l p).cap) := gga 2 (by omega); have a3 : wr.cell? ⟨(ada.add (p * 15)).block, (ada.add (p * 15)).off + 3, none⟩ = some (.int .i64 (l p).metric) := gga 3 (by omega); have a4 : wr.cell? ⟨(ada.add (p * 15)).block, (ada.add (p * 15)).off + 4, none⟩ = some (.int .u32 (l p).groups) := gga 4 (by omega); have a5 : wr.cell? ⟨(ada.add (p * 15)).block, (ada.add (p * 15)).off + 5, none⟩ = some (.int .i64 (l p).seq) := gga 5 (by omega); have a6 : wr.cell? ⟨(ada.add (p * 15)).block, (ada.add (p * 15)).off + 6, none⟩ = some (.bool (l p).up) := gga 6 (by omega); have a7 : wr.cell? ⟨(ada.add (p * 15)).block, (ada.add (p * 15)).off + 7, none⟩ = some (.int .u64 ((l p).free 0)) := gga 7 (by omega); have a8 : wr.cell? ⟨(ada.add (p * 15)).block, (ada.add (p * 15)).off + 8, none⟩ = some (.int .u64 ((l p).free 1)) := gga 8 (by omega); have a9 : wr.cell? ⟨(ada.add (p * 15)).block, (ada.add (p * 15)).off + 9, none⟩ = some (.int .u64 ((l p).free 2)) := gga 9 (by omega); have a10 : wr.cell? ⟨(ada.add (p * 15)).block, (ada.add (p * 15)).off + 10, none⟩ = some (.int .u64 ((l p).free 3)) := gga 10 (by omega); have a11 : wr.cell? ⟨(ada.add (p * 15)).block, (ada.add (p * 15)).off + 11, none⟩ = some (.int .u64 ((l p).free 4)) := gga 11 (by omega); have a12 : wr.cell? ⟨(ada.add (p * 15)).block, (ada.add (p * 15)).off + 12, none⟩ = some (.int .u64 ((l p).free 5)) := gga 12 (by omega); have a13 : wr.cell? ⟨(ada.add (p * 15)).block, (ada.add (p * 15)).off + 13, none⟩ = some (.int .u64 ((l p).free 6)) := gga 13 (by omega); have a14 : wr.cell? ⟨(ada.add (p * 15)).block, (ada.add (p * 15)).off + 14, none⟩ = some (.int .u64 ((l p).free 7)) := gga 14 (by omega)
            have b0 : wr.cell? (ada.add (q * 15)) = some (.int .i64 (l q).src) := ggb 0 (by omega); have b1 : wr.cell? ⟨(ada.add (q * 15)).block, (ada.add (q * 15)).off + 1, none⟩ = some (.int .i64 (l q).dst) := ggb 1 (by omega); have b2 : wr.cell? ⟨(ada.add (q * 15)).block, (ada.add (q * 15)).off + 2, none⟩ = some (.int .u64 (l q).cap) := ggb 2 (by omega); have b3 : wr.cell? ⟨(ada.add (q * 15)).block, (ada.add (q * 15)).off + 3, none⟩ = some (.int .i64 (l q).metric) := ggb 3 (by omega); have b4 : wr.cell? ⟨(ada.add (q * 15)).block, (ada.add (q * 15)).off + 4, none⟩ = some (.int .u32 (l q).groups) := ggb 4 (by omega); have b5 : wr.cell? ⟨(ada.add (q * 15)).block, (ada.add (q * 15)).off + 5, none⟩ = some (.int .i64 (l q).seq) := ggb 5 (by omega); have b6 : wr.cell? ⟨(ada.add (q * 15)).block, (ada.add (q * 15)).off + 6, none⟩ = some (.bool (l q).up) := ggb 6 (by omega); have b7 : wr.cell? ⟨(ada.add (q * 15)).block, (ada.add (q * 15)).off + 7, none⟩ = some (.int .u64 ((l q).free 0)) := ggb 7 (by omega); have b8 : wr.cell? ⟨(ada.add (q * 15)).block, (ada.add (q * 15)).off + 8, none⟩ = some (.int .u64 ((l q).free 1)) := ggb 8 (by omega); have b9 : wr.cell? ⟨(ada.add (q * 15)).block, (ada.add (q * 15)).off + 9, none⟩ = some (.int .u64 ((l q).free 2)) := ggb 9 (by omega); have b10 : wr.cell? ⟨(ada.add (q * 15)).block, (ada.add (q * 15)).off + 10, none⟩ = some (.int .u64 ((l q).free 3)) := ggb 10 (by omega); have b11 : wr.cell? ⟨(ada.add (q * 15)).block, (ada.add (q * 15)).off + 11, none⟩ = some (.int .u64 ((l q).free 4)) := ggb 11 (by omega); have b12 : wr.cell? ⟨(ada.add (q * 15)).block, (ada.add (q * 15)).off + 12, none⟩ = some (.int .u64 ((l q).free 5)) := ggb 12 (by omega); have b13 : wr.cell? ⟨(ada.add (q * 15)).block, (ada.add (q * 15)).off + 13, none⟩ = some (.int .u64 ((l q).free 6)) := ggb 13 (by omega); have b14 : wr.cell? ⟨(ada.add (q * 15)).block, (ada.add (q * 15)).off + 14, none⟩ = some (.int .u64 ((l q).free 7)) := ggb 14 (by omega)
            clear gg hh gga ggb
            cases h1 : ((l p).src == (l q).src) with
            | false =>
              as_aux_lemma =>
              go_wp2
              go_quiet (fail)
              have HW5 := Lib.hid (below_drewN HW.out nq)
              have HP5 := Lib.hid (HP.out.drewN nq)
              have HFF := Lib.hid (show (l p).src = (l q).src → (l p).dst = (l q).dst → (l p).seq = (l q).seq → advB (l p) (l q) = true from fun e _ _ => by rw [e] at h1; simp at h1)
              clear a0 b0 a1 b1 a2 b2 a3 b3 a4 b4 a5 b5 a6 b6 a7 b7 a8 b8 a9 b9 a10 b10 a11 b11 a12 b12 a13 b13 a14 b14
              go_wp2
              go_roundw
              case rel => exact ⟨q + 1, by omega, num_step q, fun j hj => by
                by_cases e : j = q
                · subst e; exact HFF.out
                · exact HD.out j (by omega), HW5.out, HP5.out⟩
              case measure => exact measure_step hlq
            | true =>
              cases h2 : ((l p).dst == (l q).dst) with
              | false =>
                as_aux_lemma =>
                go_wp2
                go_quiet (fail)
                have HW5 := Lib.hid (below_drewN HW.out nq)
                have HP5 := Lib.hid (HP.out.drewN nq)
                have HFF := Lib.hid (show (l p).src = (l q).src → (l p).dst = (l q).dst → (l p).seq = (l q).seq → advB (l p) (l q) = true from fun _ e _ => by rw [e] at h2; simp at h2)
                clear a0 b0 a1 b1 a2 b2 a3 b3 a4 b4 a5 b5 a6 b6 a7 b7 a8 b8 a9 b9 a10 b10 a11 b11 a12 b12 a13 b13 a14 b14
                go_wp2
                go_roundw
                case rel => exact ⟨q + 1, by omega, num_step q, fun j hj => by
                  by_cases e : j = q
                  · subst e; exact HFF.out
                  · exact HD.out j (by omega), HW5.out, HP5.out⟩
                case measure => exact measure_step hlq
              | true =>
                cases h3 : ((l p).seq == (l q).seq) with
                | false =>
                  as_aux_lemma =>
                  go_wp2
                  go_quiet (fail)
                  have HW5 := Lib.hid (below_drewN HW.out nq)
                  have HP5 := Lib.hid (HP.out.drewN nq)
                  have HFF := Lib.hid (show (l p).src = (l q).src → (l p).dst = (l q).dst → (l p).seq = (l q).seq → advB (l p) (l q) = true from fun _ _ e => by rw [e] at h3; simp at h3)
                  clear a0 b0 a1 b1 a2 b2 a3 b3 a4 b4 a5 b5 a6 b6 a7 b7 a8 b8 a9 b9 a10 b10 a11 b11 a12 b12 a13 b13 a14 b14
                  go_wp2
                  go_roundw
                  case rel => exact ⟨q + 1, by omega, num_step q, fun j hj => by
                    by_cases e : j = q
                    · subst e; exact HFF.out
                    · exact HD.out j (by omega), HW5.out, HP5.out⟩
                  case measure => exact measure_step hlq
                | true =>
                  cases h4 : advB (l p) (l q) with
                  | false =>
                    as_aux_lemma =>
                    have NE : ∀ w, (binOp .neq 37 (.agg #[.int .i64 (l p).src, .int .i64 (l p).dst, .int .u64 (l p).cap, .int .i64 (l p).metric, .int .u32 (l p).groups, .int .i64 (l p).seq, .bool (l p).up, .int .u64 ((l p).free 0), .int .u64 ((l p).free 1), .int .u64 ((l p).free 2), .int .u64 ((l p).free 3), .int .u64 ((l p).free 4), .int .u64 ((l p).free 5), .int .u64 ((l p).free 6), .int .u64 ((l p).free 7)]) (.agg #[.int .i64 (l q).src, .int .i64 (l q).dst, .int .u64 (l q).cap, .int .i64 (l q).metric, .int .u32 (l q).groups, .int .i64 (l q).seq, .bool (l q).up, .int .u64 ((l q).free 0), .int .u64 ((l q).free 1), .int .u64 ((l q).free 2), .int .u64 ((l q).free 3), .int .u64 ((l q).free 4), .int .u64 ((l q).free 5), .int .u64 ((l q).free 6), .int .u64 ((l q).free 7)])).run Try.prog w = .ok (.bool true) w := fun w => by rw [neq_adv, h4]; rfl
                    clear h4
                    go_wp2
                    go_quiet (fail)
                    go_wp2
                    go_ret
                    exact ⟨rfl, below_drewN HW.out nq⟩
                  | true =>
                    as_aux_lemma =>
                    have NE : ∀ w, (binOp .neq 37 (.agg #[.int .i64 (l p).src, .int .i64 (l p).dst, .int .u64 (l p).cap, .int .i64 (l p).metric, .int .u32 (l p).groups, .int .i64 (l p).seq, .bool (l p).up, .int .u64 ((l p).free 0), .int .u64 ((l p).free 1), .int .u64 ((l p).free 2), .int .u64 ((l p).free 3), .int .u64 ((l p).free 4), .int .u64 ((l p).free 5), .int .u64 ((l p).free 6), .int .u64 ((l p).free 7)]) (.agg #[.int .i64 (l q).src, .int .i64 (l q).dst, .int .u64 (l q).cap, .int .i64 (l q).metric, .int .u32 (l q).groups, .int .i64 (l q).seq, .bool (l q).up, .int .u64 ((l q).free 0), .int .u64 ((l q).free 1), .int .u64 ((l q).free 2), .int .u64 ((l q).free 3), .int .u64 ((l q).free 4), .int .u64 ((l q).free 5), .int .u64 ((l q).free 6), .int .u64 ((l q).free 7)])).run Try.prog w = .ok (.bool false) w := fun w => by rw [neq_adv, h4]; rfl
                    have HAD := Lib.hid h4
                    clear h4
                    go_wp2
                    go_quiet (fail)
                    have HW5 := Lib.hid (below_drewN HW.out nq)
                    have HP5 := Lib.hid (HP.out.drewN nq)
                    have HFF := Lib.hid (show (l p).src = (l q).src → (l p).dst = (l q).dst → (l p).seq = (l q).seq → advB (l p) (l q) = true from fun _ _ _ => HAD.out)
                    clear a0 b0 a1 b1 a2 b2 a3 b3 a4 b4 a5 b5 a6 b6 a7 b7 a8 b8 a9 b9 a10 b10 a11 b11 a12 b12 a13 b13 a14 b14
                    go_wp2
                    go_roundw
                    case rel => exact ⟨q + 1, by omega, num_step q, fun j hj => by
                      by_cases e : j = q
                      · subst e; exact HFF.out
                      · exact HD.out j (by omega), HW5.out, HP5.out⟩
                    case measure => exact measure_step hlq
          · obtain rfl : p = q := by omega
            go_wp2
            go_roundw
            case rel => exact ⟨p + 1, by omega, num_step p, fun a b ha hab => by
              by_cases e : a = p
              · subst e; exact HD.out b hab
              · exact HC.out a b (by omega) hab, HW.out, HP.out⟩
            case measure => exact measure_step hlp
      · obtain rfl : n = p := by omega
        have hwr := HW.out.size
        go_upto_region 14 with (fail)
        obtain ⟨cp, fp, sp⟩ := HP.out
        by_cases hnet : Net N m x
        · have HNT := Lib.hid hnet
          have HYes := Lib.hid fun (w' : World) (hb : Below w.heap.size w w') => New_yes w' N A1 m c1 x hm5 HX.out (S1.out.below hb) hnet
          clear hnet
          refine seq_reg [0, 1, 2, 3, 5, 6, 7, 8, 4, 9, 10, 11] [0, 0, 0, 0, 1, 0, 0, 0, 0, 1, 0, 0] (by kernel_rfl) _ rfl (by kernel_rfl) ?_
          intro wd hwd hwh; clear hwh
          have HPd := Lib.hid (HP.out.later hwd); have HWd := Lib.hid (HW.out.trans (hwd.mono hwr)); have hsd : w.heap.size ≤ wd.heap.size := HWd.out.size; clear cp fp sp; obtain ⟨cp, fp, sp⟩ := HPd.out
          (first | ((with_reducible refine s_read (v := ?_) rfl rfl ?hw (fun w' hC => ?hrun) ?_); (case hw => rfl); (case hrun => (obtain ⟨hq1, hq2⟩ := bcell hC; go_simp; with_reducible rfl)); refine s_norm (a' := ?_) ?_ ?_; rotate_left; (simp only [Act.put, List.getElem_toArray, List.getElem_cons_zero, List.setIfInBounds_toArray, List.set_cons_zero, List.set_cons_succ]; rfl)) | ((with_reducible refine s_skip rfl rfl ?hw ?_); (case hw => rfl); refine s_norm (a' := ?_) ?_ ?_; rotate_left; (simp only [Act.put, List.getElem_toArray, List.getElem_cons_zero, List.setIfInBounds_toArray, List.set_cons_zero, List.set_cons_succ]; rfl)))
          (first | ((with_reducible refine s_read (v := ?_) rfl rfl ?hw (fun w' hC => ?hrun) ?_); (case hw => rfl); (case hrun => (obtain ⟨hq1, hq2⟩ := bcell hC; go_simp; with_reducible rfl)); refine s_norm (a' := ?_) ?_ ?_; rotate_left; (simp only [Act.put, List.getElem_toArray, List.getElem_cons_succ, List.getElem_cons_zero, List.setIfInBounds_toArray, List.set_cons_zero, List.set_cons_succ]; rfl)) | ((with_reducible refine s_skip rfl rfl ?hw ?_); (case hw => rfl); refine s_norm (a' := ?_) ?_ ?_; rotate_left; (simp only [Act.put, List.getElem_toArray, List.getElem_cons_succ, List.getElem_cons_zero, List.setIfInBounds_toArray, List.set_cons_zero, List.set_cons_succ]; rfl)))
          (first | ((with_reducible refine s_read (v := ?_) rfl rfl ?hw (fun w' hC => ?hrun) ?_); (case hw => rfl); (case hrun => (obtain ⟨hq1, hq2⟩ := bcell hC; go_simp; with_reducible rfl)); refine s_norm (a' := ?_) ?_ ?_; rotate_left; (simp only [Act.put, List.getElem_toArray, List.getElem_cons_succ, List.getElem_cons_zero, List.setIfInBounds_toArray, List.set_cons_zero, List.set_cons_succ]; rfl)) | ((with_reducible refine s_skip rfl rfl ?hw ?_); (case hw => rfl); refine s_norm (a' := ?_) ?_ ?_; rotate_left; (simp only [Act.put, List.getElem_toArray, List.getElem_cons_succ, List.getElem_cons_zero, List.setIfInBounds_toArray, List.set_cons_zero, List.set_cons_succ]; rfl)))
          (first | ((with_reducible refine s_read (v := ?_) rfl rfl ?hw (fun w' hC => ?hrun) ?_); (case hw => rfl); (case hrun => (obtain ⟨hq1, hq2⟩ := bcell hC; go_simp; with_reducible rfl)); refine s_norm (a' := ?_) ?_ ?_; rotate_left; (simp only [Act.put, List.getElem_toArray, List.getElem_cons_succ, List.getElem_cons_zero, List.setIfInBounds_toArray, List.set_cons_zero, List.set_cons_succ]; rfl)) | ((with_reducible refine s_skip rfl rfl ?hw ?_); (case hw => rfl); refine s_norm (a' := ?_) ?_ ?_; rotate_left; (simp only [Act.put, List.getElem_toArray, List.getElem_cons_succ, List.getElem_cons_zero, List.setIfInBounds_toArray, List.set_cons_zero, List.set_cons_succ]; rfl)))
          (first | ((with_reducible refine s_read (v := ?_) rfl rfl ?hw (fun w' hC => ?hrun) ?_); (case hw => rfl); (case hrun => (obtain ⟨hq1, hq2⟩ := bcell hC; go_simp; with_reducible rfl)); refine s_norm (a' := ?_) ?_ ?_; rotate_left; (simp only [Act.put, List.getElem_toArray, List.getElem_cons_succ, List.getElem_cons_zero, List.setIfInBounds_toArray, List.set_cons_zero, List.set_cons_succ]; rfl)) | ((with_reducible refine s_skip rfl rfl ?hw ?_); (case hw => rfl); refine s_norm (a' := ?_) ?_ ?_; rotate_left; (simp only [Act.put, List.getElem_toArray, List.getElem_cons_succ, List.getElem_cons_zero, List.setIfInBounds_toArray, List.set_cons_zero, List.set_cons_succ]; rfl)))
          (first | ((with_reducible refine s_read (v := ?_) rfl rfl ?hw (fun w' hC => ?hrun) ?_); (case hw => rfl); (case hrun => (obtain ⟨hq1, hq2⟩ := bcell hC; go_simp; with_reducible rfl)); refine s_norm (a' := ?_) ?_ ?_; rotate_left; (simp only [Act.put, List.getElem_toArray, List.getElem_cons_succ, List.getElem_cons_zero, List.setIfInBounds_toArray, List.set_cons_zero, List.set_cons_succ]; rfl)) | ((with_reducible refine s_skip rfl rfl ?hw ?_); (case hw => rfl); refine s_norm (a' := ?_) ?_ ?_; rotate_left; (simp only [Act.put, List.getElem_toArray, List.getElem_cons_succ, List.getElem_cons_zero, List.setIfInBounds_toArray, List.set_cons_zero, List.set_cons_succ]; rfl)))
          (first | ((with_reducible refine s_read (v := ?_) rfl rfl ?hw (fun w' hC => ?hrun) ?_); (case hw => rfl); (case hrun => (obtain ⟨hq1, hq2⟩ := bcell hC; go_simp; with_reducible rfl)); refine s_norm (a' := ?_) ?_ ?_; rotate_left; (simp only [Act.put, List.getElem_toArray, List.getElem_cons_succ, List.getElem_cons_zero, List.setIfInBounds_toArray, List.set_cons_zero, List.set_cons_succ]; rfl)) | ((with_reducible refine s_skip rfl rfl ?hw ?_); (case hw => rfl); refine s_norm (a' := ?_) ?_ ?_; rotate_left; (simp only [Act.put, List.getElem_toArray, List.getElem_cons_succ, List.getElem_cons_zero, List.setIfInBounds_toArray, List.set_cons_zero, List.set_cons_succ]; rfl)))
          (first | ((with_reducible refine s_read (v := ?_) rfl rfl ?hw (fun w' hC => ?hrun) ?_); (case hw => rfl); (case hrun => (obtain ⟨hq1, hq2⟩ := bcell hC; go_simp; with_reducible rfl)); refine s_norm (a' := ?_) ?_ ?_; rotate_left; (simp only [Act.put, List.getElem_toArray, List.getElem_cons_succ, List.getElem_cons_zero, List.setIfInBounds_toArray, List.set_cons_zero, List.set_cons_succ]; rfl)) | ((with_reducible refine s_skip rfl rfl ?hw ?_); (case hw => rfl); refine s_norm (a' := ?_) ?_ ?_; rotate_left; (simp only [Act.put, List.getElem_toArray, List.getElem_cons_succ, List.getElem_cons_zero, List.setIfInBounds_toArray, List.set_cons_zero, List.set_cons_succ]; rfl)))
          (refine s_call (f := 5) (R := fun u w' => ∃ Q v, u = .pointer (some ⟨Q, 0, none⟩) ∧ Bas w' wd.heap.size Q v ((List.range m).map fun i => first (x i)) ∧ wd.heap.size ≤ Q) ((HYes.out wd HWd.out).mono fun e w' h => by obtain ⟨Q, v, he, h1, h2, h3⟩ := h; exact ⟨_, he, h3, Q, v, rfl, h1, h2⟩) (fn := _) Try.func5 (by kernel_rfl) rfl rfl rfl rfl ?hw ?hargs ?_; (case hw => rfl); (case hargs => (simp only [List.map_toArray, List.map_cons, List.map_nil]; rfl)); (intro u wa ha hv); obtain ⟨QA, vA, rfl, hbA, hqA⟩ := hv; have HBA := Lib.hid hbA; clear hbA; have HPa := Lib.hid (HPd.out.later ha); have HWa := Lib.hid (HWd.out.trans (ha.mono (by omega))); have hsa : w.heap.size ≤ wa.heap.size := HWa.out.size; clear cp fp sp; obtain ⟨cp, fp, sp⟩ := HPa.out; refine s_norm (a' := ?_) ?_ ?_; rotate_left; (simp only [Act.put, List.getElem_toArray, List.getElem_cons_succ, List.getElem_cons_zero, List.setIfInBounds_toArray, List.set_cons_zero, List.set_cons_succ]; rfl))
          (refine s_call (f := 5) (R := fun u w' => ∃ Q v, u = .pointer (some ⟨Q, 0, none⟩) ∧ Bas w' wa.heap.size Q v ((List.range m).map fun i => first (x i)) ∧ wa.heap.size ≤ Q) ((HYes.out wa HWa.out).mono fun e w' h => by obtain ⟨Q, v, he, h1, h2, h3⟩ := h; exact ⟨_, he, h3, Q, v, rfl, h1, h2⟩) (fn := _) Try.func5 (by kernel_rfl) rfl rfl rfl rfl ?hw ?hargs ?_; (case hw => rfl); (case hargs => (simp only [List.map_toArray, List.map_cons, List.map_nil]; rfl)); (intro u wb hb hv); obtain ⟨QB, vB, rfl, hbB, hqB⟩ := hv; have HBB := Lib.hid hbB; clear hbB; have HPb := Lib.hid (HPa.out.later hb); have HWb := Lib.hid (HWa.out.trans (hb.mono (by omega))); have hsb : w.heap.size ≤ wb.heap.size := HWb.out.size; clear cp fp sp; obtain ⟨cp, fp, sp⟩ := HPb.out; refine s_norm (a' := ?_) ?_ ?_; rotate_left; (simp only [Act.put, List.getElem_toArray, List.getElem_cons_succ, List.getElem_cons_zero, List.setIfInBounds_toArray, List.set_cons_zero, List.set_cons_succ]; rfl))
          (first | ((with_reducible refine s_read (v := ?_) rfl rfl ?hw (fun w' hC => ?hrun) ?_); (case hw => rfl); (case hrun => (obtain ⟨hq1, hq2⟩ := bcell hC; go_simp; with_reducible rfl)); refine s_norm (a' := ?_) ?_ ?_; rotate_left; (simp only [Act.put, List.getElem_toArray, List.getElem_cons_succ, List.getElem_cons_zero, List.setIfInBounds_toArray, List.set_cons_zero, List.set_cons_succ]; rfl)) | ((with_reducible refine s_skip rfl rfl ?hw ?_); (case hw => rfl); refine s_norm (a' := ?_) ?_ ?_; rotate_left; (simp only [Act.put, List.getElem_toArray, List.getElem_cons_succ, List.getElem_cons_zero, List.setIfInBounds_toArray, List.set_cons_zero, List.set_cons_succ]; rfl)))
          (first | ((with_reducible refine s_read (v := ?_) rfl rfl ?hw (fun w' hC => ?hrun) ?_); (case hw => rfl); (case hrun => (obtain ⟨hq1, hq2⟩ := bcell hC; go_simp; with_reducible rfl)); refine s_norm (a' := ?_) ?_ ?_; rotate_left; (simp only [Act.put, List.getElem_toArray, List.getElem_cons_succ, List.getElem_cons_zero, List.setIfInBounds_toArray, List.set_cons_zero, List.set_cons_succ]; rfl)) | ((with_reducible refine s_skip rfl rfl ?hw ?_); (case hw => rfl); refine s_norm (a' := ?_) ?_ ?_; rotate_left; (simp only [Act.put, List.getElem_toArray, List.getElem_cons_succ, List.getElem_cons_zero, List.setIfInBounds_toArray, List.set_cons_zero, List.set_cons_succ]; rfl)))
          refine s_nil ?_
          obtain ⟨Ba, Bb, hT⟩ : ∃ Ba Bb, Two w wb Ba Bb QA QB vA vB ((List.range m).map fun i => first (x i)) ((List.range m).map fun i => first (x i)) := ⟨_, _, Two.make HBA.out hb HBB.out hsd HWb.out hsa⟩
          have HAP := Lib.hid (Net.apartL HNT.out)
          have HMY := Lib.hid (Net.may16 HNT.out)
          have hm64 := HNT.out.m1
          have HI := Lib.hid (show FloodRel w m x n l Ba Bb QA QB vA vB (.int .i64 0) wb from ⟨0, _, _, Nat.zero_le _, rfl, Knows.first m x n l, Knows.first m x n l, hT⟩)
          clear HBA HBB hT HYes HNT hwd ha hb hqA hqB hsd hsa hsb HPd HPa HWd HWa HPb HWb hwr cp fp sp HW HP S1
          go_wp2
          go_loopw [129] (fun i wr => FloodRel w m x n l Ba Bb QA QB vA vB i wr) (fun i _ => n - (intOf i).toNat)
          case atStart => exact HI.out
          case round =>
            clear HI
            obtain ⟨k, xs, ys, hk, rfl, hk1, hk2, ht⟩ := hrel
            have HK1 := Lib.hid hk1
            have HK2 := Lib.hid hk2
            have HT := Lib.hid ht
            have HXL := Lib.hid (show xs.length ≤ 64 from by rw [hk1.on.len]; exact hm64)
            have HYL := Lib.hid (show ys.length ≤ 64 from by rw [hk2.on.len]; exact hm64)
            clear hk1 hk2 ht
            by_cases hlt : k < n
            · have i0 : (0 : Int) ≤ (k : Int) := by omega
              have i1 : (k : Int) < (n : Int) := by omega
              obtain ⟨ad, rfl, hadb, gg⟩ := S2.out.adv hlt
              have gg := gg wr HT.out.below
              have g0 : wr.cell? (ad.add (k * 15)) = some (.int .i64 (l k).src) := gg 0 (by omega); have g1 : wr.cell? ⟨(ad.add (k * 15)).block, (ad.add (k * 15)).off + 1, none⟩ = some (.int .i64 (l k).dst) := gg 1 (by omega); have g2 : wr.cell? ⟨(ad.add (k * 15)).block, (ad.add (k * 15)).off + 2, none⟩ = some (.int .u64 (l k).cap) := gg 2 (by omega); have g3 : wr.cell? ⟨(ad.add (k * 15)).block, (ad.add (k * 15)).off + 3, none⟩ = some (.int .i64 (l k).metric) := gg 3 (by omega); have g4 : wr.cell? ⟨(ad.add (k * 15)).block, (ad.add (k * 15)).off + 4, none⟩ = some (.int .u32 (l k).groups) := gg 4 (by omega); have g5 : wr.cell? ⟨(ad.add (k * 15)).block, (ad.add (k * 15)).off + 5, none⟩ = some (.int .i64 (l k).seq) := gg 5 (by omega); have g6 : wr.cell? ⟨(ad.add (k * 15)).block, (ad.add (k * 15)).off + 6, none⟩ = some (.bool (l k).up) := gg 6 (by omega); have g7 : wr.cell? ⟨(ad.add (k * 15)).block, (ad.add (k * 15)).off + 7, none⟩ = some (.int .u64 ((l k).free 0)) := gg 7 (by omega); have g8 : wr.cell? ⟨(ad.add (k * 15)).block, (ad.add (k * 15)).off + 8, none⟩ = some (.int .u64 ((l k).free 1)) := gg 8 (by omega); have g9 : wr.cell? ⟨(ad.add (k * 15)).block, (ad.add (k * 15)).off + 9, none⟩ = some (.int .u64 ((l k).free 2)) := gg 9 (by omega); have g10 : wr.cell? ⟨(ad.add (k * 15)).block, (ad.add (k * 15)).off + 10, none⟩ = some (.int .u64 ((l k).free 3)) := gg 10 (by omega); have g11 : wr.cell? ⟨(ad.add (k * 15)).block, (ad.add (k * 15)).off + 11, none⟩ = some (.int .u64 ((l k).free 4)) := gg 11 (by omega); have g12 : wr.cell? ⟨(ad.add (k * 15)).block, (ad.add (k * 15)).off + 12, none⟩ = some (.int .u64 ((l k).free 5)) := gg 12 (by omega); have g13 : wr.cell? ⟨(ad.add (k * 15)).block, (ad.add (k * 15)).off + 13, none⟩ = some (.int .u64 ((l k).free 6)) := gg 13 (by omega); have g14 : wr.cell? ⟨(ad.add (k * 15)).block, (ad.add (k * 15)).off + 14, none⟩ = some (.int .u64 ((l k).free 7)) := gg 14 (by omega)
              clear gg
              by_cases hl3 : k < n3
              · have i2 : (k : Int) < (n3 : Int) := by omega
                obtain ⟨ad3, rfl, hadb3, c3⟩ := S3.out.bit hl3
                have hc3 := c3 wr HT.out.below
                clear c3
                have hadw : ad3.block < wr.heap.size := Nat.lt_of_lt_of_le hadb3 HT.out.below.size
                have hadw2 : (ad3.add k).block < wr.heap.size := by rw [add_block]; exact hadw
                have hadw3 : ¬ ad3.block = wr.heap.size := by omega
                have hadw4 : ¬ (ad3.add k).block = wr.heap.size := by rw [add_block]; exact hadw3
                cases htk : t k with
                | true =>
                  as_aux_lemma =>
                  rw [htk] at hc3
                  go_wp2_with (first | (go_at_call 8; (with_reducible refine (Theirs_calls (l k) _).mono ?_); rintro e w4 ⟨rfl, hb4⟩; have HT4 := Lib.hid ((HT.out.later (show Below wr.heap.size wr (wr.alloc (.cells (advert (l k)) 37)) from (by repeat (first | (with_reducible exact Below.refl _ _) | (with_reducible assumption) | ((with_reducible refine Below.setCell ?_ ?_ _); rotate_left; (first | omega | (simp <;> omega))) | ((with_reducible refine Below.alloc ?_ ?_ _); rotate_left; (first | omega | (simp <;> omega))) | ((with_reducible refine Below.drew ?_)) | ((with_reducible refine below_drewN ?_ _)) | ((with_reducible refine Below.trans ?_ (Below.mono (by with_reducible assumption) ?_)); rotate_left; (first | omega | (simp <;> omega))))))).later hb4); clear hb4) | (go_at_call 7; (with_reducible refine (Apply_calls w4 Ba QA vA xs (l k) HT4.out.a HXL.out (HL.out k hlt).1 (HL.out k hlt).2).mono ?_); rintro e w5 ⟨b5, r5, rfl, hb5, hg5⟩; have HT5 := Lib.hid (HT4.out.setA hb5 hg5); clear hb5 hg5))
                  clear g0 g1 g2 g3 g4 g5 g6 g7 g8 g9 g10 g11 g12 g13 g14
                  go_roundw
                  case rel => exact ⟨k + 1, _, _, by omega, num_step k, HK1.out.app HAP.out k hlt, HK2.out, HT5.out⟩
                  case measure => exact measure_step hlt
                | false =>
                  as_aux_lemma =>
                  rw [htk] at hc3
                  go_wp2_with (first | (go_at_call 8; (with_reducible refine (Theirs_calls (l k) _).mono ?_); rintro e w4 ⟨rfl, hb4⟩; have HT4 := Lib.hid ((HT.out.later (show Below wr.heap.size wr (wr.alloc (.cells (advert (l k)) 37)) from (by repeat (first | (with_reducible exact Below.refl _ _) | (with_reducible assumption) | ((with_reducible refine Below.setCell ?_ ?_ _); rotate_left; (first | omega | (simp <;> omega))) | ((with_reducible refine Below.alloc ?_ ?_ _); rotate_left; (first | omega | (simp <;> omega))) | ((with_reducible refine Below.drew ?_)) | ((with_reducible refine below_drewN ?_ _)) | ((with_reducible refine Below.trans ?_ (Below.mono (by with_reducible assumption) ?_)); rotate_left; (first | omega | (simp <;> omega))))))).later hb4); clear hb4) | (go_at_call 7; (with_reducible refine (Apply_calls w4 Bb QB vB ys (l k) HT4.out.b HYL.out (HL.out k hlt).1 (HL.out k hlt).2).mono ?_); rintro e w5 ⟨b5, r5, rfl, hb5, hg5⟩; have HT5 := Lib.hid (HT4.out.setB hb5 hg5); clear hb5 hg5))
                  clear g0 g1 g2 g3 g4 g5 g6 g7 g8 g9 g10 g11 g12 g13 g14
                  go_roundw
                  case rel => exact ⟨k + 1, _, _, by omega, num_step k, HK1.out, HK2.out.app HAP.out k hlt, HT5.out⟩
                  case measure => exact measure_step hlt
              · as_aux_lemma =>
                have i2 : ¬ ((k : Int) < (n3 : Int)) := by omega
                go_wp2_with (first | (go_at_call 8; (with_reducible refine (Theirs_calls (l k) _).mono ?_); rintro e w4 ⟨rfl, hb4⟩; have HT4 := Lib.hid ((HT.out.later (show Below wr.heap.size wr (wr.alloc (.cells (advert (l k)) 37)) from (by repeat (first | (with_reducible exact Below.refl _ _) | (with_reducible assumption) | ((with_reducible refine Below.setCell ?_ ?_ _); rotate_left; (first | omega | (simp <;> omega))) | ((with_reducible refine Below.alloc ?_ ?_ _); rotate_left; (first | omega | (simp <;> omega))) | ((with_reducible refine Below.drew ?_)) | ((with_reducible refine below_drewN ?_ _)) | ((with_reducible refine Below.trans ?_ (Below.mono (by with_reducible assumption) ?_)); rotate_left; (first | omega | (simp <;> omega))))))).later hb4); clear hb4) | (go_at_call 7; (with_reducible refine (Apply_calls w4 Bb QB vB ys (l k) HT4.out.b HYL.out (HL.out k hlt).1 (HL.out k hlt).2).mono ?_); rintro e w5 ⟨b5, r5, rfl, hb5, hg5⟩; have HT5 := Lib.hid (HT4.out.setB hb5 hg5); clear hb5 hg5))
                clear g0 g1 g2 g3 g4 g5 g6 g7 g8 g9 g10 g11 g12 g13 g14
                go_roundw
                case rel => exact ⟨k + 1, _, _, by omega, num_step k, HK1.out, HK2.out.app HAP.out k hlt, HT5.out⟩
                case measure => exact measure_step hlt
            · as_aux_lemma =>
              obtain rfl : n = k := by omega
              go_upto_region 24 with (fail)
              have HS1 := Lib.hid (HK2.out.sound HMY.out HX.out HXW.out HL.out HLW.out)
              have HK3 := Lib.hid (HK1.out.apps HK2.out HAP.out HMY.out)
              have HS3 := Lib.hid (HK3.out.sound HMY.out HX.out HXW.out HL.out HLW.out)
              have HK4 := Lib.hid (HK2.out.apps HK3.out HAP.out HMY.out)
              have HFL := Lib.hid (fun i (hi : i < m) => (flood HK1.out HK2.out HAP.out HMY.out HC.out.clear i hi).symm)
              have HL3 := Lib.hid (show (apps xs ys).length ≤ 64 from by rw [HK3.out.on.len]; exact hm64)
              go_wp2_with (first | (go_at_call 9; (with_reducible refine (learn_calls _ Ba Bb QA QB vA vB xs ys HT.out.a HT.out.b HXL.out HYL.out HS1.out HT.out.ne).mono ?_); rintro e w2 ⟨rfl, h1, _, h2⟩; have HT2 := Lib.hid (HT.out.setA h1 h2); clear h1 h2) | (go_at_call 9; (with_reducible refine (learn_calls _ Bb Ba QB QA vB vA ys (apps xs ys) HT2.out.b HT2.out.a HYL.out HL3.out HS3.out HT2.out.ne').mono ?_); rintro e w3 ⟨rfl, h1, _, h2⟩; have HT3 := Lib.hid (HT2.out.setB h1 h2); clear h1 h2) | (go_at_call 6; (with_reducible refine (AllM _ Ba QA vA (apps xs ys) m HT3.out.a HK3.out.on.len hm64).mono ?_); rintro e w4 ⟨_, rfl, h4, AA, ca, rfl, hs⟩; have HSA := Lib.hid hs; have HT4 := Lib.hid (HT3.out.later h4); clear hs h4) | (go_at_call 11; (with_reducible refine (OursM _ AA m ca (nth (apps xs ys)) hm64 HSA.out).mono ?_); rintro e w5 ⟨_, rfl, h5, AB, cb, rfl, hs⟩; have HSB := Lib.hid hs; have HT5 := Lib.hid (HT4.out.later h5); clear hs h5) | (go_at_call 6; (with_reducible refine (AllM _ Bb QB vB (apps ys (apps xs ys)) m HT5.out.b HK4.out.on.len hm64).mono ?_); rintro e w6 ⟨_, rfl, h6, AC, cc, rfl, hs⟩; have HSC := Lib.hid hs; have HT6 := Lib.hid (HT5.out.later h6); have HSB6 := Lib.hid (HSB.out.below h6); clear hs h6) | (go_at_call 11; (with_reducible refine (OursM _ AC m cc (nth (apps ys (apps xs ys))) hm64 HSC.out).mono ?_); rintro e w7 ⟨_, rfl, h7, AD, cd, rfl, hs⟩; have HSD := Lib.hid (Strip.like hs HFL.out); have HT7 := Lib.hid (HT6.out.later h7); have HSB7 := Lib.hid (HSB6.out.below h7); clear hs h7) | (go_at_call 10; (with_reducible refine (Same_calls _ AB AD m cb cd (nth (apps xs ys)) (by omega) HSB7.out HSD.out).mono ?_); rintro e w8 ⟨rfl, h8⟩; have HT8 := Lib.hid (HT7.out.later h8); clear h8))
              go_ret
              exact ⟨rfl, HT8.out.below⟩
        · as_aux_lemma =>
          have HNo := Lib.hid fun (w' : World) (hb : Below w.heap.size w w') => New_no w' N A1 m c1 x hm5 HX.out (S1.out.below hb) hnet
          clear hnet
          refine seq_reg [0, 1, 2, 3, 5, 6, 7, 8, 4, 9, 10, 11] [0, 0, 0, 0, 1, 0, 0, 0, 0, 1, 0, 0] (by kernel_rfl) _ rfl (by kernel_rfl) ?_
          intro wd hwd hwh; clear hwh
          have HPd := Lib.hid (HP.out.later hwd); have HWd := Lib.hid (HW.out.trans (hwd.mono hwr)); have hsd : w.heap.size ≤ wd.heap.size := HWd.out.size; clear cp fp sp; obtain ⟨cp, fp, sp⟩ := HPd.out
          (first | ((with_reducible refine s_read (v := ?_) rfl rfl ?hw (fun w' hC => ?hrun) ?_); (case hw => rfl); (case hrun => (obtain ⟨hq1, hq2⟩ := bcell hC; go_simp; with_reducible rfl)); refine s_norm (a' := ?_) ?_ ?_; rotate_left; (simp only [Act.put, List.getElem_toArray, List.getElem_cons_zero, List.setIfInBounds_toArray, List.set_cons_zero, List.set_cons_succ]; rfl)) | ((with_reducible refine s_skip rfl rfl ?hw ?_); (case hw => rfl); refine s_norm (a' := ?_) ?_ ?_; rotate_left; (simp only [Act.put, List.getElem_toArray, List.getElem_cons_zero, List.setIfInBounds_toArray, List.set_cons_zero, List.set_cons_succ]; rfl)))
          (first | ((with_reducible refine s_read (v := ?_) rfl rfl ?hw (fun w' hC => ?hrun) ?_); (case hw => rfl); (case hrun => (obtain ⟨hq1, hq2⟩ := bcell hC; go_simp; with_reducible rfl)); refine s_norm (a' := ?_) ?_ ?_; rotate_left; (simp only [Act.put, List.getElem_toArray, List.getElem_cons_succ, List.getElem_cons_zero, List.setIfInBounds_toArray, List.set_cons_zero, List.set_cons_succ]; rfl)) | ((with_reducible refine s_skip rfl rfl ?hw ?_); (case hw => rfl); refine s_norm (a' := ?_) ?_ ?_; rotate_left; (simp only [Act.put, List.getElem_toArray, List.getElem_cons_succ, List.getElem_cons_zero, List.setIfInBounds_toArray, List.set_cons_zero, List.set_cons_succ]; rfl)))
          (first | ((with_reducible refine s_read (v := ?_) rfl rfl ?hw (fun w' hC => ?hrun) ?_); (case hw => rfl); (case hrun => (obtain ⟨hq1, hq2⟩ := bcell hC; go_simp; with_reducible rfl)); refine s_norm (a' := ?_) ?_ ?_; rotate_left; (simp only [Act.put, List.getElem_toArray, List.getElem_cons_succ, List.getElem_cons_zero, List.setIfInBounds_toArray, List.set_cons_zero, List.set_cons_succ]; rfl)) | ((with_reducible refine s_skip rfl rfl ?hw ?_); (case hw => rfl); refine s_norm (a' := ?_) ?_ ?_; rotate_left; (simp only [Act.put, List.getElem_toArray, List.getElem_cons_succ, List.getElem_cons_zero, List.setIfInBounds_toArray, List.set_cons_zero, List.set_cons_succ]; rfl)))
          (first | ((with_reducible refine s_read (v := ?_) rfl rfl ?hw (fun w' hC => ?hrun) ?_); (case hw => rfl); (case hrun => (obtain ⟨hq1, hq2⟩ := bcell hC; go_simp; with_reducible rfl)); refine s_norm (a' := ?_) ?_ ?_; rotate_left; (simp only [Act.put, List.getElem_toArray, List.getElem_cons_succ, List.getElem_cons_zero, List.setIfInBounds_toArray, List.set_cons_zero, List.set_cons_succ]; rfl)) | ((with_reducible refine s_skip rfl rfl ?hw ?_); (case hw => rfl); refine s_norm (a' := ?_) ?_ ?_; rotate_left; (simp only [Act.put, List.getElem_toArray, List.getElem_cons_succ, List.getElem_cons_zero, List.setIfInBounds_toArray, List.set_cons_zero, List.set_cons_succ]; rfl)))
          (first | ((with_reducible refine s_read (v := ?_) rfl rfl ?hw (fun w' hC => ?hrun) ?_); (case hw => rfl); (case hrun => (obtain ⟨hq1, hq2⟩ := bcell hC; go_simp; with_reducible rfl)); refine s_norm (a' := ?_) ?_ ?_; rotate_left; (simp only [Act.put, List.getElem_toArray, List.getElem_cons_succ, List.getElem_cons_zero, List.setIfInBounds_toArray, List.set_cons_zero, List.set_cons_succ]; rfl)) | ((with_reducible refine s_skip rfl rfl ?hw ?_); (case hw => rfl); refine s_norm (a' := ?_) ?_ ?_; rotate_left; (simp only [Act.put, List.getElem_toArray, List.getElem_cons_succ, List.getElem_cons_zero, List.setIfInBounds_toArray, List.set_cons_zero, List.set_cons_succ]; rfl)))
          (first | ((with_reducible refine s_read (v := ?_) rfl rfl ?hw (fun w' hC => ?hrun) ?_); (case hw => rfl); (case hrun => (obtain ⟨hq1, hq2⟩ := bcell hC; go_simp; with_reducible rfl)); refine s_norm (a' := ?_) ?_ ?_; rotate_left; (simp only [Act.put, List.getElem_toArray, List.getElem_cons_succ, List.getElem_cons_zero, List.setIfInBounds_toArray, List.set_cons_zero, List.set_cons_succ]; rfl)) | ((with_reducible refine s_skip rfl rfl ?hw ?_); (case hw => rfl); refine s_norm (a' := ?_) ?_ ?_; rotate_left; (simp only [Act.put, List.getElem_toArray, List.getElem_cons_succ, List.getElem_cons_zero, List.setIfInBounds_toArray, List.set_cons_zero, List.set_cons_succ]; rfl)))
          (first | ((with_reducible refine s_read (v := ?_) rfl rfl ?hw (fun w' hC => ?hrun) ?_); (case hw => rfl); (case hrun => (obtain ⟨hq1, hq2⟩ := bcell hC; go_simp; with_reducible rfl)); refine s_norm (a' := ?_) ?_ ?_; rotate_left; (simp only [Act.put, List.getElem_toArray, List.getElem_cons_succ, List.getElem_cons_zero, List.setIfInBounds_toArray, List.set_cons_zero, List.set_cons_succ]; rfl)) | ((with_reducible refine s_skip rfl rfl ?hw ?_); (case hw => rfl); refine s_norm (a' := ?_) ?_ ?_; rotate_left; (simp only [Act.put, List.getElem_toArray, List.getElem_cons_succ, List.getElem_cons_zero, List.setIfInBounds_toArray, List.set_cons_zero, List.set_cons_succ]; rfl)))
          (first | ((with_reducible refine s_read (v := ?_) rfl rfl ?hw (fun w' hC => ?hrun) ?_); (case hw => rfl); (case hrun => (obtain ⟨hq1, hq2⟩ := bcell hC; go_simp; with_reducible rfl)); refine s_norm (a' := ?_) ?_ ?_; rotate_left; (simp only [Act.put, List.getElem_toArray, List.getElem_cons_succ, List.getElem_cons_zero, List.setIfInBounds_toArray, List.set_cons_zero, List.set_cons_succ]; rfl)) | ((with_reducible refine s_skip rfl rfl ?hw ?_); (case hw => rfl); refine s_norm (a' := ?_) ?_ ?_; rotate_left; (simp only [Act.put, List.getElem_toArray, List.getElem_cons_succ, List.getElem_cons_zero, List.setIfInBounds_toArray, List.set_cons_zero, List.set_cons_succ]; rfl)))
          (refine s_call (f := 5) (R := fun v _ => v = .pointer none) ((HNo.out wd HWd.out).mono fun e w' h => ⟨_, h.1, h.2, rfl⟩) (fn := _) Try.func5 (by kernel_rfl) rfl rfl rfl rfl ?hw ?hargs ?_; (case hw => rfl); (case hargs => (simp only [List.map_toArray, List.map_cons, List.map_nil]; rfl)); (intro v wa ha hv); subst hv; have HPa := Lib.hid (HPd.out.later ha); have HWa := Lib.hid (HWd.out.trans (ha.mono (by omega))); have hsa : w.heap.size ≤ wa.heap.size := HWa.out.size; clear cp fp sp; obtain ⟨cp, fp, sp⟩ := HPa.out; refine s_norm (a' := ?_) ?_ ?_; rotate_left; (simp only [Act.put, List.getElem_toArray, List.getElem_cons_succ, List.getElem_cons_zero, List.setIfInBounds_toArray, List.set_cons_zero, List.set_cons_succ]; rfl))
          (refine s_call (f := 5) (R := fun v _ => v = .pointer none) ((HNo.out wa HWa.out).mono fun e w' h => ⟨_, h.1, h.2, rfl⟩) (fn := _) Try.func5 (by kernel_rfl) rfl rfl rfl rfl ?hw ?hargs ?_; (case hw => rfl); (case hargs => (simp only [List.map_toArray, List.map_cons, List.map_nil]; rfl)); (intro v wb hb hv); subst hv; have HPb := Lib.hid (HPa.out.later hb); have HWb := Lib.hid (HWa.out.trans (hb.mono (by omega))); have hsb : w.heap.size ≤ wb.heap.size := HWb.out.size; clear cp fp sp; obtain ⟨cp, fp, sp⟩ := HPb.out; refine s_norm (a' := ?_) ?_ ?_; rotate_left; (simp only [Act.put, List.getElem_toArray, List.getElem_cons_succ, List.getElem_cons_zero, List.setIfInBounds_toArray, List.set_cons_zero, List.set_cons_succ]; rfl))
          (first | ((with_reducible refine s_read (v := ?_) rfl rfl ?hw (fun w' hC => ?hrun) ?_); (case hw => rfl); (case hrun => (obtain ⟨hq1, hq2⟩ := bcell hC; go_simp; with_reducible rfl)); refine s_norm (a' := ?_) ?_ ?_; rotate_left; (simp only [Act.put, List.getElem_toArray, List.getElem_cons_succ, List.getElem_cons_zero, List.setIfInBounds_toArray, List.set_cons_zero, List.set_cons_succ]; rfl)) | ((with_reducible refine s_skip rfl rfl ?hw ?_); (case hw => rfl); refine s_norm (a' := ?_) ?_ ?_; rotate_left; (simp only [Act.put, List.getElem_toArray, List.getElem_cons_succ, List.getElem_cons_zero, List.setIfInBounds_toArray, List.set_cons_zero, List.set_cons_succ]; rfl)))
          (first | ((with_reducible refine s_read (v := ?_) rfl rfl ?hw (fun w' hC => ?hrun) ?_); (case hw => rfl); (case hrun => (obtain ⟨hq1, hq2⟩ := bcell hC; go_simp; with_reducible rfl)); refine s_norm (a' := ?_) ?_ ?_; rotate_left; (simp only [Act.put, List.getElem_toArray, List.getElem_cons_succ, List.getElem_cons_zero, List.setIfInBounds_toArray, List.set_cons_zero, List.set_cons_succ]; rfl)) | ((with_reducible refine s_skip rfl rfl ?hw ?_); (case hw => rfl); refine s_norm (a' := ?_) ?_ ?_; rotate_left; (simp only [Act.put, List.getElem_toArray, List.getElem_cons_succ, List.getElem_cons_zero, List.setIfInBounds_toArray, List.set_cons_zero, List.set_cons_succ]; rfl)))
          refine s_nil ?_
          go_wp2
          go_ret
          exact ⟨rfl, HWb.out⟩
  · by_cases hmb : m ≤ 100
    · as_aux_lemma =>
      have hmi : (m : Int) ≤ 100 := by omega
      have hni : (100 : Int) < (n : Int) := by omega
      clear hbig
      go_wp2_with (go_at_call 6; first | ((with_reducible refine (HAN.out _ _ _ _ HBE.out).mono ?_); rintro e w2 ⟨Ae, ce, rfl, hb2⟩; have HW2 := Lib.hid (HW.out.trans (hb2.mono HW.out.size)); have HBE2 := Lib.hid (HBE.out.later hb2); have HP2 := Lib.hid (HP.out.later hb2); clear cp fp sp hb2; obtain ⟨cp, fp, sp⟩ := HP2.out) | ((with_reducible refine (HAN.out _ _ _ _ HBE2.out).mono ?_); rintro e w3 ⟨Af, cf, rfl, hb3⟩; have HW3 := Lib.hid (HW2.out.trans (hb3.mono HW2.out.size)); clear hb3))
      go_ret
      exact ⟨rfl, HW3.out⟩
    · as_aux_lemma =>
      have hmi : (100 : Int) < (m : Int) := by omega
      clear hbig hmb
      go_wp2_with (go_at_call 6; first | ((with_reducible refine (HAN.out _ _ _ _ HBE.out).mono ?_); rintro e w2 ⟨Ae, ce, rfl, hb2⟩; have HW2 := Lib.hid (HW.out.trans (hb2.mono HW.out.size)); have HBE2 := Lib.hid (HBE.out.later hb2); have HP2 := Lib.hid (HP.out.later hb2); clear cp fp sp hb2; obtain ⟨cp, fp, sp⟩ := HP2.out) | ((with_reducible refine (HAN.out _ _ _ _ HBE2.out).mono ?_); rintro e w3 ⟨Af, cf, rfl, hb3⟩; have HW3 := Lib.hid (HW2.out.trans (hb3.mono HW2.out.size)); clear hb3))
      go_ret
      exact ⟨rfl, HW3.out⟩
end Go.Proofs.Yteaipeejhippiaa
