/- From a ledger without anything held on, all stay right, whatever is put and taken. The walk of the law. -/
import Derived.Test.YtbbhbfeafdibmaaMoves
import Derived.Test.YtbbhbfeafdibmaaOpenActs
import Derived.LoopTactic
namespace Go.Proofs.Ytbbhbfeafdibmaa
open Go.RowKit Plain
attribute [local go_sem] cell_set_self

/-- What Put comes to: the ledger's two parts and the error's number. -/
def putR (c : Int) (h : Nat → Int) (p bw : Int) : Int × (Nat → Int) × Int :=
  if mayB c h p = true then (if sumTo h 8 + bw ≤ c then (c, setAt h p.toNat (h p.toNat + bw), 0) else (0, none_, 14)) else (0, none_, 2)
/-- What Take comes to. -/
def takeR (c : Int) (h : Nat → Int) (p bw : Int) : Int × (Nat → Int) × Int :=
  if mayB c h p = true then (if bw ≤ h p.toNat then (c, setAt h p.toNat (h p.toNat - bw), 0) else (0, none_, 8)) else (0, none_, 2)
theorem Put_any (c : Int) (h : Nat → Int) (p bw : Int) (hh : Nums h) (h0c : 0 ≤ c) (hc : c < 18446744073709551616) (h0 : 0 ≤ bw) (h1 : bw < 18446744073709551616) (w : World) :
    Calls Try.prog 20 #[.agg #[.int .u64 c, .int .u64 (h 0), .int .u64 (h 1), .int .u64 (h 2), .int .u64 (h 3), .int .u64 (h 4), .int .u64 (h 5), .int .u64 (h 6), .int .u64 (h 7)], .int .i64 p, .int .u64 bw] w fun e w' => e = .returned (.tuple #[.agg #[.int .u64 (putR c h p bw).1, .int .u64 ((putR c h p bw).2.1 0), .int .u64 ((putR c h p bw).2.1 1), .int .u64 ((putR c h p bw).2.1 2), .int .u64 ((putR c h p bw).2.1 3), .int .u64 ((putR c h p bw).2.1 4), .int .u64 ((putR c h p bw).2.1 5), .int .u64 ((putR c h p bw).2.1 6), .int .u64 ((putR c h p bw).2.1 7)], .int .i64 (putR c h p bw).2.2]) ∧ Below w.heap.size w w' := by
  cases hm : mayB c h p with
  | false =>
    rw [show putR c h p bw = (0, none_, 2) from by simp [putR, hm]]
    exact Put_arg c h p bw hh hc hm w
  | true =>
    by_cases hr : sumTo h 8 + bw ≤ c
    · rw [show putR c h p bw = (c, setAt h p.toNat (h p.toNat + bw), 0) from by simp [putR, hm, hr]]
      exact Put_ok c h p bw hh h0c hc h0 h1 hm hr w
    · rw [show putR c h p bw = (0, none_, 14) from by simp [putR, hm, hr]]
      exact Put_room c h p bw hh hc h0 h1 hm hr w
theorem Take_any (c : Int) (h : Nat → Int) (p bw : Int) (hh : Nums h) (hc : c < 18446744073709551616) (h0 : 0 ≤ bw) (w : World) :
    Calls Try.prog 23 #[.agg #[.int .u64 c, .int .u64 (h 0), .int .u64 (h 1), .int .u64 (h 2), .int .u64 (h 3), .int .u64 (h 4), .int .u64 (h 5), .int .u64 (h 6), .int .u64 (h 7)], .int .i64 p, .int .u64 bw] w fun e w' => e = .returned (.tuple #[.agg #[.int .u64 (takeR c h p bw).1, .int .u64 ((takeR c h p bw).2.1 0), .int .u64 ((takeR c h p bw).2.1 1), .int .u64 ((takeR c h p bw).2.1 2), .int .u64 ((takeR c h p bw).2.1 3), .int .u64 ((takeR c h p bw).2.1 4), .int .u64 ((takeR c h p bw).2.1 5), .int .u64 ((takeR c h p bw).2.1 6), .int .u64 ((takeR c h p bw).2.1 7)], .int .i64 (takeR c h p bw).2.2]) ∧ Below w.heap.size w w' := by
  cases hm : mayB c h p with
  | false =>
    rw [show takeR c h p bw = (0, none_, 2) from by simp [takeR, hm]]
    exact Take_arg c h p bw hh hc hm w
  | true =>
    by_cases hr : bw ≤ h p.toNat
    · rw [show takeR c h p bw = (c, setAt h p.toNat (h p.toNat - bw), 0) from by simp [takeR, hm, hr]]
      exact Take_ok c h p bw hh hc h0 hm hr w
    · rw [show takeR c h p bw = (0, none_, 8) from by simp [takeR, hm, hr]]
      exact Take_none c h p bw hh hc hm (Int.not_le.1 hr) w
theorem put_facts {c : Int} {h : Nat → Int} {p bw : Int} (hh : Nums h) (hc : c < 18446744073709551616) (h0 : 0 ≤ bw) (he : (putR c h p bw).2.2 = 0) :
    (putR c h p bw).1 = c ∧ Nums (putR c h p bw).2.1 ∧ sumTo (putR c h p bw).2.1 8 = sumTo h 8 + bw ∧ sumTo h 8 + bw ≤ c := by
  unfold putR at he ⊢
  by_cases hm : mayB c h p = true
  · rw [if_pos hm] at he ⊢
    by_cases hr : sumTo h 8 + bw ≤ c
    · rw [if_pos hr]
      obtain ⟨hp0, hp8, _⟩ := may_bounds hm
      have hle : h p.toNat ≤ sumTo h 8 := le_sumTo hh (by omega)
      have hv := (hh p.toNat (by omega)).1
      refine ⟨rfl, setAt_nums hh (by omega) (by omega), ?_, hr⟩
      show sumTo (setAt h p.toNat (h p.toNat + bw)) 8 = _
      rw [sumTo_setAt h p.toNat _ 8, if_pos (by omega)]
      omega
    · rw [if_neg hr] at he
      cases he
  · rw [if_neg hm] at he
    cases he
theorem take_facts {c : Int} {h : Nat → Int} {p bw : Int} (hh : Nums h) (h0 : 0 ≤ bw) (hs : sumTo h 8 ≤ c) (he : (takeR c h p bw).2.2 = 0) :
    (takeR c h p bw).1 = c ∧ Nums (takeR c h p bw).2.1 ∧ sumTo (takeR c h p bw).2.1 8 = sumTo h 8 - bw ∧ 0 ≤ sumTo h 8 - bw ∧ sumTo h 8 - bw ≤ c := by
  unfold takeR at he ⊢
  by_cases hm : mayB c h p = true
  · rw [if_pos hm] at he ⊢
    by_cases hr : bw ≤ h p.toNat
    · rw [if_pos hr]
      obtain ⟨hp0, hp8, _⟩ := may_bounds hm
      have hle : h p.toNat ≤ sumTo h 8 := le_sumTo hh (by omega)
      have hv := (hh p.toNat (by omega)).2
      refine ⟨rfl, setAt_nums hh (by omega) (by omega), ?_, by omega, by omega⟩
      show sumTo (setAt h p.toNat (h p.toNat - bw)) 8 = _
      rw [sumTo_setAt h p.toNat _ 8, if_pos (by omega)]
      omega
    · rw [if_neg hr] at he
      cases he
  · rw [if_neg hm] at he
    cases he

set_option maxRecDepth 100000 in
set_option maxHeartbeats 8000000 in
theorem LedgerRight_walk (c : Int) (A : Option Addr) (len cap : Nat) (t : Nat → Bool) (q b : Nat → Int) (hlen : len ≤ 9223372036854775807) (h0c : 0 ≤ c) (hc : c < 18446744073709551616) (w : World) (ha : Acts w A len t q b) :
    Calls Try.prog 9 #[.int .u64 c, .slice A len cap] w fun e w' => e = .returned (.bool true) ∧ Below w.heap.size w w' := by
  have H1 := Lib.hid alive_calls
  have HA := Lib.hid ha
  clear ha
  go_enter Try.func9, Try.ntmps9
  go_wp2_with (go_at_call 10; (with_reducible refine (H1.out _).mono ?_); rintro e w1 ⟨rfl, hb⟩; obtain ⟨hb1, hb2⟩ := bcell hb)
  have hge : w.heap.size ≤ w1.heap.size := hb.size
  have hbel : Below w.heap.size w (w1.alloc (.cells #[.int .u64 c, .int .u64 (none_ 0), .int .u64 (none_ 1), .int .u64 (none_ 2), .int .u64 (none_ 3), .int .u64 (none_ 4), .int .u64 (none_ 5), .int .u64 (none_ 6), .int .u64 (none_ 7)] 30)) := (by repeat (first | (with_reducible exact Below.refl _ _) | (with_reducible assumption) | ((with_reducible refine Below.setCell ?_ ?_ _); rotate_left; (first | omega | (simp <;> omega))) | ((with_reducible refine Below.alloc ?_ ?_ _); rotate_left; (first | omega | (simp <;> omega))) | ((with_reducible refine Below.drew ?_)) | ((with_reducible refine below_drewN ?_ _)) | ((with_reducible refine Below.trans ?_ (Below.mono (by with_reducible assumption) ?_)); rotate_left; (first | omega | (simp <;> omega)))))
  have hr1 : Row (w1.alloc (.cells #[.int .u64 c, .int .u64 (none_ 0), .int .u64 (none_ 1), .int .u64 (none_ 2), .int .u64 (none_ 3), .int .u64 (none_ 4), .int .u64 (none_ 5), .int .u64 (none_ 6), .int .u64 (none_ 7)] 30)) w1.heap.size #[.int .u64 c, .int .u64 (none_ 0), .int .u64 (none_ 1), .int .u64 (none_ 2), .int .u64 (none_ 3), .int .u64 (none_ 4), .int .u64 (none_ 5), .int .u64 (none_ 6), .int .u64 (none_ 7)] := Row.new w1 _ _
  have HB0 := Lib.hid hbel
  have HR1 := Lib.hid hr1
  clear hbel hr1 hb hb1 hb2
  go_loopw [6, 7] (fun n i wr => ∃ (k : Nat) (h : Nat → Int), k ≤ len ∧ i = .int .i64 (k : Int) ∧ n = .int .u64 (sumTo h 8) ∧ Nums h ∧ sumTo h 8 ≤ c ∧ Below w.heap.size w wr ∧ Row wr w1.heap.size #[.int .u64 c, .int .u64 (h 0), .int .u64 (h 1), .int .u64 (h 2), .int .u64 (h 3), .int .u64 (h 4), .int .u64 (h 5), .int .u64 (h 6), .int .u64 (h 7)]) (fun _ i _ => len - (intOf i).toNat)
  case atStart => exact ⟨0, none_, by omega, rfl, rfl, fun k _ => ⟨by simp [none_], by simp [none_]⟩, h0c, HB0.out, HR1.out⟩
  case round =>
    obtain ⟨k, h, hk, rfl, rfl, hh, hs, hbel, hr⟩ := hrel
    clear HB0 HR1
    have HB0 := Lib.hid hbel
    have HR1 := Lib.hid hr
    clear hbel
    obtain ⟨c1, f1, s1⟩ := hr
    by_cases hlt : k < len
    · by_cases h200 : k < 200
      · obtain ⟨ad, rfl, hadb, hcells⟩ := HA.out (by omega)
        obtain ⟨e0, e1, e2, hb0, hb1⟩ := hcells k hlt
        have g0 : wr.cell? (ad.add (k * 3)) = some (.bool (t k)) := (HB0.out.cell (by rw [add_block]; exact hadb)).trans e0
        have g1 : wr.cell? ⟨(ad.add (k * 3)).block, (ad.add (k * 3)).off + 1, none⟩ = some (.int .i64 (q k)) := (HB0.out.cell (by show (ad.add (k * 3)).block < _; rw [add_block]; exact hadb)).trans e1
        have g2 : wr.cell? ⟨(ad.add (k * 3)).block, (ad.add (k * 3)).off + 2, none⟩ = some (.int .u64 (b k)) := (HB0.out.cell (by show (ad.add (k * 3)).block < _; rw [add_block]; exact hadb)).trans e2
        clear e0 e1 e2 hcells HA
        have hp := fun w => Put_any c h (q k) (b k) hh h0c hc hb0 hb1 w
        have ht := fun w => Take_any c h (q k) (b k) hh hc hb0 w
        have pf := put_facts (p := q k) hh hc hb0
        have tf := take_facts (p := q k) hh hb0 hs
        generalize putR c h (q k) (b k) = P at hp pf
        generalize takeR c h (q k) (b k) = T at ht tf
        obtain ⟨pc, ph, pe⟩ := P
        obtain ⟨tc, th, te⟩ := T
        simp only at hp ht pf tf
        have HP := Lib.hid hp
        have HT := Lib.hid ht
        have PF := Lib.hid pf
        have TF := Lib.hid tf
        have HZ := Lib.hid (sumTo_nonneg hh 8 (by omega))
        have HTK := Lib.hid (rfl : t k = t k)
        have HH := Lib.hid hh
        clear hp ht pf tf hh
        generalize hq : q k = qk at *
        generalize hbk : b k = bk at *
        generalize htk : t k = tk at *
        clear hq hbk htk HTK
        cases tk with
        | false =>
          by_cases he : pe = 0
          · subst he
            obtain ⟨p1, p2, p3, p4⟩ := PF.out rfl
            subst p1
            have hs' := Sum_calls pc ph p2
            have hr' := Right_calls pc ph p2 hc
            rw [uptoOk_yes (by omega), uptoN_yes (by omega)] at hs'
            rw [right_yes (by omega)] at hr'
            have HS := Lib.hid hs'
            have HR := Lib.hid hr'
            have HN := Lib.hid p2
            have H3 := Lib.hid p3
            have hle : sumTo ph 8 ≤ pc := by omega
            clear hs' hr' p2 PF TF HT
            rw [H3.out] at HS hle
            clear p3
            have hz := HZ.out
            have hz1 : sumTo h 8 + bk ≤ 18446744073709551615 := by omega
            go_wp2_with (first | (go_at_call 20; (with_reducible refine (HP.out _).mono ?_); rintro e w2 ⟨rfl, hd⟩; obtain ⟨hd1, hd2⟩ := bcell hd; have hdzwr : wr.heap.size < w2.heap.size := size_lt hd (by first | omega | (simp <;> omega)); have hdzw1 : w1.heap.size < w2.heap.size := size_lt hd (by first | omega | (simp <;> omega))) | (go_at_call 13; (with_reducible refine (HS.out _).mono ?_); rintro e w3 ⟨rfl, hf⟩; have hbe := HB0.out; have hb3 : Below w.heap.size w w3 := (by repeat (first | (with_reducible exact Below.refl _ _) | (with_reducible assumption) | ((with_reducible refine Below.setCell ?_ ?_ _); rotate_left; (first | omega | (simp <;> omega))) | ((with_reducible refine Below.alloc ?_ ?_ _); rotate_left; (first | omega | (simp <;> omega))) | ((with_reducible refine Below.drew ?_)) | ((with_reducible refine below_drewN ?_ _)) | ((with_reducible refine Below.trans ?_ (Below.mono (by with_reducible assumption) ?_)); rotate_left; (first | omega | (simp <;> omega))))); have HB3 := Lib.hid hb3; have r2 := (((((((((((HR1.out.alloc (.cells #[.bool false, .int .i64 qk, .int .u64 bk] 43)).later hd).set 0 (.int .u64 pc)).set 1 (.int .u64 (ph 0))).set 2 (.int .u64 (ph 1))).set 3 (.int .u64 (ph 2))).set 4 (.int .u64 (ph 3))).set 5 (.int .u64 (ph 4))).set 6 (.int .u64 (ph 5))).set 7 (.int .u64 (ph 6))).set 8 (.int .u64 (ph 7))).alloc (.cells #[.int .u64 pc, .int .u64 (ph 0), .int .u64 (ph 1), .int .u64 (ph 2), .int .u64 (ph 3), .int .u64 (ph 4), .int .u64 (ph 5), .int .u64 (ph 6), .int .u64 (ph 7)] 30); simp only [List.setIfInBounds_toArray, List.set_cons_zero, List.set_cons_succ] at r2; have r3 := r2.later hf; clear r2; have HR3 := Lib.hid r3; obtain ⟨c3, f3, s3⟩ := r3; clear hf hb3 hbe hd hd1 hd2 hdzwr hdzw1 c1 f1 s1) | (go_at_call 16; (with_reducible refine (HR.out _).mono ?_); rintro e w4 ⟨rfl, hg⟩; have HB4 := Lib.hid (HB3.out.trans (hg.mono HB3.out.size)); have r4 := HR3.out.later hg; have HR4 := Lib.hid r4; obtain ⟨c4, f4, s4⟩ := r4; clear hg c3 f3 s3))
            go_roundw
            case rel =>
              exact ⟨k + 1, ph, by omega, num_step k, by rw [H3.out], HN.out, by rw [H3.out]; exact hle, HB4.out, HR4.out⟩
            case measure => simp [intOf]; omega
          · have he' : (pe != 0) = true := bne_iff_ne.2 he
            clear PF TF HT
            go_wp2_with (go_at_call 20; (with_reducible refine (HP.out _).mono ?_); rintro e w2 ⟨rfl, hd⟩; obtain ⟨hd1, hd2⟩ := bcell hd; have hdzwr : wr.heap.size < w2.heap.size := size_lt hd (by first | omega | (simp <;> omega)); have hdzw1 : w1.heap.size < w2.heap.size := size_lt hd (by first | omega | (simp <;> omega)))
            go_roundw
            case rel =>
              have hbe := HB0.out
              exact ⟨k + 1, h, by omega, num_step k, rfl, HH.out, hs, (by repeat (first | (with_reducible exact Below.refl _ _) | (with_reducible assumption) | ((with_reducible refine Below.setCell ?_ ?_ _); rotate_left; (first | omega | (simp <;> omega))) | ((with_reducible refine Below.alloc ?_ ?_ _); rotate_left; (first | omega | (simp <;> omega))) | ((with_reducible refine Below.drew ?_)) | ((with_reducible refine below_drewN ?_ _)) | ((with_reducible refine Below.trans ?_ (Below.mono (by with_reducible assumption) ?_)); rotate_left; (first | omega | (simp <;> omega))))), ((HR1.out.alloc _).later hd).alloc _⟩
            case measure => simp [intOf]; omega
        | true =>
          by_cases he : te = 0
          · subst he
            obtain ⟨p1, p2, p3, p4, p5⟩ := TF.out rfl
            subst p1
            have hs' := Sum_calls tc th p2
            have hr' := Right_calls tc th p2 hc
            rw [uptoOk_yes (by omega), uptoN_yes (by omega)] at hs'
            rw [right_yes (by omega)] at hr'
            have HS := Lib.hid hs'
            have HR := Lib.hid hr'
            have HN := Lib.hid p2
            have H3 := Lib.hid p3
            have hle : sumTo th 8 ≤ tc := by omega
            clear hs' hr' p2 PF TF
            rw [H3.out] at HS hle
            clear p3
            have hz1 : sumTo h 8 - bk ≤ 18446744073709551615 := by omega
            go_wp2_with (first | (go_at_call 20; (with_reducible refine (HP.out _).mono ?_); rintro e w2 ⟨rfl, hd⟩; obtain ⟨hd1, hd2⟩ := bcell hd; have hdzwr : wr.heap.size < w2.heap.size := size_lt hd (by first | omega | (simp <;> omega)); have hdzw1 : w1.heap.size < w2.heap.size := size_lt hd (by first | omega | (simp <;> omega))) | (go_at_call 23; (with_reducible refine (HT.out _).mono ?_); rintro e w5 ⟨rfl, hx⟩; obtain ⟨hx1, hx2⟩ := bcell hx; have hne : w2.heap.size ≠ w1.heap.size := (by omega); have hx3 : w2.heap.size < w5.heap.size := size_lt hx (by first | omega | (simp <;> omega)); have hx4 : w1.heap.size < w5.heap.size := (by omega); have hx5 : wr.heap.size < w5.heap.size := (by omega)) | (go_at_call 13; (with_reducible refine (HS.out _).mono ?_); rintro e w3 ⟨rfl, hf⟩; have hbe := HB0.out; have hb3 : Below w.heap.size w w3 := (by repeat (first | (with_reducible exact Below.refl _ _) | (with_reducible assumption) | ((with_reducible refine Below.setCell ?_ ?_ _); rotate_left; (first | omega | (simp <;> omega))) | ((with_reducible refine Below.alloc ?_ ?_ _); rotate_left; (first | omega | (simp <;> omega))) | ((with_reducible refine Below.drew ?_)) | ((with_reducible refine below_drewN ?_ _)) | ((with_reducible refine Below.trans ?_ (Below.mono (by with_reducible assumption) ?_)); rotate_left; (first | omega | (simp <;> omega))))); have HB3 := Lib.hid hb3; have r2 := ((((((((((((((((((((((HR1.out.alloc (.cells #[.bool true, .int .i64 qk, .int .u64 bk] 43)).later hd).alloc (.cells #[.int .u64 pc, .int .u64 (ph 0), .int .u64 (ph 1), .int .u64 (ph 2), .int .u64 (ph 3), .int .u64 (ph 4), .int .u64 (ph 5), .int .u64 (ph 6), .int .u64 (ph 7)] 30)).later hx).far (a := ⟨w2.heap.size, 0, none⟩) hne (.int .u64 tc)).far (a := ⟨w2.heap.size, 1, none⟩) hne (.int .u64 (th 0))).far (a := ⟨w2.heap.size, 2, none⟩) hne (.int .u64 (th 1))).far (a := ⟨w2.heap.size, 3, none⟩) hne (.int .u64 (th 2))).far (a := ⟨w2.heap.size, 4, none⟩) hne (.int .u64 (th 3))).far (a := ⟨w2.heap.size, 5, none⟩) hne (.int .u64 (th 4))).far (a := ⟨w2.heap.size, 6, none⟩) hne (.int .u64 (th 5))).far (a := ⟨w2.heap.size, 7, none⟩) hne (.int .u64 (th 6))).far (a := ⟨w2.heap.size, 8, none⟩) hne (.int .u64 (th 7))).set 0 (.int .u64 tc)).set 1 (.int .u64 (th 0))).set 2 (.int .u64 (th 1))).set 3 (.int .u64 (th 2))).set 4 (.int .u64 (th 3))).set 5 (.int .u64 (th 4))).set 6 (.int .u64 (th 5))).set 7 (.int .u64 (th 6))).set 8 (.int .u64 (th 7))); simp only [List.setIfInBounds_toArray, List.set_cons_zero, List.set_cons_succ] at r2; have r3 := r2.later hf; clear r2; have HR3 := Lib.hid r3; obtain ⟨c3, f3, s3⟩ := r3; clear hf hb3 hbe hd hd1 hd2 hdzwr hdzw1 hx hx1 hx2 hx3 hx4 hx5 c1 f1 s1) | (go_at_call 16; (with_reducible refine (HR.out _).mono ?_); rintro e w4 ⟨rfl, hg⟩; have HB4 := Lib.hid (HB3.out.trans (hg.mono HB3.out.size)); have r4 := HR3.out.later hg; have HR4 := Lib.hid r4; obtain ⟨c4, f4, s4⟩ := r4; clear hg c3 f3 s3))
            go_roundw
            case rel =>
              exact ⟨k + 1, th, by omega, num_step k, by rw [H3.out], HN.out, by rw [H3.out]; exact hle, HB4.out, HR4.out⟩
            case measure => simp [intOf]; omega
          · have he' : (te != 0) = true := bne_iff_ne.2 he
            clear PF TF
            go_wp2_with (first | (go_at_call 20; (with_reducible refine (HP.out _).mono ?_); rintro e w2 ⟨rfl, hd⟩; obtain ⟨hd1, hd2⟩ := bcell hd; have hdzwr : wr.heap.size < w2.heap.size := size_lt hd (by first | omega | (simp <;> omega)); have hdzw1 : w1.heap.size < w2.heap.size := size_lt hd (by first | omega | (simp <;> omega))) | (go_at_call 23; (with_reducible refine (HT.out _).mono ?_); rintro e w5 ⟨rfl, hx⟩; obtain ⟨hx1, hx2⟩ := bcell hx; have hne : w2.heap.size ≠ w1.heap.size := (by omega); have hx3 : w2.heap.size < w5.heap.size := size_lt hx (by first | omega | (simp <;> omega)); have hx4 : w1.heap.size < w5.heap.size := (by omega); have hx5 : wr.heap.size < w5.heap.size := (by omega)))
            go_roundw
            case rel =>
              have hbe := HB0.out
              exact ⟨k + 1, h, by omega, num_step k, rfl, HH.out, hs, (by repeat (first | (with_reducible exact Below.refl _ _) | (with_reducible assumption) | ((with_reducible refine Below.setCell ?_ ?_ _); rotate_left; (first | omega | (simp <;> omega))) | ((with_reducible refine Below.alloc ?_ ?_ _); rotate_left; (first | omega | (simp <;> omega))) | ((with_reducible refine Below.drew ?_)) | ((with_reducible refine below_drewN ?_ _)) | ((with_reducible refine Below.trans ?_ (Below.mono (by with_reducible assumption) ?_)); rotate_left; (first | omega | (simp <;> omega))))), (((((((((((HR1.out.alloc (.cells #[.bool true, .int .i64 qk, .int .u64 bk] 43)).later hd |>.alloc (.cells #[.int .u64 pc, .int .u64 (ph 0), .int .u64 (ph 1), .int .u64 (ph 2), .int .u64 (ph 3), .int .u64 (ph 4), .int .u64 (ph 5), .int .u64 (ph 6), .int .u64 (ph 7)] 30)).later hx).far hne (.int .u64 tc)).far hne (.int .u64 (th 0))).far hne (.int .u64 (th 1))).far hne (.int .u64 (th 2))).far hne (.int .u64 (th 3))).far hne (.int .u64 (th 4))).far hne (.int .u64 (th 5))).far hne (.int .u64 (th 6))).far hne (.int .u64 (th 7))⟩
            case measure => simp [intOf]; omega
      · go_wp2_with fail
        go_ret
        exact ⟨rfl, HB0.out⟩
    · go_wp2_with fail
      go_ret
      exact ⟨rfl, HB0.out⟩
end Go.Proofs.Ytbbhbfeafdibmaa
