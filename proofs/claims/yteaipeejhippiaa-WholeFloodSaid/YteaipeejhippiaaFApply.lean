/- A base is told of a link: Apply. -/
import Derived.Test.YteaipeejhippiaaFAll
namespace Go.Proofs.Yteaipeejhippiaa
open Go.RowKit
attribute [local go_sem] cell_set_self
set_option linter.unusedVariables false

theorem place_cases (f : Nat → Adv) (x : Adv) : ∀ n k : Nat, place f x k n = -1 ∨ ∃ i, k ≤ i ∧ i < k + n ∧ place f x k n = (i : Int)
  | 0, k => .inl rfl
  | n + 1, k => by
    unfold place
    split
    · exact .inr ⟨k, Nat.le_refl _, by omega, rfl⟩
    · rcases place_cases f x n (k + 1) with h | ⟨i, h1, h2, h3⟩
      · exact .inl h
      · exact .inr ⟨i, by omega, by omega, h3⟩
/-- What a base of adverts xs has behind it when it was told a. -/
noncomputable def app (xs : List Adv) (a : Adv) : List Adv :=
  if mayB a = true ∧ 0 ≤ place (nth xs) a 0 xs.length ∧ (nth xs (place (nth xs) a 0 xs.length).toNat).seq < a.seq then xs.set (place (nth xs) a 0 xs.length).toNat a else xs
theorem app_length (xs : List Adv) (a : Adv) : (app xs a).length = xs.length := by
  unfold app
  split
  · rw [List.length_set]
  · rfl
theorem Bas.cells {w : World} {base Q g n c : Nat} {xs : List Adv} (h : Bas w base Q (.slice (some ⟨g, 0, none⟩) n c) xs) {w' : World} {o : Nat} (hc : ∀ i, i < xs.length → ∀ j, j < 15 → w'.cell? ⟨o, i * 15 + j, none⟩ = ((xs.map advert).getD i #[])[j]?) : ∀ i, i < xs.length → ∀ j, j < 15 → w'.cell? ⟨o, i * 15 + j, none⟩ = (advert (nth xs i))[j]? := fun i hi j hj => (hc i hi j hj).trans (congrArg (·[j]?) (by
  unfold nth
  rw [List.getD_eq_getElem?_getD, List.getD_eq_getElem?_getD, List.getElem?_map, List.getElem?_eq_getElem hi]
  rfl))
theorem Bas.drewN {w : World} {base Q : Nat} {v : Value} {xs : List Adv} (h : Bas w base Q v xs) (n : Nat) : Bas (w.drewN n) base Q v xs := ⟨h.blk.drewN n, h.row.drewN n⟩
def ApplyPost (w : World) (base Q : Nat) (v : Value) (xs : List Adv) (a : Adv) (e : Ending) (w' : World) : Prop := ∃ b r, e = .returned (.tuple #[.bool b, .int .i64 r]) ∧ Bas w' base Q v (app xs a) ∧ w.grownBy w' v.ownBlock
set_option maxRecDepth 100000 in
set_option maxHeartbeats 16000000 in
theorem Apply_calls (w : World) (base Q : Nat) (v : Value) (xs : List Adv) (a : Adv) (h : Bas w base Q v xs) (hn : xs.length ≤ 64) (h1 : I64 a.src) (h2 : I64 a.dst) : Calls Try.prog 7 #[.pointer (some ⟨Q, 0, none⟩), .agg #[.int .i64 a.src, .int .i64 a.dst, .int .u64 a.cap, .int .i64 a.metric, .int .u32 a.groups, .int .i64 a.seq, .bool a.up, .int .u64 (a.free 0), .int .u64 (a.free 1), .int .u64 (a.free 2), .int .u64 (a.free 3), .int .u64 (a.free 4), .int .u64 (a.free 5), .int .u64 (a.free 6), .int .u64 (a.free 7)]] w (ApplyPost w base Q v xs a) := by
  have HG := Lib.hid fun (w' : World) (hb : Bas w' base Q v xs) => good_calls w' Q v hb.blk
  have HB0 := Lib.hid h
  cases hm : mayB a with
  | false =>
    have HM := Lib.hid fun (w' : World) => (show Calls Try.prog 18 #[.agg #[.int .i64 a.src, .int .i64 a.dst, .int .u64 a.cap, .int .i64 a.metric, .int .u32 a.groups, .int .i64 a.seq, .bool a.up, .int .u64 (a.free 0), .int .u64 (a.free 1), .int .u64 (a.free 2), .int .u64 (a.free 3), .int .u64 (a.free 4), .int .u64 (a.free 5), .int .u64 (a.free 6), .int .u64 (a.free 7)]] w' fun e w'' => e = .returned (.bool false) ∧ Below w'.heap.size w' w'' from by rw [← hm]; exact May_calls w' a h1 h2)
    have ha : app xs a = xs := by unfold app; rw [if_neg (by rw [hm]; simp)]
    have HA := Lib.hid ha
    clear h hm h1 h2 ha
    go_enter Try.func7, Try.ntmps7
    go_wp2_with (first | (go_at_call 16; (with_reducible refine (HG.out _ (HB0.out.alloc _)).mono ?_); rintro e w1 ⟨rfl, rfl⟩) | (go_at_call 18; (with_reducible refine (HM.out _).mono ?_); rintro e w1 ⟨rfl, hb⟩; have hw1 : Below w.heap.size w w1 := (by repeat (first | (with_reducible exact Below.refl _ _) | (with_reducible assumption) | ((with_reducible refine Below.setCell ?_ ?_ _); rotate_left; (first | omega | (simp <;> omega))) | ((with_reducible refine Below.alloc ?_ ?_ _); rotate_left; (first | omega | (simp <;> omega))) | ((with_reducible refine Below.drew ?_)) | ((with_reducible refine below_drewN ?_ _)) | ((with_reducible refine Below.trans ?_ (Below.mono (by with_reducible assumption) ?_)); rotate_left; (first | omega | (simp <;> omega)))))))
    go_ret2
    exact ⟨_, _, rfl, by rw [HA.out]; exact HB0.out.later hw1, grown_of_below hw1 _⟩
  | true =>
    have HM := Lib.hid fun (w' : World) => (show Calls Try.prog 18 #[.agg #[.int .i64 a.src, .int .i64 a.dst, .int .u64 a.cap, .int .i64 a.metric, .int .u32 a.groups, .int .i64 a.seq, .bool a.up, .int .u64 (a.free 0), .int .u64 (a.free 1), .int .u64 (a.free 2), .int .u64 (a.free 3), .int .u64 (a.free 4), .int .u64 (a.free 5), .int .u64 (a.free 6), .int .u64 (a.free 7)]] w' fun e w'' => e = .returned (.bool true) ∧ Below w'.heap.size w' w'' from by rw [← hm]; exact May_calls w' a h1 h2)
    have HMY := Lib.hid hm
    obtain ⟨A, c, rfl⟩ := h.form
    have HI := Lib.hid fun (w' : World) (hb : Bas w' base Q (.slice A xs.length c) xs) (hp : Row w' w.heap.size #[.int .i64 a.src, .int .i64 a.dst, .int .u64 a.cap, .int .i64 a.metric, .int .u32 a.groups, .int .i64 a.seq, .bool a.up, .int .u64 (a.free 0), .int .u64 (a.free 1), .int .u64 (a.free 2), .int .u64 (a.free 3), .int .u64 (a.free 4), .int .u64 (a.free 5), .int .u64 (a.free 6), .int .u64 (a.free 7)]) => Index_calls w' A xs.length c (nth xs) a w.heap.size (by omega) hb.strips.2 hp
    clear h hm h1 h2
    go_enter Try.func7, Try.ntmps7
    go_wp2_with (first | (go_at_call 16; (with_reducible refine (HG.out _ (HB0.out.alloc _)).mono ?_); rintro e w1 ⟨rfl, rfl⟩) | (go_at_call 18; (with_reducible refine (HM.out _).mono ?_); rintro e w1 ⟨rfl, hb⟩; have HW1 := Lib.hid (show Below w.heap.size w w1 from (by repeat (first | (with_reducible exact Below.refl _ _) | (with_reducible assumption) | ((with_reducible refine Below.setCell ?_ ?_ _); rotate_left; (first | omega | (simp <;> omega))) | ((with_reducible refine Below.alloc ?_ ?_ _); rotate_left; (first | omega | (simp <;> omega))) | ((with_reducible refine Below.drew ?_)) | ((with_reducible refine below_drewN ?_ _)) | ((with_reducible refine Below.trans ?_ (Below.mono (by with_reducible assumption) ?_)); rotate_left; (first | omega | (simp <;> omega)))))); have HP := Lib.hid ((Row.new w #[.int .i64 a.src, .int .i64 a.dst, .int .u64 a.cap, .int .i64 a.metric, .int .u32 a.groups, .int .i64 a.seq, .bool a.up, .int .u64 (a.free 0), .int .u64 (a.free 1), .int .u64 (a.free 2), .int .u64 (a.free 3), .int .u64 (a.free 4), .int .u64 (a.free 5), .int .u64 (a.free 6), .int .u64 (a.free 7)] 41).later hb); have HBa := Lib.hid (HB0.out.later HW1.out); obtain ⟨cq, fq, sq⟩ := HBa.out.blk.row; clear hb))
    rcases place_cases (nth xs) a xs.length 0 with hpl | ⟨i, _, hi, hpl⟩
    · have HI1 := Lib.hid fun (w' : World) (hb : Bas w' base Q (.slice A xs.length c) xs) (hp : Row w' w.heap.size #[.int .i64 a.src, .int .i64 a.dst, .int .u64 a.cap, .int .i64 a.metric, .int .u32 a.groups, .int .i64 a.seq, .bool a.up, .int .u64 (a.free 0), .int .u64 (a.free 1), .int .u64 (a.free 2), .int .u64 (a.free 3), .int .u64 (a.free 4), .int .u64 (a.free 5), .int .u64 (a.free 6), .int .u64 (a.free 7)]) => (show Calls Try.prog 19 #[.slice A xs.length c, .func (.func 20) #[] #[.pointer (some ⟨w.heap.size, 0, none⟩)]] w' fun e w'' => e = .returned (.int .i64 (-1)) ∧ Below w'.heap.size w' w'' from by rw [← hpl]; exact HI.out w' hb hp)
      have HA := Lib.hid (show app xs a = xs from by unfold app; rw [if_neg (by rw [hpl]; omega)])
      clear hpl
      go_wp2_with (go_at_call 19; (with_reducible refine (HI1.out _ HBa.out HP.out).mono ?_); rintro e w2 ⟨rfl, hb⟩)
      go_ret2
      exact ⟨_, _, rfl, by rw [HA.out]; exact HBa.out.later hb, grown_below (grown_of_below HW1.out _) hb⟩
    · rw [Nat.zero_add] at hi
      have HI1 := Lib.hid fun (w' : World) (hb : Bas w' base Q (.slice A xs.length c) xs) (hp : Row w' w.heap.size #[.int .i64 a.src, .int .i64 a.dst, .int .u64 a.cap, .int .i64 a.metric, .int .u32 a.groups, .int .i64 a.seq, .bool a.up, .int .u64 (a.free 0), .int .u64 (a.free 1), .int .u64 (a.free 2), .int .u64 (a.free 3), .int .u64 (a.free 4), .int .u64 (a.free 5), .int .u64 (a.free 6), .int .u64 (a.free 7)]) => (show Calls Try.prog 19 #[.slice A xs.length c, .func (.func 20) #[] #[.pointer (some ⟨w.heap.size, 0, none⟩)]] w' fun e w'' => e = .returned (.int .i64 (i : Int)) ∧ Below w'.heap.size w' w'' from by rw [← hpl]; exact HI.out w' hb hp)
      have HPL := Lib.hid hpl
      clear hpl
      go_wp2_with (go_at_call 19; (with_reducible refine (HI1.out _ HBa.out HP.out).mono ?_); rintro e w2 ⟨rfl, hb⟩; have HBa := Lib.hid (HBa.out.later hb); have HP := Lib.hid (HP.out.later hb); have HW1 := Lib.hid (HW1.out.trans (hb.mono HW1.out.size)); clear cq fq sq hb)
      have i0 : (0 : Int) ≤ (i : Int) := by omega
      have i1 : (i : Int) < (xs.length : Int) := by omega
      obtain ⟨g, c0, hv, hbg, hg, hf, hc⟩ := HBa.out.row.at_ (by rw [List.length_map]; omega)
      rw [List.length_map] at hv hc
      injection hv with hv1 hv2 hv3
      subst hv1 hv3
      have HCC := Lib.hid (HBa.out.cells hc)
      have HFF := Lib.hid hf
      clear hc hf hv2
      obtain ⟨cq, fq, sq⟩ := HBa.out.blk.row
      obtain ⟨cp, fp, sp⟩ := (show Row w2 w.heap.size #[.int .i64 a.src, .int .i64 a.dst, .int .u64 a.cap, .int .i64 a.metric, .int .u32 a.groups, .int .i64 a.seq, .bool a.up, .int .u64 (a.free 0), .int .u64 (a.free 1), .int .u64 (a.free 2), .int .u64 (a.free 3), .int .u64 (a.free 4), .int .u64 (a.free 5), .int .u64 (a.free 6), .int .u64 (a.free 7)] from HP.out)
      have g5 : w2.cell? ⟨g, i * 15 + 5, none⟩ = some (.int .i64 (nth xs i).seq) := HCC.out i hi 5 (by omega)
      go_wp2
      by_cases hs : a.seq ≤ (nth xs i).seq
      · have HA := Lib.hid (show app xs a = xs from by unfold app; rw [if_neg (by rw [HPL.out]; simp only [Int.toNat_natCast]; omega)])
        go_quiet (fail)
        go_wp2
        go_ret2
        exact ⟨_, _, rfl, by rw [HA.out]; exact HBa.out.drewN _, grown_drewN (grown_of_below HW1.out _) _⟩
      · have hs2 : (nth xs i).seq < a.seq := by omega
        have HA := Lib.hid (show app xs a = xs.set i a from by unfold app; rw [if_pos (by rw [HPL.out]; simp only [Int.toNat_natCast]; exact ⟨HMY.out, by omega, hs2⟩), HPL.out]; rfl)
        clear hs
        go_quiet (fail)
        go_wp2
        have HBa := Lib.hid (HBa.out.drewN nq)
        have HP := Lib.hid (HP.out.drewN nq)
        have HW1 := Lib.hid (below_drewN HW1.out nq)
        clear cq fq sq cp fp sp g5
        generalize w2.drewN nq = W at *
        refine seq_reg [0, 1, 2, 3, 4, 5, 6, 7] [0, 0, 0, 0, 0, 0, 0, 2] (by kernel_rfl) _ rfl (by kernel_rfl) ?_
        intro wd hwd hwh; clear hwh
        have HBd := Lib.hid (HBa.out.later hwd); have HPd := Lib.hid (HP.out.later hwd); obtain ⟨cq, fq, sq⟩ := HBd.out.blk.row; obtain ⟨cp, fp, sp⟩ := (show Row wd w.heap.size #[.int .i64 a.src, .int .i64 a.dst, .int .u64 a.cap, .int .i64 a.metric, .int .u32 a.groups, .int .i64 a.seq, .bool a.up, .int .u64 (a.free 0), .int .u64 (a.free 1), .int .u64 (a.free 2), .int .u64 (a.free 3), .int .u64 (a.free 4), .int .u64 (a.free 5), .int .u64 (a.free 6), .int .u64 (a.free 7)] from HPd.out); obtain ⟨g', c0, hv, hbg, hg, hf, hce⟩ := HBd.out.row.at_ (by rw [List.length_map]; omega); rw [List.length_map] at hv hce; injection hv with hv1 hv2 hv3; injection hv1 with hv1; injection hv1 with hv1; subst hv1 hv3; have hcd := HBd.out.cells hce; clear hce; have g0 : wd.cell? ⟨g, i * 15, none⟩ = some (.int .i64 (nth xs i).src) := hcd i hi 0 (by omega); have g1 : wd.cell? ⟨g, i * 15 + 1, none⟩ = some (.int .i64 (nth xs i).dst) := hcd i hi 1 (by omega); have g2 : wd.cell? ⟨g, i * 15 + 2, none⟩ = some (.int .u64 (nth xs i).cap) := hcd i hi 2 (by omega); have g3 : wd.cell? ⟨g, i * 15 + 3, none⟩ = some (.int .i64 (nth xs i).metric) := hcd i hi 3 (by omega); have g4 : wd.cell? ⟨g, i * 15 + 4, none⟩ = some (.int .u32 (nth xs i).groups) := hcd i hi 4 (by omega); have g5 : wd.cell? ⟨g, i * 15 + 5, none⟩ = some (.int .i64 (nth xs i).seq) := hcd i hi 5 (by omega); have g6 : wd.cell? ⟨g, i * 15 + 6, none⟩ = some (.bool (nth xs i).up) := hcd i hi 6 (by omega); have g7 : wd.cell? ⟨g, i * 15 + 7, none⟩ = some (.int .u64 ((nth xs i).free 0)) := hcd i hi 7 (by omega); have g8 : wd.cell? ⟨g, i * 15 + 8, none⟩ = some (.int .u64 ((nth xs i).free 1)) := hcd i hi 8 (by omega); have g9 : wd.cell? ⟨g, i * 15 + 9, none⟩ = some (.int .u64 ((nth xs i).free 2)) := hcd i hi 9 (by omega); have g10 : wd.cell? ⟨g, i * 15 + 10, none⟩ = some (.int .u64 ((nth xs i).free 3)) := hcd i hi 10 (by omega); have g11 : wd.cell? ⟨g, i * 15 + 11, none⟩ = some (.int .u64 ((nth xs i).free 4)) := hcd i hi 11 (by omega); have g12 : wd.cell? ⟨g, i * 15 + 12, none⟩ = some (.int .u64 ((nth xs i).free 5)) := hcd i hi 12 (by omega); have g13 : wd.cell? ⟨g, i * 15 + 13, none⟩ = some (.int .u64 ((nth xs i).free 6)) := hcd i hi 13 (by omega); have g14 : wd.cell? ⟨g, i * 15 + 14, none⟩ = some (.int .u64 ((nth xs i).free 7)) := hcd i hi 14 (by omega); clear hcd
        (first | ((with_reducible refine s_read (v := ?_) rfl rfl ?hw (fun w' hC => ?hrun) ?_); (case hw => rfl); (case hrun => (obtain ⟨hq1, hq2⟩ := bcell hC; go_simp; with_reducible rfl)); refine s_norm (a' := ?_) ?_ ?_; rotate_left; (simp only [Act.put, List.getElem_toArray, List.getElem_cons_zero, List.setIfInBounds_toArray, List.set_cons_zero, List.set_cons_succ]; rfl)) | ((with_reducible refine s_skip rfl rfl ?hw ?_); (case hw => rfl); refine s_norm (a' := ?_) ?_ ?_; rotate_left; (simp only [Act.put, List.getElem_toArray, List.getElem_cons_zero, List.setIfInBounds_toArray, List.set_cons_zero, List.set_cons_succ]; rfl)))
        (first | ((with_reducible refine s_read (v := ?_) rfl rfl ?hw (fun w' hC => ?hrun) ?_); (case hw => rfl); (case hrun => (obtain ⟨hq1, hq2⟩ := bcell hC; go_simp; with_reducible rfl)); refine s_norm (a' := ?_) ?_ ?_; rotate_left; (simp only [Act.put, List.getElem_toArray, List.getElem_cons_succ, List.getElem_cons_zero, List.setIfInBounds_toArray, List.set_cons_zero, List.set_cons_succ]; rfl)) | ((with_reducible refine s_skip rfl rfl ?hw ?_); (case hw => rfl); refine s_norm (a' := ?_) ?_ ?_; rotate_left; (simp only [Act.put, List.getElem_toArray, List.getElem_cons_succ, List.getElem_cons_zero, List.setIfInBounds_toArray, List.set_cons_zero, List.set_cons_succ]; rfl)))
        (first | ((with_reducible refine s_read (v := ?_) rfl rfl ?hw (fun w' hC => ?hrun) ?_); (case hw => rfl); (case hrun => (obtain ⟨hq1, hq2⟩ := bcell hC; go_simp; with_reducible rfl)); refine s_norm (a' := ?_) ?_ ?_; rotate_left; (simp only [Act.put, List.getElem_toArray, List.getElem_cons_succ, List.getElem_cons_zero, List.setIfInBounds_toArray, List.set_cons_zero, List.set_cons_succ]; rfl)) | ((with_reducible refine s_skip rfl rfl ?hw ?_); (case hw => rfl); refine s_norm (a' := ?_) ?_ ?_; rotate_left; (simp only [Act.put, List.getElem_toArray, List.getElem_cons_succ, List.getElem_cons_zero, List.setIfInBounds_toArray, List.set_cons_zero, List.set_cons_succ]; rfl)))
        (first | ((with_reducible refine s_read (v := ?_) rfl rfl ?hw (fun w' hC => ?hrun) ?_); (case hw => rfl); (case hrun => (obtain ⟨hq1, hq2⟩ := bcell hC; go_simp; with_reducible rfl)); refine s_norm (a' := ?_) ?_ ?_; rotate_left; (simp only [Act.put, List.getElem_toArray, List.getElem_cons_succ, List.getElem_cons_zero, List.setIfInBounds_toArray, List.set_cons_zero, List.set_cons_succ]; rfl)) | ((with_reducible refine s_skip rfl rfl ?hw ?_); (case hw => rfl); refine s_norm (a' := ?_) ?_ ?_; rotate_left; (simp only [Act.put, List.getElem_toArray, List.getElem_cons_succ, List.getElem_cons_zero, List.setIfInBounds_toArray, List.set_cons_zero, List.set_cons_succ]; rfl)))
        (first | ((with_reducible refine s_read (v := ?_) rfl rfl ?hw (fun w' hC => ?hrun) ?_); (case hw => rfl); (case hrun => (obtain ⟨hq1, hq2⟩ := bcell hC; go_simp; with_reducible rfl)); refine s_norm (a' := ?_) ?_ ?_; rotate_left; (simp only [Act.put, List.getElem_toArray, List.getElem_cons_succ, List.getElem_cons_zero, List.setIfInBounds_toArray, List.set_cons_zero, List.set_cons_succ]; rfl)) | ((with_reducible refine s_skip rfl rfl ?hw ?_); (case hw => rfl); refine s_norm (a' := ?_) ?_ ?_; rotate_left; (simp only [Act.put, List.getElem_toArray, List.getElem_cons_succ, List.getElem_cons_zero, List.setIfInBounds_toArray, List.set_cons_zero, List.set_cons_succ]; rfl)))
        (first | ((with_reducible refine s_read (v := ?_) rfl rfl ?hw (fun w' hC => ?hrun) ?_); (case hw => rfl); (case hrun => (obtain ⟨hq1, hq2⟩ := bcell hC; go_simp; with_reducible rfl)); refine s_norm (a' := ?_) ?_ ?_; rotate_left; (simp only [Act.put, List.getElem_toArray, List.getElem_cons_succ, List.getElem_cons_zero, List.setIfInBounds_toArray, List.set_cons_zero, List.set_cons_succ]; rfl)) | ((with_reducible refine s_skip rfl rfl ?hw ?_); (case hw => rfl); refine s_norm (a' := ?_) ?_ ?_; rotate_left; (simp only [Act.put, List.getElem_toArray, List.getElem_cons_succ, List.getElem_cons_zero, List.setIfInBounds_toArray, List.set_cons_zero, List.set_cons_succ]; rfl)))
        (first | ((with_reducible refine s_read (v := ?_) rfl rfl ?hw (fun w' hC => ?hrun) ?_); (case hw => rfl); (case hrun => (obtain ⟨hq1, hq2⟩ := bcell hC; go_simp; with_reducible rfl)); refine s_norm (a' := ?_) ?_ ?_; rotate_left; (simp only [Act.put, List.getElem_toArray, List.getElem_cons_succ, List.getElem_cons_zero, List.setIfInBounds_toArray, List.set_cons_zero, List.set_cons_succ]; rfl)) | ((with_reducible refine s_skip rfl rfl ?hw ?_); (case hw => rfl); refine s_norm (a' := ?_) ?_ ?_; rotate_left; (simp only [Act.put, List.getElem_toArray, List.getElem_cons_succ, List.getElem_cons_zero, List.setIfInBounds_toArray, List.set_cons_zero, List.set_cons_succ]; rfl)))
        (refine s_store (w' := (((((((((((((((wd.setCell ⟨g, i * 15, none⟩ (.int .i64 a.src)).setCell ⟨g, i * 15 + 1, none⟩ (.int .i64 a.dst)).setCell ⟨g, i * 15 + 2, none⟩ (.int .u64 a.cap)).setCell ⟨g, i * 15 + 3, none⟩ (.int .i64 a.metric)).setCell ⟨g, i * 15 + 4, none⟩ (.int .u32 a.groups)).setCell ⟨g, i * 15 + 5, none⟩ (.int .i64 a.seq)).setCell ⟨g, i * 15 + 6, none⟩ (.bool a.up)).setCell ⟨g, i * 15 + 7, none⟩ (.int .u64 (a.free 0))).setCell ⟨g, i * 15 + 8, none⟩ (.int .u64 (a.free 1))).setCell ⟨g, i * 15 + 9, none⟩ (.int .u64 (a.free 2))).setCell ⟨g, i * 15 + 10, none⟩ (.int .u64 (a.free 3))).setCell ⟨g, i * 15 + 11, none⟩ (.int .u64 (a.free 4))).setCell ⟨g, i * 15 + 12, none⟩ (.int .u64 (a.free 5))).setCell ⟨g, i * 15 + 13, none⟩ (.int .u64 (a.free 6))).setCell ⟨g, i * 15 + 14, none⟩ (.int .u64 (a.free 7)))) rfl rfl ?hw rfl ?hrun ?_; (case hw => rfl); (case hrun => (go_simp; try rfl)))
        refine s_nil ?_
        have HL := Lib.hid (HBd.out.row.laid (i := i) (y := advert a) (by rw [List.length_map]; exact hi) rfl (by omega))
        have hgl := laid_grown (advert a).toList wd g (i * 15)
        have hgq := HBd.out.apart
        have HGL := Lib.hid hgl
        have HWE := Lib.hid (show (((((((((((((((wd.setCell ⟨g, i * 15, none⟩ (.int .i64 a.src)).setCell ⟨g, i * 15 + 1, none⟩ (.int .i64 a.dst)).setCell ⟨g, i * 15 + 2, none⟩ (.int .u64 a.cap)).setCell ⟨g, i * 15 + 3, none⟩ (.int .i64 a.metric)).setCell ⟨g, i * 15 + 4, none⟩ (.int .u32 a.groups)).setCell ⟨g, i * 15 + 5, none⟩ (.int .i64 a.seq)).setCell ⟨g, i * 15 + 6, none⟩ (.bool a.up)).setCell ⟨g, i * 15 + 7, none⟩ (.int .u64 (a.free 0))).setCell ⟨g, i * 15 + 8, none⟩ (.int .u64 (a.free 1))).setCell ⟨g, i * 15 + 9, none⟩ (.int .u64 (a.free 2))).setCell ⟨g, i * 15 + 10, none⟩ (.int .u64 (a.free 3))).setCell ⟨g, i * 15 + 11, none⟩ (.int .u64 (a.free 4))).setCell ⟨g, i * 15 + 12, none⟩ (.int .u64 (a.free 5))).setCell ⟨g, i * 15 + 13, none⟩ (.int .u64 (a.free 6))).setCell ⟨g, i * 15 + 14, none⟩ (.int .u64 (a.free 7))) = laid wd g (i * 15) (advert a).toList from rfl)
        clear cq fq sq cp fp sp hgl g0 g1 g2 g3 g4 g5 g6 g7 g8 g9 g10 g11 g12 g13 g14
        rw [HWE.out]
        go_wp2
        go_ret2
        refine ⟨_, _, rfl, ?_, ?_⟩
        · rw [HA.out]
          refine ⟨HBd.out.blk.grown HGL.out (by simpa [Value.ownBlock] using Ne.symm hgq), ?_⟩
          have h3 := HL.out
          rw [← List.map_set] at h3
          exact h3
        · exact (grown_below (grown_of_below HW1.out _) hwd).trans HGL.out
end Go.Proofs.Yteaipeejhippiaa
