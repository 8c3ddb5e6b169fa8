/- Over which links a route may go, as the document tells it. -/
import Derived.Test.YtmomndeknpochaaFits
import Derived.Deep.QuietTactic
import Derived.BigQuiet
namespace Go.Proofs.Ytmomndeknpochaa
open Go.RowKit Plain
attribute [local go_sem] cell_set_self

set_option maxRecDepth 100000 in
set_option maxHeartbeats 8000000 in
theorem RFits_no (w : World) (x : Adv) (q : Wnt) (A1 A2 A3 : Option Addr) (n1 n2 n3 k1 k2 k3 : Nat) (hops : Int) (r1 r2 r3 r4 : Bool)
    (h1 : ∀ w, Calls Try.prog 21 #[.agg #[.int .u64 q.bw, .int .i64 q.setup, .int .i64 q.hold, .int .u32 q.any, .int .u32 q.all, .int .u32 q.none]] w fun e w' => e = .returned (.bool r1) ∧ Below w.heap.size w w')
    (h2 : ∀ w, Calls Try.prog 22 #[.agg #[.int .u64 q.bw, .int .i64 q.setup, .int .i64 q.hold, .int .u32 q.any, .int .u32 q.all, .int .u32 q.none], .int .u32 x.groups] w fun e w' => e = .returned (.bool r2) ∧ Below w.heap.size w w')
    (h3 : ∀ w', Below w.heap.size w w' → Calls Try.prog 23 #[.slice A1 n1 k1, .int .i64 x.src] w' fun e w'' => e = .returned (.bool r3) ∧ w' = w'')
    (h4 : ∀ w', Below w.heap.size w w' → Calls Try.prog 23 #[.slice A1 n1 k1, .int .i64 x.dst] w' fun e w'' => e = .returned (.bool r4) ∧ w' = w'')
    (hr : (r1 && (x.up && (r2 && (!r3 && !r4)))) = false) :
    Calls Try.prog 11 #[.agg #[.int .i64 x.src, .int .i64 x.dst, .int .u64 x.cap, .int .i64 x.metric, .int .u32 x.groups, .int .i64 x.seq, .bool x.up, .int .u64 (x.free 0), .int .u64 (x.free 1), .int .u64 (x.free 2), .int .u64 (x.free 3), .int .u64 (x.free 4), .int .u64 (x.free 5), .int .u64 (x.free 6), .int .u64 (x.free 7)], .agg #[.int .u64 q.bw, .int .i64 q.setup, .int .i64 q.hold, .int .u32 q.any, .int .u32 q.all, .int .u32 q.none, .slice A1 n1 k1, .slice A2 n2 k2, .slice A3 n3 k3, .int .i64 hops]] w fun e w' => e = .returned (.bool false) ∧ Below w.heap.size w w' := by
  have H1 := Lib.hid h1
  have H2 := Lib.hid h2
  have H3 := Lib.hid h3
  have H4 := Lib.hid h4
  clear h1 h2 h3 h4
  obtain ⟨src, dst, cap, metric, groups, seq, up, free⟩ := x
  simp only at hr H2 H3 H4 ⊢
  have hcase : r1 = false ∨ (r1 = true ∧ up = false) ∨ (r1 = true ∧ up = true ∧ r2 = false) ∨ (r1 = true ∧ up = true ∧ r2 = true ∧ r3 = true) ∨ (r1 = true ∧ up = true ∧ r2 = true ∧ r3 = false ∧ r4 = true) := by
    revert hr
    cases r1 <;> cases up <;> cases r2 <;> cases r3 <;> cases r4 <;> decide
  clear hr
  rcases hcase with rfl | ⟨rfl, rfl⟩ | ⟨rfl, rfl, rfl⟩ | ⟨rfl, rfl, rfl, rfl⟩ | ⟨rfl, rfl, rfl, rfl, rfl⟩
  all_goals
    go_enter Try.func11, Try.ntmps11
    go_wp2_with (first | (go_at_call 21; (with_reducible refine (H1.out _).mono ?_); rintro e w1 ⟨rfl, hb⟩; obtain ⟨hb1, hb2⟩ := bcell hb; have hbz0 : w.heap.size < w1.heap.size := size_lt hb (by first | omega | (simp <;> omega)); have hbz1 : w.heap.size + 1 < w1.heap.size := size_lt hb (by first | omega | (simp <;> omega)); have hbz2 : w.heap.size + 1 + 1 < w1.heap.size := size_lt hb (by first | omega | (simp <;> omega))) | (go_at_call 22; (with_reducible refine (H2.out _).mono ?_); rintro e w2 ⟨rfl, hd⟩; obtain ⟨hd1, hd2⟩ := bcell hd; have hdz0 : w.heap.size < w2.heap.size := size_lt hd (by first | omega | (simp <;> omega)); have hdz1 : w.heap.size + 1 < w2.heap.size := size_lt hd (by first | omega | (simp <;> omega)); have hdz2 : w.heap.size + 1 + 1 < w2.heap.size := size_lt hd (by first | omega | (simp <;> omega))) | (go_at_call 23; (with_reducible refine (H3.out _ (by exact (by repeat (first | (with_reducible exact Below.refl _ _) | (with_reducible assumption) | ((with_reducible refine Below.setCell ?_ ?_ _); rotate_left; (first | omega | (simp <;> omega))) | ((with_reducible refine Below.alloc ?_ ?_ _); rotate_left; (first | omega | (simp <;> omega))) | ((with_reducible refine Below.drew ?_)) | ((with_reducible refine below_drewN ?_ _)) | ((with_reducible refine Below.trans ?_ (Below.mono (by with_reducible assumption) ?_)); rotate_left; (first | omega | (simp <;> omega))))))).mono ?_); rintro e w3 ⟨rfl, rfl⟩) | (go_at_call 23; (with_reducible refine (H4.out _ (by exact (by repeat (first | (with_reducible exact Below.refl _ _) | (with_reducible assumption) | ((with_reducible refine Below.setCell ?_ ?_ _); rotate_left; (first | omega | (simp <;> omega))) | ((with_reducible refine Below.alloc ?_ ?_ _); rotate_left; (first | omega | (simp <;> omega))) | ((with_reducible refine Below.drew ?_)) | ((with_reducible refine below_drewN ?_ _)) | ((with_reducible refine Below.trans ?_ (Below.mono (by with_reducible assumption) ?_)); rotate_left; (first | omega | (simp <;> omega))))))).mono ?_); rintro e w3 ⟨rfl, rfl⟩))
    go_ret
    exact ⟨rfl, (by repeat (first | (with_reducible exact Below.refl _ _) | (with_reducible assumption) | ((with_reducible refine Below.setCell ?_ ?_ _); rotate_left; (first | omega | (simp <;> omega))) | ((with_reducible refine Below.alloc ?_ ?_ _); rotate_left; (first | omega | (simp <;> omega))) | ((with_reducible refine Below.drew ?_)) | ((with_reducible refine below_drewN ?_ _)) | ((with_reducible refine Below.trans ?_ (Below.mono (by with_reducible assumption) ?_)); rotate_left; (first | omega | (simp <;> omega)))))⟩

set_option maxRecDepth 100000 in
set_option maxHeartbeats 16000000 in
theorem RFits_yes (w : World) (x : Adv) (q : Wnt) (A1 A2 A3 : Option Addr) (n1 n2 n3 k1 k2 k3 : Nat) (hops : Int) (s : Nat) (hs : q.setup = (s : Int)) (hs8 : s < 8) (hup : x.up = true) (m n : Int) (ok : Bool) (g h : Nat → Int) (hn2 : n2 ≤ 9223372036854775807) (hst : Strip w A2 n2 2 (pairs g h))
    (h1 : ∀ w, Calls Try.prog 21 #[.agg #[.int .u64 q.bw, .int .i64 q.setup, .int .i64 q.hold, .int .u32 q.any, .int .u32 q.all, .int .u32 q.none]] w fun e w' => e = .returned (.bool true) ∧ Below w.heap.size w w')
    (h2 : ∀ w, Calls Try.prog 22 #[.agg #[.int .u64 q.bw, .int .i64 q.setup, .int .i64 q.hold, .int .u32 q.any, .int .u32 q.all, .int .u32 q.none], .int .u32 x.groups] w fun e w' => e = .returned (.bool true) ∧ Below w.heap.size w w')
    (h3 : ∀ w', Below w.heap.size w w' → Calls Try.prog 23 #[.slice A1 n1 k1, .int .i64 x.src] w' fun e w'' => e = .returned (.bool false) ∧ w' = w'')
    (h4 : ∀ w', Below w.heap.size w w' → Calls Try.prog 23 #[.slice A1 n1 k1, .int .i64 x.dst] w' fun e w'' => e = .returned (.bool false) ∧ w' = w'')
    (h5 : ∀ w', Below w.heap.size w w' → Calls Try.prog 25 #[.agg #[.int .u64 q.bw, .int .i64 q.setup, .int .i64 q.hold, .int .u32 q.any, .int .u32 q.all, .int .u32 q.none, .slice A1 n1 k1, .slice A2 n2 k2, .slice A3 n3 k3, .int .i64 hops], .int .i64 x.src, .int .i64 x.dst] w' fun e w'' => e = .returned (.int .u64 m) ∧ Below w'.heap.size w' w'')
    (h6 : ∀ w', Calls Try.prog 24 #[.int .u64 (x.free s), .int .u64 m] w' fun e w'' => e = .returned (.tuple #[.int .u64 n, .bool ok]) ∧ w' = w'') :
    Calls Try.prog 11 #[.agg #[.int .i64 x.src, .int .i64 x.dst, .int .u64 x.cap, .int .i64 x.metric, .int .u32 x.groups, .int .i64 x.seq, .bool x.up, .int .u64 (x.free 0), .int .u64 (x.free 1), .int .u64 (x.free 2), .int .u64 (x.free 3), .int .u64 (x.free 4), .int .u64 (x.free 5), .int .u64 (x.free 6), .int .u64 (x.free 7)], .agg #[.int .u64 q.bw, .int .i64 q.setup, .int .i64 q.hold, .int .u32 q.any, .int .u32 q.all, .int .u32 q.none, .slice A1 n1 k1, .slice A2 n2 k2, .slice A3 n3 k3, .int .i64 hops]] w fun e w' => e = .returned (.bool (!has2 g h x.src x.dst n2 && (!ok || decide (q.bw ≤ n)))) ∧ Below w.heap.size w w' := by
  have H1 := Lib.hid h1
  have H2 := Lib.hid h2
  have H3 := Lib.hid h3
  have H4 := Lib.hid h4
  have H5 := Lib.hid h5
  have H6 := Lib.hid fun w => (h6 w).mono fun e w' h => (⟨h.1, h.2 ▸ Below.refl _ _⟩ : _ ∧ Below w.heap.size w w')
  have HS := Lib.hid hst
  clear h1 h2 h3 h4 h5 h6 hst
  have hf8 := Lib.hid (free_at x hs8)
  obtain ⟨src, dst, cap, metric, groups, seq, up, free⟩ := x
  obtain ⟨bw, setup, hold, any, all, nn⟩ := q
  simp only at hup hs hf8 H1 H2 H3 H4 H5 H6 ⊢
  subst hup hs
  go_enter Try.func11, Try.ntmps11
  go_wp2_with (first | (go_at_call 21; (with_reducible refine (H1.out _).mono ?_); rintro e w1 ⟨rfl, hb⟩; obtain ⟨hb1, hb2⟩ := bcell hb; have hbz0 : w.heap.size < w1.heap.size := size_lt hb (by first | omega | (simp <;> omega)); have hbz1 : w.heap.size + 1 < w1.heap.size := size_lt hb (by first | omega | (simp <;> omega)); have hbz2 : w.heap.size + 1 + 1 < w1.heap.size := size_lt hb (by first | omega | (simp <;> omega))) | (go_at_call 22; (with_reducible refine (H2.out _).mono ?_); rintro e w2 ⟨rfl, hd⟩; obtain ⟨hd1, hd2⟩ := bcell hd; have hdz0 : w.heap.size < w2.heap.size := size_lt hd (by first | omega | (simp <;> omega)); have hdz1 : w.heap.size + 1 < w2.heap.size := size_lt hd (by first | omega | (simp <;> omega)); have hdz2 : w.heap.size + 1 + 1 < w2.heap.size := size_lt hd (by first | omega | (simp <;> omega))) | (go_at_call 23; (with_reducible refine (H3.out _ (by exact (by repeat (first | (with_reducible exact Below.refl _ _) | (with_reducible assumption) | ((with_reducible refine Below.setCell ?_ ?_ _); rotate_left; (first | omega | (simp <;> omega))) | ((with_reducible refine Below.alloc ?_ ?_ _); rotate_left; (first | omega | (simp <;> omega))) | ((with_reducible refine Below.drew ?_)) | ((with_reducible refine below_drewN ?_ _)) | ((with_reducible refine Below.trans ?_ (Below.mono (by with_reducible assumption) ?_)); rotate_left; (first | omega | (simp <;> omega))))))).mono ?_); rintro e w3 ⟨rfl, rfl⟩) | (go_at_call 23; (with_reducible refine (H4.out _ (by exact (by repeat (first | (with_reducible exact Below.refl _ _) | (with_reducible assumption) | ((with_reducible refine Below.setCell ?_ ?_ _); rotate_left; (first | omega | (simp <;> omega))) | ((with_reducible refine Below.alloc ?_ ?_ _); rotate_left; (first | omega | (simp <;> omega))) | ((with_reducible refine Below.drew ?_)) | ((with_reducible refine below_drewN ?_ _)) | ((with_reducible refine Below.trans ?_ (Below.mono (by with_reducible assumption) ?_)); rotate_left; (first | omega | (simp <;> omega))))))).mono ?_); rintro e w3 ⟨rfl, rfl⟩))
  have hbel : Below w.heap.size w w2 := (by repeat (first | (with_reducible exact Below.refl _ _) | (with_reducible assumption) | ((with_reducible refine Below.setCell ?_ ?_ _); rotate_left; (first | omega | (simp <;> omega))) | ((with_reducible refine Below.alloc ?_ ?_ _); rotate_left; (first | omega | (simp <;> omega))) | ((with_reducible refine Below.drew ?_)) | ((with_reducible refine below_drewN ?_ _)) | ((with_reducible refine Below.trans ?_ (Below.mono (by with_reducible assumption) ?_)); rotate_left; (first | omega | (simp <;> omega)))))
  have r1 : Row w2 w.heap.size _ := ((((Row.new w _ 38).alloc _).alloc _).later hb).later hd
  have r2 : Row w2 (w.heap.size + 1) _ := (((Row.new' (w.alloc _) (B := w.heap.size + 1) _ 31 (by simp)).alloc _).later hb).later hd
  have r3 : Row w2 (w.heap.size + 1 + 1) _ := ((Row.new' ((w.alloc _).alloc _) (B := w.heap.size + 1 + 1) _ 35 (by simp)).later hb).later hd
  have HB := Lib.hid hbel
  have R1 := Lib.hid r1
  have R2 := Lib.hid r2
  have R3 := Lib.hid r3
  clear hbel r1 r2 r3 hb hb1 hb2 hbz0 hbz1 hbz2 hd hd1 hd2 hdz0 hdz1 hdz2 H1 H2 H3 H4
  go_loopw [6] (fun i wr => ∃ k : Nat, k ≤ n2 ∧ i = .int .i64 (k : Int) ∧ has2 g h src dst k = false ∧ Below w.heap.size w wr ∧ Row wr w.heap.size #[.int .i64 src, .int .i64 dst, .int .u64 cap, .int .i64 metric, .int .u32 groups, .int .i64 seq, .bool true, .int .u64 (free 0), .int .u64 (free 1), .int .u64 (free 2), .int .u64 (free 3), .int .u64 (free 4), .int .u64 (free 5), .int .u64 (free 6), .int .u64 (free 7)] ∧ Row wr (w.heap.size + 1) #[.int .u64 bw, .int .i64 (s : Int), .int .i64 hold, .int .u32 any, .int .u32 all, .int .u32 nn, .slice A1 n1 k1, .slice A2 n2 k2, .slice A3 n3 k3, .int .i64 hops] ∧ Row wr (w.heap.size + 1 + 1) #[.int .i64 src, .int .i64 dst, .int .u64 cap, .int .i64 metric, .int .u32 groups]) (fun i _ => n2 - (intOf i).toNat)
  case atStart => exact ⟨0, by omega, rfl, rfl, HB.out, R1.out, R2.out, R3.out⟩
  case round =>
    obtain ⟨k, hk, rfl, hh, hbel, r1, r2, r3⟩ := hrel
    clear HB R1 R2 R3
    have HB := Lib.hid hbel
    have R1 := Lib.hid r1
    have R2 := Lib.hid r2
    have R3 := Lib.hid r3
    have HH := Lib.hid hh
    clear hbel hh
    obtain ⟨c1, f1, s1⟩ := r1
    obtain ⟨c2, f2, s2⟩ := r2
    obtain ⟨c3, f3, s3⟩ := r3
    by_cases hlt : k < n2
    · clear hf8 H5 H6
      obtain ⟨ad, rfl, hadb, hc⟩ := HS.out (by omega)
      have g0 : wr.cell? (ad.add (k * 2)) = some (.int .i64 (g k)) := (HB.out.cell (by rw [add_block]; exact hadb)).trans (hc k hlt 0 (by omega))
      have g1 : wr.cell? ⟨(ad.add (k * 2)).block, (ad.add (k * 2)).off + 1, none⟩ = some (.int .i64 (h k)) := (HB.out.cell (by show (ad.add (k * 2)).block < _; rw [add_block]; exact hadb)).trans (hc k hlt 1 (by omega))
      clear hc
      have i0 : (0 : Int) ≤ (k : Int) := by omega
      have i1 : (k : Int) < (n2 : Int) := by omega
      by_cases e1 : g k = src
      · have e1' : (g k == src) = true := by simp [e1]
        by_cases e2 : h k = dst
        · have e2' : (h k == dst) = true := by simp [e2]
          have HY := Lib.hid (has2_yes e1 e2 hlt)
          clear e1 e2
          go_wp2
          go_quiet (fail)
          go_wp2
          go_ret
          exact ⟨(by rw [HY.out]; rfl), Go.Proofs.Ytmomndeknpochaa.below_drewN HB.out _⟩
        · have e2' : (h k == dst) = false := by simp [e2]
          have HY := Lib.hid (has2_step (f := g) (g := h) (v := src) (u := dst) HH.out (fun e => e2 e.2))
          clear e1 e2
          go_wp2
          go_quiet (fail)
          go_wp2
          go_roundw
          case rel => exact ⟨k + 1, by omega, num_step k, HY.out, Go.Proofs.Ytmomndeknpochaa.below_drewN HB.out _, R1.out.drewN _, R2.out.drewN _, R3.out.drewN _⟩
          case measure => exact measure_step hlt
      · have e1' : (g k == src) = false := by simp [e1]
        have HY := Lib.hid (has2_step (f := g) (g := h) (v := src) (u := dst) HH.out (fun e => e1 e.1))
        clear e1
        go_wp2
        go_quiet (fail)
        go_wp2
        go_roundw
        case rel => exact ⟨k + 1, by omega, num_step k, HY.out, Go.Proofs.Ytmomndeknpochaa.below_drewN HB.out _, R1.out.drewN _, R2.out.drewN _, R3.out.drewN _⟩
        case measure => exact measure_step hlt
    · obtain rfl : k = n2 := by omega
      have hfree : wr.cell? ⟨w.heap.size, 7 + s, none⟩ = some (.int .u64 (free s)) := (c1 (7 + s)).trans hf8.out
      have hf9 := hf8.out
      have hs0 : (0 : Int) ≤ (s : Int) := by omega
      have hs1 : (s : Int) < 8 := by omega
      go_wp2
      (refine q_region (by kernel_rfl) (by kernel_rfl) ?_; (repeat (first | ((refine q_pure (v := ?_) rfl (fun w' hC => ?hrun) ?_); (case hrun => (obtain ⟨hq1, hq2⟩ := bcell hC; go_simp; with_reducible rfl)); refine q_norm (a' := ?_) ?_ ?_; rotate_left; (simp only [Act.put, List.setIfInBounds_toArray, List.set_cons_zero, List.set_cons_succ]; rfl)) | ((refine q_skip rfl ?_); refine q_norm (a' := ?_) ?_ ?_; rotate_left; (simp only [Act.put, List.setIfInBounds_toArray, List.set_cons_zero, List.set_cons_succ]; rfl)) | ((with_reducible refine q_callB (f := 25) (fun w' hb => H5.out w' (HB.out.trans (hb.mono (Nat.le_of_lt s1)))) Try.func25 (by kernel_rfl) rfl rfl ?hw ?hargs ?_); (case hw => rfl); (case hargs => (simp only [List.map_toArray, List.map_cons, List.map_nil]; rfl)); refine q_norm (a' := ?_) ?_ ?_; rotate_left; (simp only [Act.put, List.setIfInBounds_toArray, List.set_cons_zero, List.set_cons_succ]; rfl)) | ((with_reducible refine q_callB (f := 24) (fun w' _ => H6.out w') Try.func24 (by kernel_rfl) rfl rfl ?hw ?hargs ?_); (case hw => rfl); (case hargs => (simp only [List.map_toArray, List.map_cons, List.map_nil]; rfl)); refine q_norm (a' := ?_) ?_ ?_; rotate_left; (simp only [Act.put, List.setIfInBounds_toArray, List.set_cons_zero, List.set_cons_succ]; rfl)) )); with_reducible refine wpQuiet_nil ?_; intro wq hq)
      obtain ⟨hq1, hq2⟩ := bcell hq
      have hqz : wr.heap.size ≤ wq.heap.size := hq.size
      clear hfree hf9 hs0 hs1 hf8 H5 H6
      cases ok
      all_goals
        go_wp2
        go_ret
        exact ⟨(by rw [HH.out]; simp), HB.out.trans (hq.mono (Nat.le_of_lt s1))⟩
end Go.Proofs.Ytmomndeknpochaa
