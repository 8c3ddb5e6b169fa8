/- May a route go over a link? The code's answer. -/
import Derived.Test.YtmomndeknpochaaKeeps
import Derived.Test.YtmomndeknpochaaAdd
namespace Go.Proofs.Ytmomndeknpochaa
open Go.RowKit Plain
attribute [local go_sem] cell_set_self

structure Adv.Ok (x : Adv) : Prop where
  groups : 0 ≤ x.groups ∧ x.groups < 4294967296
  free : ∀ k, k < 8 → 0 ≤ x.free k ∧ x.free k < 18446744073709551616
/-- May a route go over x, where m is held already, and r tells whether x is kept out? -/
noncomputable def fitsB (x : Adv) (q : Wnt) (r : Bool) (m : Int) : Bool :=
  rightB q && (x.up && (allowsB q x.groups && (!r && (!addOk (x.free q.setup.toNat) m || decide (q.bw ≤ addN (x.free q.setup.toNat) m)))))
set_option maxHeartbeats 8000000 in
theorem Fits_no (w : World) (x : Adv) (q : Wnt) (A1 A2 A3 : Option Addr) (n1 n2 n3 k1 k2 k3 : Nat) (hops : Int) (r1 r2 r3 : Bool)
    (h1 : ∀ w, Calls Try.prog 16 #[.agg #[.int .u64 q.bw, .int .i64 q.setup, .int .i64 q.hold, .int .u32 q.any, .int .u32 q.all, .int .u32 q.none]] w fun e w' => e = .returned (.bool r1) ∧ Below w.heap.size w w')
    (h2 : ∀ w, Calls Try.prog 17 #[.agg #[.int .u64 q.bw, .int .i64 q.setup, .int .i64 q.hold, .int .u32 q.any, .int .u32 q.all, .int .u32 q.none], .int .u32 x.groups] w fun e w' => e = .returned (.bool r2) ∧ Below w.heap.size w w')
    (h3 : ∀ w', Below w.heap.size w w' → Calls Try.prog 18 #[.agg #[.int .u64 q.bw, .int .i64 q.setup, .int .i64 q.hold, .int .u32 q.any, .int .u32 q.all, .int .u32 q.none, .slice A1 n1 k1, .slice A2 n2 k2, .slice A3 n3 k3, .int .i64 hops], .agg #[.int .i64 x.src, .int .i64 x.dst, .int .u64 x.cap, .int .i64 x.metric, .int .u32 x.groups]] w' fun e w'' => e = .returned (.bool r3) ∧ Below w'.heap.size w' w'')
    (hr : (r1 && (x.up && (r2 && !r3))) = false) :
    Calls Try.prog 8 #[.agg #[.int .i64 x.src, .int .i64 x.dst, .int .u64 x.cap, .int .i64 x.metric, .int .u32 x.groups, .int .i64 x.seq, .bool x.up, .int .u64 (x.free 0), .int .u64 (x.free 1), .int .u64 (x.free 2), .int .u64 (x.free 3), .int .u64 (x.free 4), .int .u64 (x.free 5), .int .u64 (x.free 6), .int .u64 (x.free 7)], .agg #[.int .u64 q.bw, .int .i64 q.setup, .int .i64 q.hold, .int .u32 q.any, .int .u32 q.all, .int .u32 q.none, .slice A1 n1 k1, .slice A2 n2 k2, .slice A3 n3 k3, .int .i64 hops]] w fun e w' => e = .returned (.bool false) ∧ Below w.heap.size w w' := by
  have H1 := Lib.hid h1
  have H2 := Lib.hid h2
  have H3 := Lib.hid h3
  clear h1 h2 h3
  obtain ⟨src, dst, cap, metric, groups, seq, up, free⟩ := x
  simp only at hr H2 H3 ⊢
  cases r1 <;> cases up <;> cases r2 <;> cases r3
  all_goals
    first
    | (exfalso; revert hr; decide)
    | (clear hr
       go_enter Try.func8, Try.ntmps8
       go_wp2_with (first | (go_at_call 16; (with_reducible refine (H1.out _).mono ?_); rintro e w1 ⟨rfl, hb⟩; obtain ⟨hb1, hb2⟩ := bcell hb; have hbz0 : w.heap.size < w1.heap.size := size_lt hb (by first | omega | (simp <;> omega)); have hbz1 : w.heap.size + 1 < w1.heap.size := size_lt hb (by first | omega | (simp <;> omega))) | (go_at_call 17; (with_reducible refine (H2.out _).mono ?_); rintro e w2 ⟨rfl, hd⟩; obtain ⟨hd1, hd2⟩ := bcell hd; have hdz0 : w.heap.size < w2.heap.size := size_lt hd (by first | omega | (simp <;> omega)); have hdz1 : w.heap.size + 1 < w2.heap.size := size_lt hd (by first | omega | (simp <;> omega))) | (go_at_call 18; (with_reducible refine (H3.out _ (by exact (by repeat (first | (with_reducible exact Below.refl _ _) | (with_reducible assumption) | ((with_reducible refine Below.setCell ?_ ?_ _); rotate_left; (first | omega | (simp <;> omega))) | ((with_reducible refine Below.alloc ?_ ?_ _); rotate_left; (first | omega | (simp <;> omega))) | ((with_reducible refine Below.drew ?_)) | ((with_reducible refine below_drewN ?_ _)) | ((with_reducible refine Below.trans ?_ (Below.mono (by with_reducible assumption) ?_)); rotate_left; (first | omega | (simp <;> omega))))))).mono ?_); rintro e w3 ⟨rfl, hf⟩; obtain ⟨hf1, hf2⟩ := bcell hf))
       go_ret
       exact ⟨rfl, (by repeat (first | (with_reducible exact Below.refl _ _) | (with_reducible assumption) | ((with_reducible refine Below.setCell ?_ ?_ _); rotate_left; (first | omega | (simp <;> omega))) | ((with_reducible refine Below.alloc ?_ ?_ _); rotate_left; (first | omega | (simp <;> omega))) | ((with_reducible refine Below.drew ?_)) | ((with_reducible refine below_drewN ?_ _)) | ((with_reducible refine Below.trans ?_ (Below.mono (by with_reducible assumption) ?_)); rotate_left; (first | omega | (simp <;> omega)))))⟩)
theorem free_at (x : Adv) {k : Nat} (hk : k < 8) : (#[.int .i64 x.src, .int .i64 x.dst, .int .u64 x.cap, .int .i64 x.metric, .int .u32 x.groups, .int .i64 x.seq, .bool x.up, .int .u64 (x.free 0), .int .u64 (x.free 1), .int .u64 (x.free 2), .int .u64 (x.free 3), .int .u64 (x.free 4), .int .u64 (x.free 5), .int .u64 (x.free 6), .int .u64 (x.free 7)] : Array Value)[7 + k]? = some (.int .u64 (x.free k)) := by
  have : k = 0 ∨ k = 1 ∨ k = 2 ∨ k = 3 ∨ k = 4 ∨ k = 5 ∨ k = 6 ∨ k = 7 := by omega
  clear hk
  rcases this with rfl | rfl | rfl | rfl | rfl | rfl | rfl | rfl <;> rfl
set_option maxHeartbeats 8000000 in
theorem Fits_yes (w : World) (x : Adv) (q : Wnt) (A1 A2 A3 : Option Addr) (n1 n2 n3 k1 k2 k3 : Nat) (hops : Int) (s : Nat) (hs : q.setup = (s : Int)) (hs8 : s < 8) (hup : x.up = true) (m n : Int) (ok : Bool)
    (h1 : ∀ w, Calls Try.prog 16 #[.agg #[.int .u64 q.bw, .int .i64 q.setup, .int .i64 q.hold, .int .u32 q.any, .int .u32 q.all, .int .u32 q.none]] w fun e w' => e = .returned (.bool true) ∧ Below w.heap.size w w')
    (h2 : ∀ w, Calls Try.prog 17 #[.agg #[.int .u64 q.bw, .int .i64 q.setup, .int .i64 q.hold, .int .u32 q.any, .int .u32 q.all, .int .u32 q.none], .int .u32 x.groups] w fun e w' => e = .returned (.bool true) ∧ Below w.heap.size w w')
    (h3 : ∀ w', Below w.heap.size w w' → Calls Try.prog 18 #[.agg #[.int .u64 q.bw, .int .i64 q.setup, .int .i64 q.hold, .int .u32 q.any, .int .u32 q.all, .int .u32 q.none, .slice A1 n1 k1, .slice A2 n2 k2, .slice A3 n3 k3, .int .i64 hops], .agg #[.int .i64 x.src, .int .i64 x.dst, .int .u64 x.cap, .int .i64 x.metric, .int .u32 x.groups]] w' fun e w'' => e = .returned (.bool false) ∧ Below w'.heap.size w' w'')
    (h4 : ∀ w', Below w.heap.size w w' → Calls Try.prog 20 #[.agg #[.int .u64 q.bw, .int .i64 q.setup, .int .i64 q.hold, .int .u32 q.any, .int .u32 q.all, .int .u32 q.none, .slice A1 n1 k1, .slice A2 n2 k2, .slice A3 n3 k3, .int .i64 hops], .agg #[.int .i64 x.src, .int .i64 x.dst, .int .u64 x.cap, .int .i64 x.metric, .int .u32 x.groups]] w' fun e w'' => e = .returned (.int .u64 m) ∧ Below w'.heap.size w' w'')
    (h5 : ∀ w', Calls Try.prog 19 #[.int .u64 (x.free s), .int .u64 m] w' fun e w'' => e = .returned (.tuple #[.int .u64 n, .bool ok]) ∧ w' = w'') :
    Calls Try.prog 8 #[.agg #[.int .i64 x.src, .int .i64 x.dst, .int .u64 x.cap, .int .i64 x.metric, .int .u32 x.groups, .int .i64 x.seq, .bool x.up, .int .u64 (x.free 0), .int .u64 (x.free 1), .int .u64 (x.free 2), .int .u64 (x.free 3), .int .u64 (x.free 4), .int .u64 (x.free 5), .int .u64 (x.free 6), .int .u64 (x.free 7)], .agg #[.int .u64 q.bw, .int .i64 q.setup, .int .i64 q.hold, .int .u32 q.any, .int .u32 q.all, .int .u32 q.none, .slice A1 n1 k1, .slice A2 n2 k2, .slice A3 n3 k3, .int .i64 hops]] w fun e w' => e = .returned (.bool (!ok || decide (q.bw ≤ n))) ∧ Below w.heap.size w w' := by
  have H1 := Lib.hid h1
  have H2 := Lib.hid h2
  have H3 := Lib.hid h3
  have H4 := Lib.hid h4
  have H5 := Lib.hid fun w => (h5 w).mono fun e w' h => (⟨h.1, h.2 ▸ Below.refl _ _⟩ : _ ∧ Below w.heap.size w w')
  clear h1 h2 h3 h4 h5
  have hf8 := free_at x hs8
  obtain ⟨src, dst, cap, metric, groups, seq, up, free⟩ := x
  obtain ⟨bw, setup, hold, any, all, nn⟩ := q
  simp only at hup hs hf8 H1 H2 H3 H4 H5 ⊢
  subst hup hs
  go_enter Try.func8, Try.ntmps8
  go_wp2_with (first | (go_at_call 16; (with_reducible refine (H1.out _).mono ?_); rintro e w1 ⟨rfl, hb⟩; obtain ⟨hb1, hb2⟩ := bcell hb; have hbz0 : w.heap.size < w1.heap.size := size_lt hb (by first | omega | (simp <;> omega)); have hbz1 : w.heap.size + 1 < w1.heap.size := size_lt hb (by first | omega | (simp <;> omega))) | (go_at_call 17; (with_reducible refine (H2.out _).mono ?_); rintro e w2 ⟨rfl, hd⟩; obtain ⟨hd1, hd2⟩ := bcell hd; have hdz0 : w.heap.size < w2.heap.size := size_lt hd (by first | omega | (simp <;> omega)); have hdz1 : w.heap.size + 1 < w2.heap.size := size_lt hd (by first | omega | (simp <;> omega))) | (go_at_call 18; (with_reducible refine (H3.out _ (by exact (by repeat (first | (with_reducible exact Below.refl _ _) | (with_reducible assumption) | ((with_reducible refine Below.setCell ?_ ?_ _); rotate_left; (first | omega | (simp <;> omega))) | ((with_reducible refine Below.alloc ?_ ?_ _); rotate_left; (first | omega | (simp <;> omega))) | ((with_reducible refine Below.drew ?_)) | ((with_reducible refine below_drewN ?_ _)) | ((with_reducible refine Below.trans ?_ (Below.mono (by with_reducible assumption) ?_)); rotate_left; (first | omega | (simp <;> omega))))))).mono ?_); rintro e w3 ⟨rfl, hf⟩; obtain ⟨hf1, hf2⟩ := bcell hf))
  have hbel : Below w.heap.size w w3 := (by repeat (first | (with_reducible exact Below.refl _ _) | (with_reducible assumption) | ((with_reducible refine Below.setCell ?_ ?_ _); rotate_left; (first | omega | (simp <;> omega))) | ((with_reducible refine Below.alloc ?_ ?_ _); rotate_left; (first | omega | (simp <;> omega))) | ((with_reducible refine Below.drew ?_)) | ((with_reducible refine below_drewN ?_ _)) | ((with_reducible refine Below.trans ?_ (Below.mono (by with_reducible assumption) ?_)); rotate_left; (first | omega | (simp <;> omega)))))
  have r1 : Row w3 w.heap.size _ := ((((Row.new w _ 40).alloc _).later hb).later hd).later hf
  have r2 : Row w3 (w.heap.size + 1) _ := (((Row.new' (w.alloc _) (B := w.heap.size + 1) _ 44 (by simp)).later hb).later hd).later hf
  have HB := Lib.hid hbel
  clear hbel hb hb1 hb2 hbz0 hbz1 hd hd1 hd2 hdz0 hdz1 hf hf1 hf2 H1 H2 H3
  generalize hBe : w.heap.size = B at *
  have HBe := Lib.hid hBe
  clear hBe
  obtain ⟨c1, f1, s1⟩ := r1
  obtain ⟨c2, f2, s2⟩ := r2
  have hfree : w3.cell? ⟨B, 7 + s, none⟩ = some (.int .u64 (free s)) := (c1 (7 + s)).trans hf8
  have hs0 : (0 : Int) ≤ (s : Int) := by omega
  have hs1 : (s : Int) < 8 := by omega
  have HBB := Lib.hid (show B ≤ w3.heap.size by omega)
  (refine q_region (by kernel_rfl) (by kernel_rfl) ?_; (repeat (first | ((refine q_pure (v := ?_) rfl (fun w' hC => ?hrun) ?_); (case hrun => (obtain ⟨hq1, hq2⟩ := bcell hC; go_simp; with_reducible rfl)); refine q_norm (a' := ?_) ?_ ?_; rotate_left; (simp only [Act.put, List.setIfInBounds_toArray, List.set_cons_zero, List.set_cons_succ]; rfl)) | ((refine q_skip rfl ?_); refine q_norm (a' := ?_) ?_ ?_; rotate_left; (simp only [Act.put, List.setIfInBounds_toArray, List.set_cons_zero, List.set_cons_succ]; rfl)) | ((with_reducible refine q_callB (f := 20) (fun w' hb => H4.out w' (HB.out.trans (hb.mono HBB.out))) Try.func20 (by kernel_rfl) rfl rfl ?hw ?hargs ?_); (case hw => rfl); (case hargs => (simp only [List.map_toArray, List.map_cons, List.map_nil]; rfl)); refine q_norm (a' := ?_) ?_ ?_; rotate_left; (simp only [Act.put, List.setIfInBounds_toArray, List.set_cons_zero, List.set_cons_succ]; rfl)) | ((with_reducible refine q_callB (f := 19) (fun w' _ => H5.out w') Try.func19 (by kernel_rfl) rfl rfl ?hw ?hargs ?_); (case hw => rfl); (case hargs => (simp only [List.map_toArray, List.map_cons, List.map_nil]; rfl)); refine q_norm (a' := ?_) ?_ ?_; rotate_left; (simp only [Act.put, List.setIfInBounds_toArray, List.set_cons_zero, List.set_cons_succ]; rfl)) )); with_reducible refine wpQuiet_nil ?_; intro wq hq)
  obtain ⟨hq1, hq2⟩ := bcell hq
  have hqz : w3.heap.size ≤ wq.heap.size := hq.size
  have hbel := HB.out
  clear hfree hs0 hs1 hf8 H4 H5 HBB
  cases ok
  all_goals
    go_wp2
    go_ret
    exact ⟨by simp, by rw [HBe.out]; exact hbel.trans (hq.mono (by omega))⟩
end Go.Proofs.Ytmomndeknpochaa
