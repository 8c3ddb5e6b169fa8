/- What a base tells; where a link's advert stands. -/
import Derived.Test.YteaipeejhippiaaFNew
import Derived.Test.YteaipeejhippiaaOwn4
import Derived.Lib.SliceRun
namespace Go.Proofs.Yteaipeejhippiaa
open Go.RowKit
attribute [local go_sem] cell_set_self
set_option linter.unusedVariables false

def ClonePost (w : World) (n : Nat) (f : Nat → Array Value) (e : Ending) (w' : World) : Prop := ∃ A c, e = .returned (.slice A n c) ∧ Strip w' A n 15 f ∧ (∀ ad, A = some ad → w.heap.size ≤ ad.block) ∧ Below w.heap.size w w'
set_option maxRecDepth 100000 in
set_option maxHeartbeats 4000000 in
theorem Clone_calls (w : World) (A : Option Addr) (n c : Nat) (x : Nat → Adv) (hn : n ≤ 1000) (hs : Strip w A n 15 (fun i => advert (x i))) (h0 : A = none → n = 0 ∧ c = 0) : Calls Try.prog 17 #[.slice A n c] w (ClonePost w n (fun i => advert (x i))) := by
  rcases A with _ | ad
  · obtain ⟨rfl, rfl⟩ := h0 rfl
    clear h0
    have hne : ∀ w, (binOp .eql 29 (.slice none 0 0) (.slice none 0 0)).run Try.prog w = .ok (.bool true) w := fun w => Lib.run_eql_slice_nil w 29 41 none 0 0 0 0 Try.underlying29
    go_enter Try.func17, Try.ntmps17
    go_wp2
    go_ret
    exact ⟨none, 0, rfl, fun h => absurd h (by omega), fun ad e => (by cases e), Below.refl _ _⟩
  · have HS := Lib.hid hs
    clear hs h0
    have hne : ∀ w, (binOp .eql 29 (.slice (some ad) n c) (.slice none 0 0)).run Try.prog w = .ok (.bool false) w := fun w => Lib.run_eql_slice_nil w 29 41 (some ad) n c 0 0 Try.underlying29
    go_enter Try.func17, Try.ntmps17
    go_wp2_with (at_builtin; refine wpList_copyS _ rfl (.tmp 5) (.tmp 6) 29 rfl w.heap.size 41 _ 15 120 Try.underlying29 infoAdv rfl (by omega) (.slice (some ⟨w.heap.size, 0, none⟩) 0 0) rfl (empty_row w 41 15 rfl) ad n c (fun i => advert (x i)) rfl (HS.out.below ((Below.refl w.heap.size w).alloc (Nat.le_refl _) _)) (fun _ => rfl) (fun i => advert_ones (x i)) (by omega) (by omega) (by simp) ?_; intro v1 w1 ho hb; obtain ⟨A1, c1, rfl⟩ := ho.form; have HO := Lib.hid ho; have HB := Lib.hid hb; clear ho hb)
    go_ret
    have h1 := HO.out.strip_map
    rw [List.length_map, List.length_range] at h1
    have h2 := HO.out.1.lt
    refine ⟨A1, c1, rfl, h1.2, fun ad e => ?_, ((Below.refl _ _).alloc (Nat.le_refl _) _).trans HB.out⟩
    subst e
    rcases HO.out.1.2 with ⟨h3, _⟩ | ⟨g, cap, cur, h3, hbg, _⟩
    · injection h3 with h3
      cases h3
    · injection h3 with h3
      injection h3 with h3
      rw [h3]
      exact hbg
theorem Bas.nil_ {w : World} {base Q n c : Nat} {xs : List Adv} (h : Bas w base Q (.slice none n c) xs) : n = 0 ∧ c = 0 := by
  rcases h.row.1.2 with ⟨h1, _⟩ | ⟨g, cap, cur, h1, _⟩
  · injection h1 with _ h1 h2
    exact ⟨h1, h2⟩
  · injection h1 with h1
    cases h1
def a0 : Adv := { src := 0, dst := 0, cap := 0, metric := 0, groups := 0, seq := 0, up := false, free := fun _ => 0 }
/-- The advert at place i. -/
def nth (xs : List Adv) (i : Nat) : Adv := xs.getD i a0
theorem Bas.strips {w : World} {base Q n c : Nat} {A : Option Addr} {xs : List Adv} (h : Bas w base Q (.slice A n c) xs) : n = xs.length ∧ Strip w A n 15 (fun i => advert (nth xs i)) := h.strip a0
/-- What the base tells: its adverts, in memory of their own. -/
def AllPost (w : World) (xs : List Adv) (e : Ending) (w' : World) : Prop := ∃ A c, e = .returned (.slice A xs.length c) ∧ Strip w' A xs.length 15 (fun i => advert (nth xs i)) ∧ (∀ ad, A = some ad → w.heap.size ≤ ad.block) ∧ Below w.heap.size w w'
theorem All_calls (w : World) (base Q : Nat) (v : Value) (xs : List Adv) (h : Bas w base Q v xs) (hn : xs.length ≤ 64) : Calls Try.prog 6 #[.pointer (some ⟨Q, 0, none⟩)] w (AllPost w xs) := by
  obtain ⟨A, c, rfl⟩ := h.form
  have HC := Lib.hid fun (w' : World) (hb : Bas w' base Q (.slice A xs.length c) xs) => Clone_calls w' A xs.length c (nth xs) (by omega) hb.strips.2 (fun e => by subst e; exact hb.nil_)
  have HB := Lib.hid h
  have HG := Lib.hid fun (w' : World) (hb : Bas w' base Q (.slice A xs.length c) xs) => good_calls w' Q (.slice A xs.length c) hb.blk
  obtain ⟨cq, fq, sq⟩ := h.blk.row
  clear h
  go_enter Try.func6, Try.ntmps6
  go_wp2_with (first | (go_at_call 16; (with_reducible refine (HG.out _ HB.out).mono ?_); rintro e w1 ⟨rfl, rfl⟩) | (go_at_call 17; (with_reducible refine (HC.out _ HB.out).mono ?_); rintro e w1 ⟨A1, c1, rfl, h1, h2, h3⟩; have H1 := Lib.hid h1; have H2 := Lib.hid h2; clear h1 h2))
  go_ret
  exact ⟨A1, c1, rfl, H1.out, H2.out, h3⟩
/-- Are these of one link? -/
def likeB (x y : Adv) : Bool := x.src == y.src && x.dst == y.dst
theorem Like_calls (w : World) (y x : Adv) (P : Nat) (h : Row w P #[.int .i64 x.src, .int .i64 x.dst, .int .u64 x.cap, .int .i64 x.metric, .int .u32 x.groups, .int .i64 x.seq, .bool x.up, .int .u64 (x.free 0), .int .u64 (x.free 1), .int .u64 (x.free 2), .int .u64 (x.free 3), .int .u64 (x.free 4), .int .u64 (x.free 5), .int .u64 (x.free 6), .int .u64 (x.free 7)]) : Calls Try.prog 20 #[.agg #[.int .i64 y.src, .int .i64 y.dst, .int .u64 y.cap, .int .i64 y.metric, .int .u32 y.groups, .int .i64 y.seq, .bool y.up, .int .u64 (y.free 0), .int .u64 (y.free 1), .int .u64 (y.free 2), .int .u64 (y.free 3), .int .u64 (y.free 4), .int .u64 (y.free 5), .int .u64 (y.free 6), .int .u64 (y.free 7)], .pointer (some ⟨P, 0, none⟩)] w fun e w' => e = .returned (.bool (likeB y x)) ∧ Below w.heap.size w w' := by
  obtain ⟨c, f, s⟩ := h
  cases h1 : (y.src == x.src)
  · have hl : likeB y x = false := by simp [likeB, h1]
    rw [hl]
    clear hl
    go_enter Try.func20, Try.ntmps20
    go_wp2
    go_ret
    exact ⟨rfl, (by repeat (first | (with_reducible exact Below.refl _ _) | (with_reducible assumption) | ((with_reducible refine Below.setCell ?_ ?_ _); rotate_left; (first | omega | (simp <;> omega))) | ((with_reducible refine Below.alloc ?_ ?_ _); rotate_left; (first | omega | (simp <;> omega))) | ((with_reducible refine Below.drew ?_)) | ((with_reducible refine below_drewN ?_ _)) | ((with_reducible refine Below.trans ?_ (Below.mono (by with_reducible assumption) ?_)); rotate_left; (first | omega | (simp <;> omega)))))⟩
  · cases h2 : (y.dst == x.dst)
    all_goals
      have hl : likeB y x = (y.dst == x.dst) := by simp [likeB, h1]
      rw [h2] at hl
      rw [hl]
      clear hl
      go_enter Try.func20, Try.ntmps20
      go_wp2
      go_ret
      exact ⟨rfl, (by repeat (first | (with_reducible exact Below.refl _ _) | (with_reducible assumption) | ((with_reducible refine Below.setCell ?_ ?_ _); rotate_left; (first | omega | (simp <;> omega))) | ((with_reducible refine Below.alloc ?_ ?_ _); rotate_left; (first | omega | (simp <;> omega))) | ((with_reducible refine Below.drew ?_)) | ((with_reducible refine below_drewN ?_ _)) | ((with_reducible refine Below.trans ?_ (Below.mono (by with_reducible assumption) ?_)); rotate_left; (first | omega | (simp <;> omega)))))⟩
/-- Where x's link stands among the first n; -1: nowhere. -/
def place (f : Nat → Adv) (x : Adv) : Nat → Nat → Int
  | _, 0 => -1
  | k, n + 1 => if likeB (f k) x then (k : Int) else place f x (k + 1) n
theorem place_at {f : Nat → Adv} {x : Adv} {i : Nat} : ∀ {n k : Nat}, k ≤ i → i < k + n → (∀ j, k ≤ j → j < i → likeB (f j) x = false) → likeB (f i) x = true → place f x k n = (i : Int)
  | 0, k, h1, h2, _, _ => by omega
  | n + 1, k, h1, h2, h3, h4 => by
    unfold place
    by_cases e : k = i
    · subst e
      rw [if_pos h4]
    · rw [h3 k (by omega) (by omega), if_neg (by simp)]
      exact place_at (by omega) (by omega) (fun j hj => h3 j (by omega)) h4
theorem place_none {f : Nat → Adv} {x : Adv} : ∀ {n k : Nat}, (∀ j, k ≤ j → j < k + n → likeB (f j) x = false) → place f x k n = -1
  | 0, k, _ => rfl
  | n + 1, k, h => by
    unfold place
    rw [h k (by omega) (by omega), if_neg (by simp)]
    exact place_none fun j h1 h2 => h j (by omega) (by omega)
theorem Strip.adv {w : World} {A : Option Addr} {m k : Nat} {x : Nat → Adv} (h : Strip w A m 15 (fun i => advert (x i))) (hk : k < m) : ∃ ad, A = some ad ∧ ad.block < w.heap.size ∧ ∀ w', Below w.heap.size w w' → ∀ j, j < 15 → w'.cell? ((ad.add (k * 15)).add j) = (advert (x k))[j]? := by
  obtain ⟨ad, e, hl, hc⟩ := h (by omega)
  exact ⟨ad, e, hl, fun w' hb j hj => (hb.cell (by rw [add_block, add_block]; exact hl)).trans (hc k hk j hj)⟩
set_option maxHeartbeats 8000000 in
theorem Index_calls (w : World) (A : Option Addr) (n c : Nat) (f : Nat → Adv) (x : Adv) (P : Nat) (hn : n ≤ 9223372036854775807) (hs : Strip w A n 15 (fun i => advert (f i))) (hp : Row w P #[.int .i64 x.src, .int .i64 x.dst, .int .u64 x.cap, .int .i64 x.metric, .int .u32 x.groups, .int .i64 x.seq, .bool x.up, .int .u64 (x.free 0), .int .u64 (x.free 1), .int .u64 (x.free 2), .int .u64 (x.free 3), .int .u64 (x.free 4), .int .u64 (x.free 5), .int .u64 (x.free 6), .int .u64 (x.free 7)]) : Calls Try.prog 19 #[.slice A n c, .func (.func 20) #[] #[.pointer (some ⟨P, 0, none⟩)]] w fun e w' => e = .returned (.int .i64 (place f x 0 n)) ∧ Below w.heap.size w w' := by
  have HS := Lib.hid hs
  have HL := Lib.hid fun (w' : World) (hb : Below w.heap.size w w') (k : Nat) => Like_calls w' (f k) x P (hp.later hb)
  have hn5 : n ≤ 9223372036854775807 := hn
  clear hs hp hn
  go_enter Try.func19, Try.ntmps19
  go_wp2
  go_loopw [8] (fun i wr => ∃ k : Nat, k ≤ n ∧ i = .int .i64 (k : Int) ∧ (∀ j, j < k → likeB (f j) x = false) ∧ Below w.heap.size w wr) (fun i _ => n - (intOf i).toNat)
  case atStart => exact ⟨0, by omega, rfl, fun j hj => by omega, Below.refl _ _⟩
  case round =>
    obtain ⟨k, hk, rfl, hj, hb⟩ := hrel
    have HJ := Lib.hid hj
    have HB := Lib.hid hb
    have hws := hb.size
    clear hj hb
    by_cases hlt : k < n
    · have i0 : (0 : Int) ≤ (k : Int) := by omega
      have i1 : (k : Int) < (n : Int) := by omega
      obtain ⟨ad, rfl, hadb, gg⟩ := HS.out.adv hlt
      have gg := gg wr HB.out
      have g0 : wr.cell? (ad.add (k * 15)) = some (.int .i64 (f k).src) := gg 0 (by omega); have g1 : wr.cell? ⟨(ad.add (k * 15)).block, (ad.add (k * 15)).off + 1, none⟩ = some (.int .i64 (f k).dst) := gg 1 (by omega); have g2 : wr.cell? ⟨(ad.add (k * 15)).block, (ad.add (k * 15)).off + 2, none⟩ = some (.int .u64 (f k).cap) := gg 2 (by omega); have g3 : wr.cell? ⟨(ad.add (k * 15)).block, (ad.add (k * 15)).off + 3, none⟩ = some (.int .i64 (f k).metric) := gg 3 (by omega); have g4 : wr.cell? ⟨(ad.add (k * 15)).block, (ad.add (k * 15)).off + 4, none⟩ = some (.int .u32 (f k).groups) := gg 4 (by omega); have g5 : wr.cell? ⟨(ad.add (k * 15)).block, (ad.add (k * 15)).off + 5, none⟩ = some (.int .i64 (f k).seq) := gg 5 (by omega); have g6 : wr.cell? ⟨(ad.add (k * 15)).block, (ad.add (k * 15)).off + 6, none⟩ = some (.bool (f k).up) := gg 6 (by omega); have g7 : wr.cell? ⟨(ad.add (k * 15)).block, (ad.add (k * 15)).off + 7, none⟩ = some (.int .u64 ((f k).free 0)) := gg 7 (by omega); have g8 : wr.cell? ⟨(ad.add (k * 15)).block, (ad.add (k * 15)).off + 8, none⟩ = some (.int .u64 ((f k).free 1)) := gg 8 (by omega); have g9 : wr.cell? ⟨(ad.add (k * 15)).block, (ad.add (k * 15)).off + 9, none⟩ = some (.int .u64 ((f k).free 2)) := gg 9 (by omega); have g10 : wr.cell? ⟨(ad.add (k * 15)).block, (ad.add (k * 15)).off + 10, none⟩ = some (.int .u64 ((f k).free 3)) := gg 10 (by omega); have g11 : wr.cell? ⟨(ad.add (k * 15)).block, (ad.add (k * 15)).off + 11, none⟩ = some (.int .u64 ((f k).free 4)) := gg 11 (by omega); have g12 : wr.cell? ⟨(ad.add (k * 15)).block, (ad.add (k * 15)).off + 12, none⟩ = some (.int .u64 ((f k).free 5)) := gg 12 (by omega); have g13 : wr.cell? ⟨(ad.add (k * 15)).block, (ad.add (k * 15)).off + 13, none⟩ = some (.int .u64 ((f k).free 6)) := gg 13 (by omega); have g14 : wr.cell? ⟨(ad.add (k * 15)).block, (ad.add (k * 15)).off + 14, none⟩ = some (.int .u64 ((f k).free 7)) := gg 14 (by omega)
      clear gg
      cases hlk : likeB (f k) x with
      | true =>
        have HC := Lib.hid fun (w' : World) (hb : Below w.heap.size w w') => (show Calls Try.prog 20 #[.agg #[.int .i64 (f k).src, .int .i64 (f k).dst, .int .u64 (f k).cap, .int .i64 (f k).metric, .int .u32 (f k).groups, .int .i64 (f k).seq, .bool (f k).up, .int .u64 ((f k).free 0), .int .u64 ((f k).free 1), .int .u64 ((f k).free 2), .int .u64 ((f k).free 3), .int .u64 ((f k).free 4), .int .u64 ((f k).free 5), .int .u64 ((f k).free 6), .int .u64 ((f k).free 7)], .pointer (some ⟨P, 0, none⟩)] w' fun e w'' => e = .returned (.bool true) ∧ Below w'.heap.size w' w'' from by rw [← hlk]; exact HL.out w' hb k)
        have HK := Lib.hid hlk
        clear hlk
        go_wp2_with (go_at_call 20; (with_reducible refine (HC.out _ HB.out).mono ?_); rintro e w1 ⟨rfl, hb⟩)
        go_ret
        exact ⟨by rw [place_at (Nat.zero_le k) (by omega) (fun j _ => HJ.out j) HK.out]; rfl, HB.out.trans (hb.mono hws)⟩
      | false =>
        have HC := Lib.hid fun (w' : World) (hb : Below w.heap.size w w') => (show Calls Try.prog 20 #[.agg #[.int .i64 (f k).src, .int .i64 (f k).dst, .int .u64 (f k).cap, .int .i64 (f k).metric, .int .u32 (f k).groups, .int .i64 (f k).seq, .bool (f k).up, .int .u64 ((f k).free 0), .int .u64 ((f k).free 1), .int .u64 ((f k).free 2), .int .u64 ((f k).free 3), .int .u64 ((f k).free 4), .int .u64 ((f k).free 5), .int .u64 ((f k).free 6), .int .u64 ((f k).free 7)], .pointer (some ⟨P, 0, none⟩)] w' fun e w'' => e = .returned (.bool false) ∧ Below w'.heap.size w' w'' from by rw [← hlk]; exact HL.out w' hb k)
        have HK := Lib.hid hlk
        clear hlk
        go_wp2_with (go_at_call 20; (with_reducible refine (HC.out _ HB.out).mono ?_); rintro e w1 ⟨rfl, hb⟩)
        go_roundw
        case rel => exact ⟨k + 1, by omega, num_step k, fun j hj => by
          by_cases e : j = k
          · subst e; exact HK.out
          · exact HJ.out j (by omega), HB.out.trans (hb.mono hws)⟩
        case measure => exact measure_step hlt
    · obtain rfl : n = k := by omega
      go_wp2
      go_ret
      exact ⟨by rw [place_none fun j _ h => HJ.out j (by omega)]; rfl, HB.out⟩
end Go.Proofs.Yteaipeejhippiaa
