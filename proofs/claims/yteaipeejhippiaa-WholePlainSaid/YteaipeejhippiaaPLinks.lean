/- Where nothing is asked, a route may go over all links that are up: prune.Links. -/
import Derived.Test.YteaipeejhippiaaPFits
namespace Go.Proofs.Yteaipeejhippiaa
open Go.RowKit
attribute [local go_sem] cell_set_self
set_option linter.unusedVariables false

theorem infoL34 : Info Try.prog 34 (.agg #[.int .i64 0, .int .i64 0, .int .u64 0, .int .i64 0, .int .u32 0]) 5 40 := by unfold Info; kernel_rfl
theorem link_ones (x : Lnk) : ∀ u ∈ (link x).toList, u.oneCell' = true := fun u hu => by
  simp [link] at hu
  rcases hu with rfl | rfl | rfl | rfl | rfl <;> rfl
def linksOf (x : Nat → Adv) (k : Nat) : List (Array Value) := (List.range k).map fun i => link (x i).toLnk
theorem linksOf_succ (x : Nat → Adv) (k : Nat) : linksOf x (k + 1) = linksOf x k ++ [link (x k).toLnk] := by
  unfold linksOf
  rw [List.range_succ, List.map_append]
  rfl
theorem linksOf_len (x : Nat → Adv) (k : Nat) : (linksOf x k).length = k := by simp [linksOf]
/-- What an advert of a link that is up is like here. -/
structure Adv.Up (x : Adv) : Prop where
  g0 : 0 ≤ x.groups
  g1 : x.groups < 4294967296
  f0 : 0 ≤ x.free 0
  f1 : x.free 0 < 18446744073709551616
  up : x.up = true
def LinksPost (w : World) (n : Nat) (x : Nat → Adv) (e : Ending) (w' : World) : Prop := ∃ A c, e = .returned (.slice A n c) ∧ Strip w' A n 5 (fun i => link (x i).toLnk) ∧ (∀ ad, A = some ad → ∃ cs, Blk w' ad.block 34 cs) ∧ Below w.heap.size w w'
set_option maxRecDepth 100000 in
set_option maxHeartbeats 8000000 in
theorem Links0_calls (w : World) (A : Option Addr) (n c : Nat) (x : Nat → Adv) (hn : n ≤ 1000) (hs : Strip w A n 15 (fun i => advert (x i))) (hx : ∀ i, i < n → (x i).Up) :
    Calls Try.prog 26 #[.slice A n c, .agg #[.int .u64 0, .int .i64 0, .int .i64 0, .int .u32 0, .int .u32 0, .int .u32 0, .slice none 0 0, .slice none 0 0, .slice none 0 0, .int .i64 0]] w (LinksPost w n x) := by
  have HS := Lib.hid hs
  have HX := Lib.hid hx
  have hn5 : n ≤ 1000 := hn
  clear hs hx hn
  go_enter Try.func26, Try.ntmps26
  go_wp2
  have HB0 := Lib.hid (show Below w.heap.size w (w.alloc (.cells #[.int .u64 0, .int .i64 0, .int .i64 0, .int .u32 0, .int .u32 0, .int .u32 0, .slice none 0 0, .slice none 0 0, .slice none 0 0, .int .i64 0] 58)) from (Below.refl _ _).alloc (Nat.le_refl _) _)
  have R0 := Lib.hid (Row.new w #[.int .u64 0, .int .i64 0, .int .i64 0, .int .u32 0, .int .u32 0, .int .u32 0, .slice none 0 0, .slice none 0 0, .slice none 0 0, .int .i64 0] 58)
  go_loopw [5, 10] (fun v i wr => ∃ k : Nat, k ≤ n ∧ i = .int .i64 (k : Int) ∧ OutRow wr (w.heap.size + 1) 34 5 v (linksOf x k) ∧ Below w.heap.size w wr ∧ Row wr w.heap.size #[.int .u64 0, .int .i64 0, .int .i64 0, .int .u32 0, .int .u32 0, .int .u32 0, .slice none 0 0, .slice none 0 0, .slice none 0 0, .int .i64 0]) (fun _ i _ => n - (intOf i).toNat)
  case atStart => exact ⟨0, by omega, rfl, OutRow.nil _ _ _ _, HB0.out, R0.out⟩
  case round =>
    obtain ⟨k, hk, rfl, ho, hbel, hr⟩ := hrel
    clear HB0 R0
    obtain ⟨A4, c4, rfl⟩ := ho.form
    rw [linksOf_len] at *
    have HO := Lib.hid ho
    have HB := Lib.hid hbel
    have HR := Lib.hid hr
    clear ho hbel
    obtain ⟨c1, f1, s1⟩ := hr
    by_cases hlt : k < n
    · obtain ⟨ad, rfl, hadb, hc⟩ := HS.out (by omega)
      have hge : w.heap.size + 1 ≤ wr.heap.size := s1
      have g : ∀ j, j < 15 → wr.cell? ((ad.add (k * 15)).add j) = (advert (x k))[j]? := fun j hj => (HB.out.cell (by rw [add_block, add_block]; exact hadb)).trans (hc k hlt j hj)
      have g0 : wr.cell? (ad.add (k * 15)) = some (.int .i64 (x k).src) := g 0 (by omega); have g1 : wr.cell? ⟨(ad.add (k * 15)).block, (ad.add (k * 15)).off + 1, none⟩ = some (.int .i64 (x k).dst) := g 1 (by omega); have g2 : wr.cell? ⟨(ad.add (k * 15)).block, (ad.add (k * 15)).off + 2, none⟩ = some (.int .u64 (x k).cap) := g 2 (by omega); have g3 : wr.cell? ⟨(ad.add (k * 15)).block, (ad.add (k * 15)).off + 3, none⟩ = some (.int .i64 (x k).metric) := g 3 (by omega); have g4 : wr.cell? ⟨(ad.add (k * 15)).block, (ad.add (k * 15)).off + 4, none⟩ = some (.int .u32 (x k).groups) := g 4 (by omega); have g5 : wr.cell? ⟨(ad.add (k * 15)).block, (ad.add (k * 15)).off + 5, none⟩ = some (.int .i64 (x k).seq) := g 5 (by omega); have g6 : wr.cell? ⟨(ad.add (k * 15)).block, (ad.add (k * 15)).off + 6, none⟩ = some (.bool (x k).up) := g 6 (by omega); have g7 : wr.cell? ⟨(ad.add (k * 15)).block, (ad.add (k * 15)).off + 7, none⟩ = some (.int .u64 ((x k).free 0)) := g 7 (by omega); have g8 : wr.cell? ⟨(ad.add (k * 15)).block, (ad.add (k * 15)).off + 8, none⟩ = some (.int .u64 ((x k).free 1)) := g 8 (by omega); have g9 : wr.cell? ⟨(ad.add (k * 15)).block, (ad.add (k * 15)).off + 9, none⟩ = some (.int .u64 ((x k).free 2)) := g 9 (by omega); have g10 : wr.cell? ⟨(ad.add (k * 15)).block, (ad.add (k * 15)).off + 10, none⟩ = some (.int .u64 ((x k).free 3)) := g 10 (by omega); have g11 : wr.cell? ⟨(ad.add (k * 15)).block, (ad.add (k * 15)).off + 11, none⟩ = some (.int .u64 ((x k).free 4)) := g 11 (by omega); have g12 : wr.cell? ⟨(ad.add (k * 15)).block, (ad.add (k * 15)).off + 12, none⟩ = some (.int .u64 ((x k).free 5)) := g 12 (by omega); have g13 : wr.cell? ⟨(ad.add (k * 15)).block, (ad.add (k * 15)).off + 13, none⟩ = some (.int .u64 ((x k).free 6)) := g 13 (by omega); have g14 : wr.cell? ⟨(ad.add (k * 15)).block, (ad.add (k * 15)).off + 14, none⟩ = some (.int .u64 ((x k).free 7)) := g 14 (by omega)
      have hst := Lib.hid (linksOf_succ x k)
      have k1 : (k : Int) < (n : Int) := by omega
      have HT := Lib.hid fun w' => Fits0_calls w' (x k) (HX.out k hlt).g0 (HX.out k hlt).g1 (HX.out k hlt).f0 (HX.out k hlt).f1 (HX.out k hlt).up
      clear g hc
      go_wp2_with (first | (go_at_call 41; (with_reducible refine (HT.out _).mono ?_); rintro e w1 ⟨rfl, hb⟩; obtain ⟨hb1, hb2⟩ := bcell hb; have hge1 : w.heap.size + 1 ≤ w1.heap.size := (by have := hb.size; simp at this; omega); have hge2 : wr.heap.size < w1.heap.size := (by have := hb.size; simp at this; omega)) | (at_builtin; refine wpList_app _ rfl (.tmp 17) (.tmp 20) 22 rfl (w.heap.size + 1) 34 _ 5 40 Try.underlying22 infoL34 rfl (by omega) _ (linksOf x k) rfl ?hown _ 1 (link (x k).toLnk) rfl rfl ?hcell ?h1 ?hn (by omega) ?hbase ?hgo; (case hown => exact ((HO.out.alloc _).later hb).alloc _); (case hcell => exact new_row' _ _ _ (by simp)); (case h1 => exact link_ones _); (case hn => (rw [linksOf_len]; omega)); (case hbase => (first | omega | (simp; omega))); (intro v' w' ho' hg' hbl; have hbl0 := Lib.hid (hbl w.heap.size (by omega)); have hbl1 := Lib.hid (hbl _ (Nat.le_refl _)); clear hbl; have HO2 := Lib.hid ho'; clear ho' hg')))
      all_goals
        go_roundw
        case rel => exact ⟨k + 1, by omega, num_step k, by rw [hst.out]; exact HO2.out, (((HB.out.alloc (by omega) _).trans (hb.mono (by simp; omega))).alloc (by omega) _).trans hbl0.out, ((((HR.out.alloc _).later hb).alloc _).below hbl1.out (by omega))⟩
        case measure => exact measure_step hlt
    · obtain rfl : k = n := by omega
      go_wp2
      go_ret
      refine ⟨A4, c4, rfl, (HO.out.strip_map).2, fun ad e => ?_, HB.out⟩
      rcases HO.out.1.2 with ⟨h3, _⟩ | ⟨g, cap, cur, h3, _, hg, _⟩
      · injection h3 with h3
        rw [h3] at e
        cases e
      · injection h3 with h3
        rw [h3] at e
        injection e with e
        rw [← e]
        exact ⟨cur, hg⟩
end Go.Proofs.Yteaipeejhippiaa
