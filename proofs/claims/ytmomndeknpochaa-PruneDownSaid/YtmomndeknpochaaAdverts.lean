/- The links over which a route may go, as the code and the document tell them; the same adverts; the same links? -/
import Derived.Test.YtmomndeknpochaaTheirs
namespace Go.Proofs.Ytmomndeknpochaa
open Go.RowKit Plain
attribute [local go_sem] cell_set_self

def link (x : Adv) : Array Value := #[.int .i64 x.src, .int .i64 x.dst, .int .u64 x.cap, .int .i64 x.metric, .int .u32 x.groups]
def advert (x : Adv) : Array Value := #[.int .i64 x.src, .int .i64 x.dst, .int .u64 x.cap, .int .i64 x.metric, .int .u32 x.groups, .int .i64 x.seq, .bool x.up, .int .u64 (x.free 0), .int .u64 (x.free 1), .int .u64 (x.free 2), .int .u64 (x.free 3), .int .u64 (x.free 4), .int .u64 (x.free 5), .int .u64 (x.free 6), .int .u64 (x.free 7)]
/-- The adverts x 0, x 1, .. below n of which p holds, in their order. -/
def keep (x : Nat → Adv) (p : Adv → Bool) (n : Nat) : List Adv := ((List.range n).map x).filter p
theorem keep_succ (x : Nat → Adv) (p : Adv → Bool) (n : Nat) : keep x p (n + 1) = if p (x n) then keep x p n ++ [x n] else keep x p n := by
  unfold keep
  rw [List.range_succ, List.map_append, List.filter_append]
  by_cases h : p (x n) <;> simp [h]
theorem keep_le (x : Nat → Adv) (p : Adv → Bool) (n : Nat) : (keep x p n).length ≤ n := by
  unfold keep
  exact Nat.le_trans (List.length_filter_le _ _) (by simp)

/-- A slice of the call's own, of whichever form. -/
def GivesRows (w : World) (e : TypeId) (size : Nat) (rows : List (Array Value)) (en : Ending) (w' : World) : Prop :=
  ∃ A c, en = .returned (.slice A rows.length c) ∧ OutRow w' w.heap.size e size (.slice A rows.length c) rows ∧ Below w.heap.size w w'

set_option maxRecDepth 100000 in
set_option maxHeartbeats 8000000 in
theorem Adverts_calls (w : World) (A : Option Addr) (n c : Nat) (x : Nat → Adv) (hn : n ≤ 100) (hs : Strip w A n 15 (fun i => advert (x i))) :
    Calls Try.prog 14 #[.slice A n c] w (GivesRows w 40 15 ((List.range n).map fun i => advert (x i))) := by
  have HS := Lib.hid hs
  clear hs
  go_enter Try.func14, Try.ntmps14
  go_wp2
  go_loopw [3, 8] (fun v i wr => ∃ k : Nat, k ≤ n ∧ i = .int .i64 (k : Int) ∧ OutRow wr w.heap.size 40 15 v ((List.range k).map fun i => advert (x i)) ∧ Below w.heap.size w wr) (fun _ i _ => n - (intOf i).toNat)
  case atStart => exact ⟨0, by omega, rfl, OutRow.nil _ _ _ _, Below.refl _ _⟩
  case round =>
    obtain ⟨k, hk, rfl, ho, hbel⟩ := hrel
    obtain ⟨A1, c1, rfl⟩ := ho.form
    have hkl : ((List.range k).map fun i => advert (x i)).length = k := by simp
    rw [hkl] at ho
    have HKL := Lib.hid hkl
    have HO := Lib.hid ho
    have HB := Lib.hid hbel
    clear hkl ho hbel
    by_cases hlt : k < n
    · obtain ⟨ad, rfl, hadb, hc⟩ := HS.out (by omega)
      have hge : w.heap.size ≤ wr.heap.size := HB.out.size
      have g : ∀ j, j < 15 → wr.cell? ((ad.add (k * 15)).add j) = (advert (x k))[j]? := fun j hj => (HB.out.cell (by rw [add_block, add_block]; exact hadb)).trans (hc k hlt j hj)
      have g0 : wr.cell? (ad.add (k * 15)) = some (.int .i64 (x k).src) := g 0 (by omega)
      have g1 : wr.cell? ⟨(ad.add (k * 15)).block, (ad.add (k * 15)).off + 1, none⟩ = some (.int .i64 (x k).dst) := g 1 (by omega)
      have g2 : wr.cell? ⟨(ad.add (k * 15)).block, (ad.add (k * 15)).off + 2, none⟩ = some (.int .u64 (x k).cap) := g 2 (by omega)
      have g3 : wr.cell? ⟨(ad.add (k * 15)).block, (ad.add (k * 15)).off + 3, none⟩ = some (.int .i64 (x k).metric) := g 3 (by omega)
      have g4 : wr.cell? ⟨(ad.add (k * 15)).block, (ad.add (k * 15)).off + 4, none⟩ = some (.int .u32 (x k).groups) := g 4 (by omega)
      have g5 : wr.cell? ⟨(ad.add (k * 15)).block, (ad.add (k * 15)).off + 5, none⟩ = some (.int .i64 (x k).seq) := g 5 (by omega)
      have g6 : wr.cell? ⟨(ad.add (k * 15)).block, (ad.add (k * 15)).off + 6, none⟩ = some (.bool (x k).up) := g 6 (by omega)
      have g7 : wr.cell? ⟨(ad.add (k * 15)).block, (ad.add (k * 15)).off + 7, none⟩ = some (.int .u64 ((x k).free 0)) := g 7 (by omega)
      have g8 : wr.cell? ⟨(ad.add (k * 15)).block, (ad.add (k * 15)).off + 8, none⟩ = some (.int .u64 ((x k).free 1)) := g 8 (by omega)
      have g9 : wr.cell? ⟨(ad.add (k * 15)).block, (ad.add (k * 15)).off + 9, none⟩ = some (.int .u64 ((x k).free 2)) := g 9 (by omega)
      have g10 : wr.cell? ⟨(ad.add (k * 15)).block, (ad.add (k * 15)).off + 10, none⟩ = some (.int .u64 ((x k).free 3)) := g 10 (by omega)
      have g11 : wr.cell? ⟨(ad.add (k * 15)).block, (ad.add (k * 15)).off + 11, none⟩ = some (.int .u64 ((x k).free 4)) := g 11 (by omega)
      have g12 : wr.cell? ⟨(ad.add (k * 15)).block, (ad.add (k * 15)).off + 12, none⟩ = some (.int .u64 ((x k).free 5)) := g 12 (by omega)
      have g13 : wr.cell? ⟨(ad.add (k * 15)).block, (ad.add (k * 15)).off + 13, none⟩ = some (.int .u64 ((x k).free 6)) := g 13 (by omega)
      have g14 : wr.cell? ⟨(ad.add (k * 15)).block, (ad.add (k * 15)).off + 14, none⟩ = some (.int .u64 ((x k).free 7)) := g 14 (by omega)
      have HT := Lib.hid fun w => Theirs_calls (x k) w
      clear g hc
      have hrows : ∀ u ∈ (advert (x k)).toList, u.oneCell' = true := (by intro u hu; simp [advert] at hu; rcases hu with rfl | rfl | rfl | rfl | rfl | rfl | rfl | rfl | rfl | rfl | rfl | rfl | rfl | rfl | rfl <;> rfl)
      have HR := Lib.hid hrows
      clear hrows
      go_wp2_with (first | (go_at_call 9; (with_reducible refine (HT.out _).mono ?_); rintro e w1 ⟨rfl, hb⟩; have hge1 : w.heap.size ≤ w1.heap.size := (by have := hb.size; simp at this; omega)) | (at_builtin; refine wpList_app _ rfl (.tmp 12) (.tmp 15) 50 rfl w.heap.size 40 _ 15 120 Try.underlying50 info40 rfl (by omega) _ ((List.range k).map fun i => advert (x i)) rfl ?hown _ 1 (advert (x k)) rfl rfl ?hcell ?h1 ?hn (by omega) ?hbase ?hgo; (case hown => exact ((HO.out.alloc _).later hb).alloc _); (case hcell => exact new_row' _ _ _ (by simp)); (case h1 => exact HR.out); (case hn => (rw [HKL.out]; omega)); (case hbase => (first | omega | (simp; omega))); (intro v' w' ho' hg' hbl; have hbl0 := Lib.hid (hbl w.heap.size (by omega)); clear hbl; have HO2 := Lib.hid ho'; clear ho' hg')))
      all_goals
        go_roundw
        case rel => exact ⟨k + 1, by omega, num_step k, by rw [List.range_succ, List.map_append]; exact HO2.out, (((HB.out.alloc hge _).trans (hb.mono (by simp; omega))).alloc (by omega) _).trans hbl0.out⟩
        case measure => exact measure_step hlt
    · obtain rfl : k = n := by omega
      go_wp2
      go_ret
      exact ⟨A1, c1, by rw [HKL.out]; rfl, by rw [HKL.out]; exact HO.out, HB.out⟩

end Go.Proofs.Ytmomndeknpochaa
