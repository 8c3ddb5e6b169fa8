/- Bases that were told whatever each know the same when each was told what the other one knows. The walk of the law. -/
import Derived.Test.YteaipeejhippiaaFPure
import Derived.Deep.DeepCutAuto
namespace Go.Proofs.Yteaipeejhippiaa
open Go.RowKit
attribute [local go_sem] cell_set_self
set_option linter.unusedVariables false

theorem advB_refl (x : Adv) : advB x x = true := advB_iff.2 rfl
set_option maxRecDepth 100000 in
set_option maxHeartbeats 8000000 in
theorem Same_calls (w : World) (A B : Option Addr) (n c d : Nat) (f : Nat → Adv) (hn : n ≤ 1000) (h1 : Strip w A n 15 (fun i => advert (f i))) (h2 : Strip w B n 15 (fun i => advert (f i))) : Calls Try.prog 10 #[.slice A n c, .slice B n d] w fun e w' => e = .returned (.bool true) ∧ Below w.heap.size w w' := by
  have H1 := Lib.hid h1
  have H2 := Lib.hid h2
  clear h1 h2
  go_enter Try.func10, Try.ntmps10
  go_wp2
  go_loopw [5] (fun i wr => ∃ k : Nat, k ≤ n ∧ i = .int .i64 (k : Int) ∧ Below w.heap.size w wr) (fun i _ => n - (intOf i).toNat)
  case atStart => exact ⟨0, Nat.zero_le _, rfl, Below.refl _ _⟩
  case round =>
    obtain ⟨k, hk, rfl, hb⟩ := hrel
    have HB := Lib.hid hb
    clear hb
    by_cases hlt : k < n
    · have i0 : (0 : Int) ≤ (k : Int) := by omega
      have i1 : (k : Int) < (n : Int) := by omega
      obtain ⟨ada, rfl, _, gg⟩ := H1.out.adv hlt
      obtain ⟨adb, rfl, _, hh⟩ := H2.out.adv hlt
      have gga := gg wr HB.out
      have ggb := hh wr HB.out
      have a0 : wr.cell? (ada.add (k * 15)) = some (.int .i64 (f k).src) := gga 0 (by omega); have a1 : wr.cell? ⟨(ada.add (k * 15)).block, (ada.add (k * 15)).off + 1, none⟩ = some (.int .i64 (f k).dst) := gga 1 (by omega); have a2 : wr.cell? ⟨(ada.add (k * 15)).block, (ada.add (k * 15)).off + 2, none⟩ = some (.int .u64 (f k).cap) := gga 2 (by omega); have a3 : wr.cell? ⟨(ada.add (k * 15)).block, (ada.add (k * 15)).off + 3, none⟩ = some (.int .i64 (f k).metric) := gga 3 (by omega); have a4 : wr.cell? ⟨(ada.add (k * 15)).block, (ada.add (k * 15)).off + 4, none⟩ = some (.int .u32 (f k).groups) := gga 4 (by omega); have a5 : wr.cell? ⟨(ada.add (k * 15)).block, (ada.add (k * 15)).off + 5, none⟩ = some (.int .i64 (f k).seq) := gga 5 (by omega); have a6 : wr.cell? ⟨(ada.add (k * 15)).block, (ada.add (k * 15)).off + 6, none⟩ = some (.bool (f k).up) := gga 6 (by omega); have a7 : wr.cell? ⟨(ada.add (k * 15)).block, (ada.add (k * 15)).off + 7, none⟩ = some (.int .u64 ((f k).free 0)) := gga 7 (by omega); have a8 : wr.cell? ⟨(ada.add (k * 15)).block, (ada.add (k * 15)).off + 8, none⟩ = some (.int .u64 ((f k).free 1)) := gga 8 (by omega); have a9 : wr.cell? ⟨(ada.add (k * 15)).block, (ada.add (k * 15)).off + 9, none⟩ = some (.int .u64 ((f k).free 2)) := gga 9 (by omega); have a10 : wr.cell? ⟨(ada.add (k * 15)).block, (ada.add (k * 15)).off + 10, none⟩ = some (.int .u64 ((f k).free 3)) := gga 10 (by omega); have a11 : wr.cell? ⟨(ada.add (k * 15)).block, (ada.add (k * 15)).off + 11, none⟩ = some (.int .u64 ((f k).free 4)) := gga 11 (by omega); have a12 : wr.cell? ⟨(ada.add (k * 15)).block, (ada.add (k * 15)).off + 12, none⟩ = some (.int .u64 ((f k).free 5)) := gga 12 (by omega); have a13 : wr.cell? ⟨(ada.add (k * 15)).block, (ada.add (k * 15)).off + 13, none⟩ = some (.int .u64 ((f k).free 6)) := gga 13 (by omega); have a14 : wr.cell? ⟨(ada.add (k * 15)).block, (ada.add (k * 15)).off + 14, none⟩ = some (.int .u64 ((f k).free 7)) := gga 14 (by omega)
      have b0 : wr.cell? (adb.add (k * 15)) = some (.int .i64 (f k).src) := ggb 0 (by omega); have b1 : wr.cell? ⟨(adb.add (k * 15)).block, (adb.add (k * 15)).off + 1, none⟩ = some (.int .i64 (f k).dst) := ggb 1 (by omega); have b2 : wr.cell? ⟨(adb.add (k * 15)).block, (adb.add (k * 15)).off + 2, none⟩ = some (.int .u64 (f k).cap) := ggb 2 (by omega); have b3 : wr.cell? ⟨(adb.add (k * 15)).block, (adb.add (k * 15)).off + 3, none⟩ = some (.int .i64 (f k).metric) := ggb 3 (by omega); have b4 : wr.cell? ⟨(adb.add (k * 15)).block, (adb.add (k * 15)).off + 4, none⟩ = some (.int .u32 (f k).groups) := ggb 4 (by omega); have b5 : wr.cell? ⟨(adb.add (k * 15)).block, (adb.add (k * 15)).off + 5, none⟩ = some (.int .i64 (f k).seq) := ggb 5 (by omega); have b6 : wr.cell? ⟨(adb.add (k * 15)).block, (adb.add (k * 15)).off + 6, none⟩ = some (.bool (f k).up) := ggb 6 (by omega); have b7 : wr.cell? ⟨(adb.add (k * 15)).block, (adb.add (k * 15)).off + 7, none⟩ = some (.int .u64 ((f k).free 0)) := ggb 7 (by omega); have b8 : wr.cell? ⟨(adb.add (k * 15)).block, (adb.add (k * 15)).off + 8, none⟩ = some (.int .u64 ((f k).free 1)) := ggb 8 (by omega); have b9 : wr.cell? ⟨(adb.add (k * 15)).block, (adb.add (k * 15)).off + 9, none⟩ = some (.int .u64 ((f k).free 2)) := ggb 9 (by omega); have b10 : wr.cell? ⟨(adb.add (k * 15)).block, (adb.add (k * 15)).off + 10, none⟩ = some (.int .u64 ((f k).free 3)) := ggb 10 (by omega); have b11 : wr.cell? ⟨(adb.add (k * 15)).block, (adb.add (k * 15)).off + 11, none⟩ = some (.int .u64 ((f k).free 4)) := ggb 11 (by omega); have b12 : wr.cell? ⟨(adb.add (k * 15)).block, (adb.add (k * 15)).off + 12, none⟩ = some (.int .u64 ((f k).free 5)) := ggb 12 (by omega); have b13 : wr.cell? ⟨(adb.add (k * 15)).block, (adb.add (k * 15)).off + 13, none⟩ = some (.int .u64 ((f k).free 6)) := ggb 13 (by omega); have b14 : wr.cell? ⟨(adb.add (k * 15)).block, (adb.add (k * 15)).off + 14, none⟩ = some (.int .u64 ((f k).free 7)) := ggb 14 (by omega)
      clear gg hh gga ggb
      have NE : ∀ w, (binOp .neq 37 (.agg #[.int .i64 (f k).src, .int .i64 (f k).dst, .int .u64 (f k).cap, .int .i64 (f k).metric, .int .u32 (f k).groups, .int .i64 (f k).seq, .bool (f k).up, .int .u64 ((f k).free 0), .int .u64 ((f k).free 1), .int .u64 ((f k).free 2), .int .u64 ((f k).free 3), .int .u64 ((f k).free 4), .int .u64 ((f k).free 5), .int .u64 ((f k).free 6), .int .u64 ((f k).free 7)]) (.agg #[.int .i64 (f k).src, .int .i64 (f k).dst, .int .u64 (f k).cap, .int .i64 (f k).metric, .int .u32 (f k).groups, .int .i64 (f k).seq, .bool (f k).up, .int .u64 ((f k).free 0), .int .u64 ((f k).free 1), .int .u64 ((f k).free 2), .int .u64 ((f k).free 3), .int .u64 ((f k).free 4), .int .u64 ((f k).free 5), .int .u64 ((f k).free 6), .int .u64 ((f k).free 7)])).run Try.prog w = .ok (.bool false) w := fun w => by rw [neq_adv, advB_refl]; rfl
      go_wp2
      go_quiet (fail)
      have HB5 := Lib.hid (below_drewN HB.out nq)
      clear a0 b0 a1 b1 a2 b2 a3 b3 a4 b4 a5 b5 a6 b6 a7 b7 a8 b8 a9 b9 a10 b10 a11 b11 a12 b12 a13 b13 a14 b14 NE
      go_wp2
      go_roundw
      case rel => exact ⟨k + 1, by omega, num_step k, HB5.out⟩
      case measure => exact measure_step hlt
    · obtain rfl : n = k := by omega
      go_wp2
      go_ret
      exact ⟨rfl, HB.out⟩
end Go.Proofs.Yteaipeejhippiaa
