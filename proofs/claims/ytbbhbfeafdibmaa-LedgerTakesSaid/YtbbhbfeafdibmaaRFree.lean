/- What is free, as the document defines it. -/
import Derived.Test.YtbbhbfeafdibmaaFree
namespace Go.Proofs.Ytbbhbfeafdibmaa
open Go.RowKit Plain
attribute [local go_sem] cell_set_self

theorem Row.new' (w : World) {B : Nat} (xs : Array Value) (t : TypeId) (hB : B = w.heap.size) : Row (w.alloc (.cells xs t)) B xs := by
  subst hB
  exact Row.new w xs t

set_option maxHeartbeats 2000000 in
theorem RFree_calls (c : Int) (h : Nat → Int) (hh : Nums h) (h0 : 0 ≤ c) (hc : c < 18446744073709551616) (w : World) :
    Calls Try.prog 19 #[.agg #[.int .u64 c, .int .u64 (h 0), .int .u64 (h 1), .int .u64 (h 2), .int .u64 (h 3), .int .u64 (h 4), .int .u64 (h 5), .int .u64 (h 6), .int .u64 (h 7)]] w fun e w' => e = .returned (.agg #[.int .u64 (freeN c h 0), .int .u64 (freeN c h 1), .int .u64 (freeN c h 2), .int .u64 (freeN c h 3), .int .u64 (freeN c h 4), .int .u64 (freeN c h 5), .int .u64 (freeN c h 6), .int .u64 (freeN c h 7)]) ∧ Below w.heap.size w w' := by
  go_enter Try.func19, Try.ntmps19
  go_wp2_with fail
  go_loopw [4] (fun i wr => ∃ k : Nat, k ≤ 8 ∧ i = .int .i64 k ∧ Below w.heap.size w wr ∧ Row wr w.heap.size #[.int .u64 c, .int .u64 (h 0), .int .u64 (h 1), .int .u64 (h 2), .int .u64 (h 3), .int .u64 (h 4), .int .u64 (h 5), .int .u64 (h 6), .int .u64 (h 7)] ∧ Row wr (w.heap.size + 1) #[.int .u64 0, .int .u64 0, .int .u64 0, .int .u64 0, .int .u64 0, .int .u64 0, .int .u64 0, .int .u64 0] ∧ Row wr (w.heap.size + 1 + 1) (freeTo c h k)) (fun i _ => 8 - (intOf i).toNat)
  case atStart =>
    refine ⟨0, by omega, rfl, ?_, ?_, ?_, ?_⟩
    · exact ((((Below.refl _ _).alloc (Nat.le_refl _) _).alloc (by simp) _).alloc (by simp <;> omega) _)
    · exact ((Row.new w _ _).alloc _).alloc _
    · exact (Row.new' (w.alloc _) _ _ (by simp)).alloc _
    · exact Row.new' ((w.alloc _).alloc _) (freeTo c h 0) _ (by simp)
  case round =>
    obtain ⟨k, hk, rfl, hbel, hr1, hr2, hr3⟩ := hrel
    have HB := Lib.hid hbel
    have HR1 := Lib.hid hr1
    have HR2 := Lib.hid hr2
    have HR3 := Lib.hid hr3
    clear hbel
    obtain ⟨c1, f1, s1⟩ := hr1
    obtain ⟨c2, f2, s2⟩ := hr2
    obtain ⟨c3, f3, s3⟩ := hr3
    by_cases hlt : k < 8
    · have hg := freeTo_get c h k hlt
      have hu := fun w => upto_calls c h k hh hlt w
      have hz := sumTo_nonneg hh (k + 1) (by omega)
      by_cases h1 : sumTo h (k + 1) < 18446744073709551616
      · rw [uptoOk_yes h1, uptoN_yes h1] at hu
        have HU := Lib.hid hu
        clear hu
        by_cases h2 : sumTo h (k + 1) ≤ c
        · have HSET := Lib.hid (freeTo_set c h k hlt)
          rw [free_yes h2] at HSET
          clear hh h1
          go_wp2_with (go_at_call 26; refine (HU.out _).mono ?_; rintro e w1 ⟨rfl, hb⟩; obtain ⟨hb1, hb2⟩ := bcell hb)
          go_roundw
          case rel =>
            refine ⟨k + 1, by omega, num_step k, ?_, ?_, ?_, ?_⟩
            · exact (HB.out.trans (hb.mono (Nat.le_of_lt s1))).setCell (by simp <;> omega) _
            · exact (HR1.out.later hb).far (by simp <;> omega) _
            · exact (HR2.out.later hb).far (by simp) _
            · rw [← HSET.out]; exact (HR3.out.later hb).set k _
          case measure => simp [intOf]; omega
        · have HSK := Lib.hid (freeTo_skip c h k hlt (free_no h2))
          have h3 : decide (sumTo h (k + 1) ≤ c) = false := decide_eq_false h2
          clear hh h1 h2
          go_wp2_with (go_at_call 26; refine (HU.out _).mono ?_; rintro e w1 ⟨rfl, hb⟩; obtain ⟨hb1, hb2⟩ := bcell hb)
          go_roundw
          case rel =>
            refine ⟨k + 1, by omega, num_step k, ?_, ?_, ?_, ?_⟩
            · exact HB.out.trans (hb.mono (Nat.le_of_lt s1))
            · exact HR1.out.later hb
            · exact HR2.out.later hb
            · rw [← HSK.out]; exact HR3.out.later hb
          case measure => simp [intOf]; omega
      · rw [uptoOk_no h1, uptoN_no h1] at hu
        have HU := Lib.hid hu
        have HSK := Lib.hid (freeTo_skip c h k hlt (free_no (c := c) (by omega)))
        clear hu hh h1
        go_wp2_with (go_at_call 26; refine (HU.out _).mono ?_; rintro e w1 ⟨rfl, hb⟩; obtain ⟨hb1, hb2⟩ := bcell hb)
        go_roundw
        case rel =>
          refine ⟨k + 1, by omega, num_step k, ?_, ?_, ?_, ?_⟩
          · exact HB.out.trans (hb.mono (Nat.le_of_lt s1))
          · exact HR1.out.later hb
          · exact HR2.out.later hb
          · rw [← HSK.out]; exact HR3.out.later hb
        case measure => simp [intOf]; omega
    · have he : freeTo c h k = #[.int .u64 (freeN c h 0), .int .u64 (freeN c h 1), .int .u64 (freeN c h 2), .int .u64 (freeN c h 3), .int .u64 (freeN c h 4), .int .u64 (freeN c h 5), .int .u64 (freeN c h 6), .int .u64 (freeN c h 7)] := by
        obtain rfl : k = 8 := by omega
        exact freeTo_end c h
      clear hh
      go_wp2_with fail
      refine bodyPost_ret (v := .agg #[.int .u64 (freeN c h 0), .int .u64 (freeN c h 1), .int .u64 (freeN c h 2), .int .u64 (freeN c h 3), .int .u64 (freeN c h 4), .int .u64 (freeN c h 5), .int .u64 (freeN c h 6), .int .u64 (freeN c h 7)]) (by simp [results, Try.results19, go_sem, c2]) rfl ⟨rfl, ?_⟩
      have hbe := HB.out
      repeat (first | (with_reducible exact hbe) | ((with_reducible refine Below.setCell ?_ ?_ _); rotate_left; (simp <;> omega)) | ((with_reducible refine Below.alloc ?_ ?_ _); rotate_left; (simp <;> omega)))
end Go.Proofs.Ytbbhbfeafdibmaa
