/- Through tables that are bound one to the next one a packet goes on as often as there are tables, and comes out with what it carried. The walk of the law. -/
import Derived.Test.YtokkdjgejeigiaaCTabs
import Derived.Deep.DeepCutAuto
import Derived.Deep.CutRange
import Derived.IntWalk
namespace Go.Proofs.Ytokkdjgejeigiaa
open Go.RowKit
attribute [local go_sem] cell_set_self
set_option linter.unusedVariables false

/-- The first k tables are made. -/
structure Made (M : Nat) (w : World) (base : Nat) (v : Value) (k : Nat) (f : Nat → Nat) : Prop where
  out : OutRow w base 23 1 v ((List.range k).map fun j => #[.pointer (some ⟨f j, 0, none⟩)])
  tabs : ∀ j, j < k → TabAt M w j (f j)
theorem Made.later {M k base : Nat} {w w' : World} {v : Value} {f : Nat → Nat} (h : Made M w base v k f) (hb : Below w.heap.size w w') : Made M w' base v k f := ⟨h.out.later hb, fun j hj => (h.tabs j hj).later hb⟩
theorem Made.form {M k base : Nat} {w : World} {v : Value} {f : Nat → Nat} (h : Made M w base v k f) : ∃ A c, v = .slice A k c := by
  obtain ⟨A, c, h⟩ := h.out.form
  rw [List.length_map, List.length_range] at h
  exact ⟨A, c, h⟩
/-- How the packet stands at the head of a round. -/
def Round2 (M : Nat) (t : Int) (s : ByteArray) (W0 : World) (i : Value) (wx : World) : Prop := ∃ (j : Nat) (v : Value) (U : Int), j ≤ M ∧ i = .int .i64 (j : Int) ∧ Below W0.heap.size W0 wx ∧ Row wx W0.heap.size #[v, .int .i64 7, .int .i64 U, .string s] ∧ Good M t wx j v U
theorem Made.addr {M base k : Nat} {w : World} {A : Option Addr} {c : Nat} {f : Nat → Nat} (h : Made M w base (.slice A k c) k f) (hk : 0 < k) : ∃ ad, A = some ad ∧ ad.block < w.heap.size ∧ ∀ j, j < k → w.cell? (ad.add j) = some (.pointer (some ⟨f j, 0, none⟩)) := by
  obtain ⟨_, h2⟩ := h.out.strip_map
  obtain ⟨ad, e, hl, hc⟩ := h2 hk
  refine ⟨ad, e, hl, fun j hj => ?_⟩
  have := hc j hj 0 (by omega)
  rw [Nat.mul_one, addr_add_add, Nat.add_zero] at this
  exact this
theorem Made.snoc {M k base B : Nat} {w w' : World} {A : Option Addr} {c : Nat} {v' : Value} {f : Nat → Nat} (h : Made M w base (.slice A k c) k f) (ht : TabAt M w k B) (ho : OutRow w' base 23 1 v' (((List.range k).map fun j => #[.pointer (some ⟨f j, 0, none⟩)]) ++ [#[.pointer (some ⟨B, 0, none⟩)]])) (hg : w.grownBy w' (Value.slice A k c).ownBlock) : Made M w' base v' (k + 1) (fun j => if j < k then f j else B) := by
  refine ⟨?_, fun j hj => ?_⟩
  · rw [rows_snoc] at ho
    have e : (fun i => if i < k then #[Value.pointer (some ⟨f i, 0, none⟩)] else #[Value.pointer (some ⟨B, 0, none⟩)]) = fun j => #[Value.pointer (some ⟨if j < k then f j else B, 0, none⟩)] := by
      funext i
      split <;> rfl
    rw [e] at ho
    exact ho
  · by_cases hk : j < k
    · simp only [hk, ↓reduceIte]
      exact (h.tabs j hk).kept h.out.1 hg
    · obtain rfl : j = k := by omega
      simp only [Nat.lt_irrefl, ↓reduceIte]
      exact ht.kept h.out.1 hg
theorem infoPtr : Info Try.prog 23 (.pointer none) 1 8 := by unfold Info; kernel_rfl
set_option maxRecDepth 100000 in
set_option maxHeartbeats 16000000 in
theorem WholeChain_walk (w : World) (n t : Int) (s : ByteArray) (hn0 : 0 ≤ n) (hn1 : n < 256) (ht0 : 0 ≤ t) (ht1 : t < 256) : Calls Try.prog 3 #[.int .u8 n, .int .u8 t, .string s] w fun e w' => e = .returned (.bool true) ∧ Below w.heap.size w w' := by
  have m0 : 2 ≤ n % 6 + 2 := by omega
  have m1 : n % 6 + 2 ≤ 7 := by omega
  go_enter Try.func3, Try.ntmps3
  go_wp2
  obtain ⟨M, hM⟩ : ∃ M : Nat, n % 6 + 2 = (M : Int) := ⟨(n % 6 + 2).toNat, by omega⟩
  rw [hM] at m0 m1 ⊢
  clear hM
  have mm0 : 2 ≤ M := by omega
  have mm1 : M ≤ 7 := by omega
  go_loopw [8, 26] (fun l i wr => ∃ (k : Nat) (f : Nat → Nat), k ≤ M ∧ i = .int .i64 (k : Int) ∧ Below w.heap.size w wr ∧ Made M wr w.heap.size l k f) (fun _ i _ => M - (intOf i).toNat)
  case atStart => exact ⟨0, fun _ => 0, by omega, rfl, Below.refl _ _, OutRow.nil _ _ _ _, fun j hj => by omega⟩
  case round =>
    obtain ⟨k, f, hk, rfl, hbel, hmade⟩ := hrel
    have HW := Lib.hid hbel
    have HM := Lib.hid hmade
    have hws := hbel.size
    obtain ⟨A, c, rfl⟩ := hmade.form
    clear hbel hmade
    by_cases hlt : k < M
    · have i0 : (0 : Int) ≤ (k : Int) := by omega
      have i1 : (k : Int) < (M : Int) := by omega
      by_cases hl : k + 1 = M
      · have hd : ((k : Int) == (M : Int) - 1) = true := by simp; omega
        have HLB := Lib.hid (show lab M k = 3 from by unfold lab; rw [if_pos hl])
        have hk0 : (0 : Int) < (k : Int) := by omega
        clear hl
        go_upto_region 12 with (go_at_call 4; (with_reducible refine (New_calls _).mono ?_); rintro e w1 ⟨rfl, rfl⟩)
        have HT := Lib.hid ((Blk.new wr 45 #[.slice none 0 0, .int .i64 4, .slice none 0 0, .int .i64 4, .bool true]).alloc (.cells #[.int .i64 ((k : Int) + 1), .int .i64 3] 26))
        have HO := Lib.hid (show Blk ((wr.alloc (.cells #[.slice none 0 0, .int .i64 4, .slice none 0 0, .int .i64 4, .bool true] 45)).alloc (.cells #[.int .i64 ((k : Int) + 1), .int .i64 3] 26)) (wr.heap.size + 1) 26 #[.int .i64 ((k : Int) + 1), .int .i64 3] from by have := Blk.new (wr.alloc (.cells #[.slice none 0 0, .int .i64 4, .slice none 0 0, .int .i64 4, .bool true] 45)) 26 #[.int .i64 ((k : Int) + 1), .int .i64 3]; simpa using this)
        have HB := Lib.hid (show Below wr.heap.size wr ((wr.alloc (.cells #[.slice none 0 0, .int .i64 4, .slice none 0 0, .int .i64 4, .bool true] 45)).alloc (.cells #[.int .i64 ((k : Int) + 1), .int .i64 3] 26)) from (by repeat (first | (with_reducible exact Below.refl _ _) | (with_reducible assumption) | ((with_reducible refine Below.setCell ?_ ?_ _); rotate_left; (first | omega | (simp <;> omega))) | ((with_reducible refine Below.alloc ?_ ?_ _); rotate_left; (first | omega | (simp <;> omega))) | ((with_reducible refine Below.drew ?_)) | ((with_reducible refine below_drewN ?_ _)) | ((with_reducible refine Below.trans ?_ (Below.mono (by with_reducible assumption) ?_)); rotate_left; (first | omega | (simp <;> omega))))))
        have hsz : wr.heap.size + 1 < ((wr.alloc (.cells #[.slice none 0 0, .int .i64 4, .slice none 0 0, .int .i64 4, .bool true] 45)).alloc (.cells #[.int .i64 ((k : Int) + 1), .int .i64 3] 26)).heap.size := by simp
        generalize (wr.alloc (.cells #[.slice none 0 0, .int .i64 4, .slice none 0 0, .int .i64 4, .bool true] 45)).alloc (.cells #[.int .i64 ((k : Int) + 1), .int .i64 3] 26) = W1 at *
        have HMap := Lib.hid fun (w' : World) (hb : Blk w' wr.heap.size 45 #[.slice none 0 0, .int .i64 4, .slice none 0 0, .int .i64 4, .bool true]) => Map_calls w' wr.heap.size (.slice none 0 0) (.slice none 0 0) 7 ((k : Int) + 1) 3 hb (by omega) (by omega) (by omega) (by omega) (by omega)
        obtain ⟨oc0, of0, os0⟩ := HO.out.row
        go_upto_region 13 with (go_at_call 5; (with_reducible refine (HMap.out _ HT.out).mono ?_); rintro e w2 ⟨rfl, g, cg, hbk, hat, hge, hgr⟩; have HT := Lib.hid (show Blk w2 wr.heap.size 45 #[.slice none 0 0, .int .i64 4, .slice (some ⟨g, 0, none⟩) 1 cg, .int .i64 4, .bool true] from by simpa using hbk); have HO := Lib.hid (HO.out.grown hgr (by simp)); have HA := Lib.hid hat; have HB := Lib.hid (HB.out.grown hgr HB.out.size (by rintro j hj; injection hj with hj; omega)); have hs2 := hgr.size; clear oc0 of0 os0 hbk hat hgr hge; obtain ⟨oc0, of0, os0⟩ := HO.out.row)
        have HBi := Lib.hid fun (w' : World) (hb : Blk w' wr.heap.size 45 #[.slice none 0 0, .int .i64 4, .slice (some ⟨g, 0, none⟩) 1 cg, .int .i64 4, .bool true]) => Bind_calls w' wr.heap.size (.slice none 0 0) (.slice (some ⟨g, 0, none⟩) 1 cg) (15 + (k : Int)) ((k : Int) + 1) 3 hb (by omega) (by omega) (by omega) (by omega) (by omega)
        go_upto_region 15 with (go_at_call 6; (with_reducible refine (HBi.out _ HT.out).mono ?_); rintro e w3 ⟨rfl, h, ch, hbk, hat, hge, hgr⟩; have hne : some g ≠ some wr.heap.size := (fun e => by injection e with e; have := HA.out.lt; obtain ⟨cur, hb1, _⟩ := HA.out; have h2 := HT.out; unfold Blk at hb1 h2; rw [e] at hb1; rw [h2] at hb1; injection hb1 with hb1; injection hb1 with _ h3; exact absurd h3 (by decide)); have HT := Lib.hid (show Blk w3 wr.heap.size 45 #[.slice (some ⟨h, 0, none⟩) 1 ch, .int .i64 4, .slice (some ⟨g, 0, none⟩) 1 cg, .int .i64 4, .bool true] from by simpa using hbk); have HA := Lib.hid (HA.out.grown hgr hne); have HH := Lib.hid hat; have HB := Lib.hid (HB.out.grown hgr HB.out.size (by rintro j hj; injection hj with hj; omega)); clear oc0 of0 os0 hbk hat hgr hge hne)
        have HTA := Lib.hid (show TabAt M w3 k wr.heap.size from ⟨_, _, _, HT.out, by rw [HLB.out]; exact HA.out, fun _ => ⟨_, _, rfl, by rw [HLB.out]; exact HH.out⟩⟩)
        go_wp2_with (at_builtin; have HR := Lib.hid (HM.out.later (HB.out.alloc HB.out.size (.cells #[.pointer (some ⟨wr.heap.size, 0, none⟩)] 23))); have HTA := Lib.hid (HTA.out.later (show Below w3.heap.size w3 (w3.alloc (.cells #[.pointer (some ⟨wr.heap.size, 0, none⟩)] 23)) from (by repeat (first | (with_reducible exact Below.refl _ _) | (with_reducible assumption) | ((with_reducible refine Below.setCell ?_ ?_ _); rotate_left; (first | omega | (simp <;> omega))) | ((with_reducible refine Below.alloc ?_ ?_ _); rotate_left; (first | omega | (simp <;> omega))) | ((with_reducible refine Below.drew ?_)) | ((with_reducible refine below_drewN ?_ _)) | ((with_reducible refine Below.trans ?_ (Below.mono (by with_reducible assumption) ?_)); rotate_left; (first | omega | (simp <;> omega))))))); have HBB := Lib.hid (HB.out.alloc HB.out.size (.cells #[.pointer (some ⟨wr.heap.size, 0, none⟩)] 23)); have hbase := HBB.out.size; refine wpList_app _ rfl (.tmp 54) (.tmp 56) 22 rfl w.heap.size 23 _ 1 8 Try.underlying22 infoPtr rfl (by omega) (.slice A k c) ((List.range k).map fun j => #[.pointer (some ⟨f j, 0, none⟩)]) rfl HR.out.out w3.heap.size 1 #[.pointer (some ⟨wr.heap.size, 0, none⟩)] rfl rfl (new_row _ _ _) (by intro u hu; simp at hu; rcases hu with rfl; rfl) (by simp; omega) (by omega) (by omega) ?_; intro v' w9 ho hg9 hbb; have HZ := Lib.hid (HR.out.snoc HTA.out ho hg9); have HB9 := Lib.hid (HW.out.trans ((HBB.out.mono hws).trans (hbb _ (Nat.le_refl _)))); clear ho hg9 hbb hbase)
        go_roundw
        case rel => exact ⟨k + 1, _, by omega, num_step k, HB9.out, HZ.out⟩
        case measure => exact measure_step hlt

      · have hd : ((k : Int) == (M : Int) - 1) = false := by simp; omega
        have HLB := Lib.hid (show lab M k = 16 + (k : Int) from by unfold lab; rw [if_neg hl])
        clear hl
        rcases Nat.eq_zero_or_pos k with hk0 | hk0
        · have hk1 : (k : Int) ≤ 0 := by omega
          clear hk0
          go_upto_region 12 with (go_at_call 4; (with_reducible refine (New_calls _).mono ?_); rintro e w1 ⟨rfl, rfl⟩)
          have HT := Lib.hid ((Blk.new wr 45 #[.slice none 0 0, .int .i64 4, .slice none 0 0, .int .i64 4, .bool true]).alloc (.cells #[.int .i64 ((k : Int) + 1), .int .i64 (16 + (k : Int))] 26))
          have HO := Lib.hid (show Blk ((wr.alloc (.cells #[.slice none 0 0, .int .i64 4, .slice none 0 0, .int .i64 4, .bool true] 45)).alloc (.cells #[.int .i64 ((k : Int) + 1), .int .i64 (16 + (k : Int))] 26)) (wr.heap.size + 1) 26 #[.int .i64 ((k : Int) + 1), .int .i64 (16 + (k : Int))] from by have := Blk.new (wr.alloc (.cells #[.slice none 0 0, .int .i64 4, .slice none 0 0, .int .i64 4, .bool true] 45)) 26 #[.int .i64 ((k : Int) + 1), .int .i64 (16 + (k : Int))]; simpa using this)
          have HB := Lib.hid (show Below wr.heap.size wr ((wr.alloc (.cells #[.slice none 0 0, .int .i64 4, .slice none 0 0, .int .i64 4, .bool true] 45)).alloc (.cells #[.int .i64 ((k : Int) + 1), .int .i64 (16 + (k : Int))] 26)) from (by repeat (first | (with_reducible exact Below.refl _ _) | (with_reducible assumption) | ((with_reducible refine Below.setCell ?_ ?_ _); rotate_left; (first | omega | (simp <;> omega))) | ((with_reducible refine Below.alloc ?_ ?_ _); rotate_left; (first | omega | (simp <;> omega))) | ((with_reducible refine Below.drew ?_)) | ((with_reducible refine below_drewN ?_ _)) | ((with_reducible refine Below.trans ?_ (Below.mono (by with_reducible assumption) ?_)); rotate_left; (first | omega | (simp <;> omega))))))
          have hsz : wr.heap.size + 1 < ((wr.alloc (.cells #[.slice none 0 0, .int .i64 4, .slice none 0 0, .int .i64 4, .bool true] 45)).alloc (.cells #[.int .i64 ((k : Int) + 1), .int .i64 (16 + (k : Int))] 26)).heap.size := by simp
          generalize (wr.alloc (.cells #[.slice none 0 0, .int .i64 4, .slice none 0 0, .int .i64 4, .bool true] 45)).alloc (.cells #[.int .i64 ((k : Int) + 1), .int .i64 (16 + (k : Int))] 26) = W1 at *
          have HMap := Lib.hid fun (w' : World) (hb : Blk w' wr.heap.size 45 #[.slice none 0 0, .int .i64 4, .slice none 0 0, .int .i64 4, .bool true]) => Map_calls w' wr.heap.size (.slice none 0 0) (.slice none 0 0) 7 ((k : Int) + 1) (16 + (k : Int)) hb (by omega) (by omega) (by omega) (by omega) (by omega)
          obtain ⟨oc0, of0, os0⟩ := HO.out.row
          go_upto_region 13 with (go_at_call 5; (with_reducible refine (HMap.out _ HT.out).mono ?_); rintro e w2 ⟨rfl, g, cg, hbk, hat, hge, hgr⟩; have HT := Lib.hid (show Blk w2 wr.heap.size 45 #[.slice none 0 0, .int .i64 4, .slice (some ⟨g, 0, none⟩) 1 cg, .int .i64 4, .bool true] from by simpa using hbk); have HO := Lib.hid (HO.out.grown hgr (by simp)); have HA := Lib.hid hat; have HB := Lib.hid (HB.out.grown hgr HB.out.size (by rintro j hj; injection hj with hj; omega)); have hs2 := hgr.size; clear oc0 of0 os0 hbk hat hgr hge; obtain ⟨oc0, of0, os0⟩ := HO.out.row)
          have HTA := Lib.hid (show TabAt M w2 k wr.heap.size from ⟨_, _, _, HT.out, by rw [HLB.out]; exact HA.out, fun h => by omega⟩)
          go_wp2_with (at_builtin; have HR := Lib.hid (HM.out.later (HB.out.alloc HB.out.size (.cells #[.pointer (some ⟨wr.heap.size, 0, none⟩)] 23))); have HTA := Lib.hid (HTA.out.later (show Below w2.heap.size w2 (w2.alloc (.cells #[.pointer (some ⟨wr.heap.size, 0, none⟩)] 23)) from (by repeat (first | (with_reducible exact Below.refl _ _) | (with_reducible assumption) | ((with_reducible refine Below.setCell ?_ ?_ _); rotate_left; (first | omega | (simp <;> omega))) | ((with_reducible refine Below.alloc ?_ ?_ _); rotate_left; (first | omega | (simp <;> omega))) | ((with_reducible refine Below.drew ?_)) | ((with_reducible refine below_drewN ?_ _)) | ((with_reducible refine Below.trans ?_ (Below.mono (by with_reducible assumption) ?_)); rotate_left; (first | omega | (simp <;> omega))))))); have HBB := Lib.hid (HB.out.alloc HB.out.size (.cells #[.pointer (some ⟨wr.heap.size, 0, none⟩)] 23)); have hbase := HBB.out.size; refine wpList_app _ rfl (.tmp 54) (.tmp 56) 22 rfl w.heap.size 23 _ 1 8 Try.underlying22 infoPtr rfl (by omega) (.slice A k c) ((List.range k).map fun j => #[.pointer (some ⟨f j, 0, none⟩)]) rfl HR.out.out w2.heap.size 1 #[.pointer (some ⟨wr.heap.size, 0, none⟩)] rfl rfl (new_row _ _ _) (by intro u hu; simp at hu; rcases hu with rfl; rfl) (by simp; omega) (by omega) (by omega) ?_; intro v' w9 ho hg9 hbb; have HZ := Lib.hid (HR.out.snoc HTA.out ho hg9); have HB9 := Lib.hid (HW.out.trans ((HBB.out.mono hws).trans (hbb _ (Nat.le_refl _)))); clear ho hg9 hbb hbase)
          go_roundw
          case rel => exact ⟨k + 1, _, by omega, num_step k, HB9.out, HZ.out⟩
          case measure => exact measure_step hlt

        · have hk1 : (0 : Int) < (k : Int) := by omega
          clear hk0
          go_upto_region 12 with (go_at_call 4; (with_reducible refine (New_calls _).mono ?_); rintro e w1 ⟨rfl, rfl⟩)
          have HT := Lib.hid ((Blk.new wr 45 #[.slice none 0 0, .int .i64 4, .slice none 0 0, .int .i64 4, .bool true]).alloc (.cells #[.int .i64 ((k : Int) + 1), .int .i64 (16 + (k : Int))] 26))
          have HO := Lib.hid (show Blk ((wr.alloc (.cells #[.slice none 0 0, .int .i64 4, .slice none 0 0, .int .i64 4, .bool true] 45)).alloc (.cells #[.int .i64 ((k : Int) + 1), .int .i64 (16 + (k : Int))] 26)) (wr.heap.size + 1) 26 #[.int .i64 ((k : Int) + 1), .int .i64 (16 + (k : Int))] from by have := Blk.new (wr.alloc (.cells #[.slice none 0 0, .int .i64 4, .slice none 0 0, .int .i64 4, .bool true] 45)) 26 #[.int .i64 ((k : Int) + 1), .int .i64 (16 + (k : Int))]; simpa using this)
          have HB := Lib.hid (show Below wr.heap.size wr ((wr.alloc (.cells #[.slice none 0 0, .int .i64 4, .slice none 0 0, .int .i64 4, .bool true] 45)).alloc (.cells #[.int .i64 ((k : Int) + 1), .int .i64 (16 + (k : Int))] 26)) from (by repeat (first | (with_reducible exact Below.refl _ _) | (with_reducible assumption) | ((with_reducible refine Below.setCell ?_ ?_ _); rotate_left; (first | omega | (simp <;> omega))) | ((with_reducible refine Below.alloc ?_ ?_ _); rotate_left; (first | omega | (simp <;> omega))) | ((with_reducible refine Below.drew ?_)) | ((with_reducible refine below_drewN ?_ _)) | ((with_reducible refine Below.trans ?_ (Below.mono (by with_reducible assumption) ?_)); rotate_left; (first | omega | (simp <;> omega))))))
          have hsz : wr.heap.size + 1 < ((wr.alloc (.cells #[.slice none 0 0, .int .i64 4, .slice none 0 0, .int .i64 4, .bool true] 45)).alloc (.cells #[.int .i64 ((k : Int) + 1), .int .i64 (16 + (k : Int))] 26)).heap.size := by simp
          generalize (wr.alloc (.cells #[.slice none 0 0, .int .i64 4, .slice none 0 0, .int .i64 4, .bool true] 45)).alloc (.cells #[.int .i64 ((k : Int) + 1), .int .i64 (16 + (k : Int))] 26) = W1 at *
          have HMap := Lib.hid fun (w' : World) (hb : Blk w' wr.heap.size 45 #[.slice none 0 0, .int .i64 4, .slice none 0 0, .int .i64 4, .bool true]) => Map_calls w' wr.heap.size (.slice none 0 0) (.slice none 0 0) 7 ((k : Int) + 1) (16 + (k : Int)) hb (by omega) (by omega) (by omega) (by omega) (by omega)
          obtain ⟨oc0, of0, os0⟩ := HO.out.row
          go_upto_region 13 with (go_at_call 5; (with_reducible refine (HMap.out _ HT.out).mono ?_); rintro e w2 ⟨rfl, g, cg, hbk, hat, hge, hgr⟩; have HT := Lib.hid (show Blk w2 wr.heap.size 45 #[.slice none 0 0, .int .i64 4, .slice (some ⟨g, 0, none⟩) 1 cg, .int .i64 4, .bool true] from by simpa using hbk); have HO := Lib.hid (HO.out.grown hgr (by simp)); have HA := Lib.hid hat; have HB := Lib.hid (HB.out.grown hgr HB.out.size (by rintro j hj; injection hj with hj; omega)); have hs2 := hgr.size; clear oc0 of0 os0 hbk hat hgr hge; obtain ⟨oc0, of0, os0⟩ := HO.out.row)
          have HBi := Lib.hid fun (w' : World) (hb : Blk w' wr.heap.size 45 #[.slice none 0 0, .int .i64 4, .slice (some ⟨g, 0, none⟩) 1 cg, .int .i64 4, .bool true]) => Bind_calls w' wr.heap.size (.slice none 0 0) (.slice (some ⟨g, 0, none⟩) 1 cg) (15 + (k : Int)) ((k : Int) + 1) (16 + (k : Int)) hb (by omega) (by omega) (by omega) (by omega) (by omega)
          go_upto_region 15 with (go_at_call 6; (with_reducible refine (HBi.out _ HT.out).mono ?_); rintro e w3 ⟨rfl, h, ch, hbk, hat, hge, hgr⟩; have hne : some g ≠ some wr.heap.size := (fun e => by injection e with e; have := HA.out.lt; obtain ⟨cur, hb1, _⟩ := HA.out; have h2 := HT.out; unfold Blk at hb1 h2; rw [e] at hb1; rw [h2] at hb1; injection hb1 with hb1; injection hb1 with _ h3; exact absurd h3 (by decide)); have HT := Lib.hid (show Blk w3 wr.heap.size 45 #[.slice (some ⟨h, 0, none⟩) 1 ch, .int .i64 4, .slice (some ⟨g, 0, none⟩) 1 cg, .int .i64 4, .bool true] from by simpa using hbk); have HA := Lib.hid (HA.out.grown hgr hne); have HH := Lib.hid hat; have HB := Lib.hid (HB.out.grown hgr HB.out.size (by rintro j hj; injection hj with hj; omega)); clear oc0 of0 os0 hbk hat hgr hge hne)
          have HTA := Lib.hid (show TabAt M w3 k wr.heap.size from ⟨_, _, _, HT.out, by rw [HLB.out]; exact HA.out, fun _ => ⟨_, _, rfl, by rw [HLB.out]; exact HH.out⟩⟩)
          go_wp2_with (at_builtin; have HR := Lib.hid (HM.out.later (HB.out.alloc HB.out.size (.cells #[.pointer (some ⟨wr.heap.size, 0, none⟩)] 23))); have HTA := Lib.hid (HTA.out.later (show Below w3.heap.size w3 (w3.alloc (.cells #[.pointer (some ⟨wr.heap.size, 0, none⟩)] 23)) from (by repeat (first | (with_reducible exact Below.refl _ _) | (with_reducible assumption) | ((with_reducible refine Below.setCell ?_ ?_ _); rotate_left; (first | omega | (simp <;> omega))) | ((with_reducible refine Below.alloc ?_ ?_ _); rotate_left; (first | omega | (simp <;> omega))) | ((with_reducible refine Below.drew ?_)) | ((with_reducible refine below_drewN ?_ _)) | ((with_reducible refine Below.trans ?_ (Below.mono (by with_reducible assumption) ?_)); rotate_left; (first | omega | (simp <;> omega))))))); have HBB := Lib.hid (HB.out.alloc HB.out.size (.cells #[.pointer (some ⟨wr.heap.size, 0, none⟩)] 23)); have hbase := HBB.out.size; refine wpList_app _ rfl (.tmp 54) (.tmp 56) 22 rfl w.heap.size 23 _ 1 8 Try.underlying22 infoPtr rfl (by omega) (.slice A k c) ((List.range k).map fun j => #[.pointer (some ⟨f j, 0, none⟩)]) rfl HR.out.out w3.heap.size 1 #[.pointer (some ⟨wr.heap.size, 0, none⟩)] rfl rfl (new_row _ _ _) (by intro u hu; simp at hu; rcases hu with rfl; rfl) (by simp; omega) (by omega) (by omega) ?_; intro v' w9 ho hg9 hbb; have HZ := Lib.hid (HR.out.snoc HTA.out ho hg9); have HB9 := Lib.hid (HW.out.trans ((HBB.out.mono hws).trans (hbb _ (Nat.le_refl _)))); clear ho hg9 hbb hbase)
          go_roundw
          case rel => exact ⟨k + 1, _, by omega, num_step k, HB9.out, HZ.out⟩
          case measure => exact measure_step hlt

    · obtain rfl : M = k := by omega
      rename World => W0
      obtain ⟨ad, rfl, hadb, hadc⟩ := HM.out.addr (by omega)
      have HP := Lib.hid (Row.new W0 #[.slice none 0 0, .int .i64 7, .int .i64 t, .string s] 31)
      have HM1 := Lib.hid (HM.out.later (show Below W0.heap.size W0 (W0.alloc (.cells #[.slice none 0 0, .int .i64 7, .int .i64 t, .string s] 31)) from (by repeat (first | (with_reducible exact Below.refl _ _) | (with_reducible assumption) | ((with_reducible refine Below.setCell ?_ ?_ _); rotate_left; (first | omega | (simp <;> omega))) | ((with_reducible refine Below.alloc ?_ ?_ _); rotate_left; (first | omega | (simp <;> omega))) | ((with_reducible refine Below.drew ?_)) | ((with_reducible refine below_drewN ?_ _)) | ((with_reducible refine Below.trans ?_ (Below.mono (by with_reducible assumption) ?_)); rotate_left; (first | omega | (simp <;> omega)))))))
      have HB1 := Lib.hid (HW.out.alloc hws (.cells #[.slice none 0 0, .int .i64 7, .int .i64 t, .string s] 31))
      have HAD := Lib.hid fun (w' : World) (hb : Below W0.heap.size W0 w') (j : Nat) (hj : j < M) => (show w'.cell? (ad.add j) = some (.pointer (some ⟨f j, 0, none⟩)) from (hb.cell (by rw [add_block]; exact hadb)).trans (hadc j hj))
      have hbw : Below W0.heap.size W0 (W0.alloc (.cells #[.slice none 0 0, .int .i64 7, .int .i64 t, .string s] 31)) := (by repeat (first | (with_reducible exact Below.refl _ _) | (with_reducible assumption) | ((with_reducible refine Below.setCell ?_ ?_ _); rotate_left; (first | omega | (simp <;> omega))) | ((with_reducible refine Below.alloc ?_ ?_ _); rotate_left; (first | omega | (simp <;> omega))) | ((with_reducible refine Below.drew ?_)) | ((with_reducible refine below_drewN ?_ _)) | ((with_reducible refine Below.trans ?_ (Below.mono (by with_reducible assumption) ?_)); rotate_left; (first | omega | (simp <;> omega)))))
      have HBW := Lib.hid hbw
      clear hbw hadc
      by_cases hs : s.size ≤ 4096
      · have hs1 : (s.size : Int) ≤ 4096 := by omega
        go_upto_region 23 with (fail)
        generalize W0.alloc (.cells #[.slice none 0 0, .int .i64 7, .int .i64 t, .string s] 31) = W at *
        have HI := Lib.hid (show 0 ≤ M ∧ Below W0.heap.size W0 W ∧ Row W W0.heap.size #[.slice none 0 0, .int .i64 7, .int .i64 t, .string s] ∧ Good M t W 0 (.slice none 0 0) t from ⟨by omega, HBW.out, HP.out, by omega, .inl ⟨rfl, rfl, rfl⟩⟩)
        clear HP HM1 HB1 HBW
        go_wp2
        go_loopw [17] (fun i wr => Round2 M t s W0 i wr) (fun i _ => M - (intOf i).toNat)
        case atStart => exact ⟨0, _, _, HI.out.1, by rfl, HI.out.2.1, HI.out.2.2.1, HI.out.2.2.2⟩
        case round =>
          clear HI
          obtain ⟨j, v, U, hj, rfl, hbx, hrow, hgood⟩ := hrel
          have HBX := Lib.hid hbx
          have HP := Lib.hid hrow
          have HGo := Lib.hid hgood
          have hxs := hbx.size
          have hPx : W0.heap.size < wr.heap.size := hrow.2.2
          have hadx : ad.block < wr.heap.size := by omega
          clear hbx hrow hgood
          by_cases hlj : j < M
          · have j0 : (0 : Int) ≤ (j : Int) := by omega
            have j1 : (j : Int) < (M : Int) := by omega
            have c2 := HAD.out wr HBX.out j hlj
            have hadj : (ad.add j).block < wr.heap.size := by rw [add_block]; exact hadx
            obtain ⟨c1, f1, s1⟩ := HP.out
            have HSt := Lib.hid fun (w' : World) (hb : Below wr.heap.size wr w') => step_calls M t U s w' j (f j) v mm0 mm1 hlj ht0 (by omega) hs (((HM.out.later HBX.out).tabs j hlj).later hb) (HGo.out.later hb)
            go_upto_region 25 with (fail)
            go_outline
            by_cases hT : t = (j : Int)
            · have HS := Lib.hid fun (w' : World) (hb : Below wr.heap.size wr w') => (show Calls Try.prog 7 #[.pointer (some ⟨f j, 0, none⟩), .agg #[v, .int .i64 7, .int .i64 U, .string s]] w' (Fell3 w' 10) from (HSt.out w' hb).mono fun e w'' h => by unfold StepPost at h; rwa [if_pos hT] at h)
              have hT2 : ((j : Int) == t) = true := by simp [hT]
              clear hT
              go_region_law (first | (go_simp; go_at_call 7; (with_reducible refine (HS.out _ (by repeat (first | (with_reducible exact Below.refl _ _) | (with_reducible assumption) | ((with_reducible refine Below.setCell ?_ ?_ _); rotate_left; (first | omega | (simp <;> omega))) | ((with_reducible refine Below.alloc ?_ ?_ _); rotate_left; (first | omega | (simp <;> omega))) | ((with_reducible refine Below.drew ?_)) | ((with_reducible refine below_drewN ?_ _)) | ((with_reducible refine Below.trans ?_ (Below.mono (by with_reducible assumption) ?_)); rotate_left; (first | omega | (simp <;> omega)))))).mono ?_); rintro e w2 ⟨rfl, hb⟩; have hz0 := (Row.new' wr.drew (B := wr.heap.size) #[.slice none 0 0, .int .i64 0, .int .i64 0, .string ⟨#[]⟩] 31 rfl).later hb; obtain ⟨cz, fz, sz⟩ := hz0) | (go_simp; go_at_call 7; (with_reducible refine (HS.out _ (by repeat (first | (with_reducible exact Below.refl _ _) | (with_reducible assumption) | ((with_reducible refine Below.setCell ?_ ?_ _); rotate_left; (first | omega | (simp <;> omega))) | ((with_reducible refine Below.alloc ?_ ?_ _); rotate_left; (first | omega | (simp <;> omega))) | ((with_reducible refine Below.drew ?_)) | ((with_reducible refine below_drewN ?_ _)) | ((with_reducible refine Below.trans ?_ (Below.mono (by with_reducible assumption) ?_)); rotate_left; (first | omega | (simp <;> omega)))))).mono ?_); rintro e w2 ⟨rfl, hb⟩))
              all_goals
                have hB1 := HW.out.trans (HBX.out.mono hws)
                have hB1s := hB1.size
                have hbs : wr.heap.size ≤ w2.heap.size := by have h := hb.size; first | exact h | (simp at h; omega)
                go_wp2
                go_ret
                exact ⟨rfl, (by repeat (first | (with_reducible exact Below.refl _ _) | (with_reducible assumption) | ((with_reducible refine Below.setCell ?_ ?_ _); rotate_left; (first | omega | (simp <;> omega))) | ((with_reducible refine Below.alloc ?_ ?_ _); rotate_left; (first | omega | (simp <;> omega))) | ((with_reducible refine Below.drew ?_)) | ((with_reducible refine below_drewN ?_ _)) | ((with_reducible refine Below.trans ?_ (Below.mono (by with_reducible assumption) ?_)); rotate_left; (first | omega | (simp <;> omega)))))⟩
            · have HS := Lib.hid fun (w' : World) (hb : Below wr.heap.size wr w') => (show Calls Try.prog 7 #[.pointer (some ⟨f j, 0, none⟩), .agg #[v, .int .i64 7, .int .i64 U, .string s]] w' (fun e w'' => ∃ A' n' c' U', Told3 w' ((j : Int) + 1) (.slice A' n' c') U' s e w'' ∧ Good M t w'' (j + 1) (.slice A' n' c') U' ∧ ∀ p, Value.slice A' n' c' = .slice (some ⟨p, 0, none⟩) 1 1 → w'.heap.size ≤ p) from (HSt.out w' hb).mono fun e w'' h => by
                unfold StepPost at h
                rw [if_neg hT] at h
                obtain ⟨v', U', h1, h2, h3⟩ := h
                obtain ⟨A', n', c', rfl⟩ := h2.form
                exact ⟨A', n', c', U', h1, h2, h3⟩)
              clear hT HSt
              go_cut [18, 19, 20] from 80 to 89 (fun nx q e wy => nx = .int .i64 ((j : Int) + 1) ∧ e = .int .i64 0 ∧ ∃ A' n' c' U' b, q = .pointer (some ⟨b, 0, none⟩) ∧ Row wy b #[.slice A' n' c', .int .i64 7, .int .i64 U', .string s] ∧ wr.heap.size ≤ b ∧ Good M t wy (j + 1) (.slice A' n' c') U' ∧ Below wr.heap.size wr wy ∧ ∀ p, Value.slice A' n' c' = .slice (some ⟨p, 0, none⟩) 1 1 → wr.heap.size ≤ p)
              case first =>
                go_region_law (first | (go_simp; go_at_call 7; (with_reducible refine (HS.out _ (by repeat (first | (with_reducible exact Below.refl _ _) | (with_reducible assumption) | ((with_reducible refine Below.setCell ?_ ?_ _); rotate_left; (first | omega | (simp <;> omega))) | ((with_reducible refine Below.alloc ?_ ?_ _); rotate_left; (first | omega | (simp <;> omega))) | ((with_reducible refine Below.drew ?_)) | ((with_reducible refine below_drewN ?_ _)) | ((with_reducible refine Below.trans ?_ (Below.mono (by with_reducible assumption) ?_)); rotate_left; (first | omega | (simp <;> omega)))))).mono ?_); rintro e w2 ⟨A', n', c', U', ⟨rfl, hb⟩, hgo, hfr⟩; have hz0 := (Row.new' wr.drew (B := wr.heap.size) #[.slice none 0 0, .int .i64 0, .int .i64 0, .string ⟨#[]⟩] 31 rfl).later hb; have HGN := Lib.hid hgo; have HFR := Lib.hid hfr; have HZ := Lib.hid hz0; clear hgo hfr; obtain ⟨cz, fz, sz⟩ := hz0) | (go_simp; go_at_call 7; (with_reducible refine (HS.out _ (by repeat (first | (with_reducible exact Below.refl _ _) | (with_reducible assumption) | ((with_reducible refine Below.setCell ?_ ?_ _); rotate_left; (first | omega | (simp <;> omega))) | ((with_reducible refine Below.alloc ?_ ?_ _); rotate_left; (first | omega | (simp <;> omega))) | ((with_reducible refine Below.drew ?_)) | ((with_reducible refine below_drewN ?_ _)) | ((with_reducible refine Below.trans ?_ (Below.mono (by with_reducible assumption) ?_)); rotate_left; (first | omega | (simp <;> omega)))))).mono ?_); rintro e w2 ⟨A', n', c', U', ⟨rfl, hb⟩, hgo, hfr⟩; have HGN := Lib.hid hgo; have HFR := Lib.hid hfr; clear hgo hfr))
                all_goals (go_wp2_with fail)
                all_goals go_meet
                all_goals (have hsb := hb.size; have hbs : wr.heap.size ≤ w2.heap.size := (by first | exact hsb | (simp at hsb; omega)); have hb1 : Below wr.heap.size wr w2 := (by repeat (first | (with_reducible exact Below.refl _ _) | (with_reducible assumption) | ((with_reducible refine Below.setCell ?_ ?_ _); rotate_left; (first | omega | (simp <;> omega))) | ((with_reducible refine Below.alloc ?_ ?_ _); rotate_left; (first | omega | (simp <;> omega))) | ((with_reducible refine Below.drew ?_)) | ((with_reducible refine below_drewN ?_ _)) | ((with_reducible refine Below.trans ?_ (Below.mono (by with_reducible assumption) ?_)); rotate_left; (first | omega | (simp <;> omega))))); have hfr2 : ∀ p, Value.slice A' n' c' = .slice (some ⟨p, 0, none⟩) 1 1 → wr.heap.size ≤ p := (fun p e => by have h1 := HFR.out p e; first | exact h1 | (simp at h1; omega)); have HB2 := Lib.hid hb1; clear hb)
                all_goals first
                  | (have hr0 : Row ((((w2.setCell ⟨wr.heap.size, 0, none⟩ (.slice A' n' c')).setCell ⟨wr.heap.size, 1, none⟩ (.int .i64 7)).setCell ⟨wr.heap.size, 2, none⟩ (.int .i64 U')).setCell ⟨wr.heap.size, 3, none⟩ (.string s)) wr.heap.size #[.slice A' n' c', .int .i64 7, .int .i64 U', .string s] := (by simpa using (((HZ.out.set 0 (.slice A' n' c')).set 1 (.int .i64 7)).set 2 (.int .i64 U')).set 3 (.string s)); have hne0 : ∀ p, Value.slice A' n' c' = .slice (some ⟨p, 0, none⟩) 1 1 → p ≠ wr.heap.size := (fun p e => by have h1 := HFR.out p e; simp at h1; omega); with_reducible exact ⟨rfl, rfl, A', n', c', U', _, rfl, hr0, Nat.le_refl _, HGN.out.laid hne0 _ _ _ _, (((HB2.out.setCell (Nat.le_refl _) _).setCell (Nat.le_refl _) _).setCell (Nat.le_refl _) _).setCell (Nat.le_refl _) _, hfr2⟩)
                  | (with_reducible exact ⟨rfl, rfl, A', n', c', U', _, rfl, Row.new w2 #[.slice A' n' c', .int .i64 7, .int .i64 U', .string s] 31, hbs, HGN.out.later (Below.alloc (Below.refl w2.heap.size w2) (Nat.le_refl _) _), HB2.out.alloc hbs _, hfr2⟩)
              case rest =>
                obtain ⟨rfl, rfl, A', n', c', U', b, rfl, hrq, hqb, hg, hby, hfn⟩ := hcut
                have HQ := Lib.hid hrq
                have HGd := Lib.hid hg
                have HBY := Lib.hid hby
                have HFN := Lib.hid hfn
                clear hfn
                have HP := Lib.hid (HP.out.later hby)
                have hne : b ≠ W0.heap.size := by omega
                clear hrq hg c1 f1 s1 c2
                obtain ⟨c1, f1, s1⟩ := HQ.out
                have hxs2 : W0.heap.size ≤ wc.heap.size := Nat.le_trans hxs hby.size
                obtain ⟨hgt, hgd⟩ := HGd.out
                rcases hgd with ⟨g1, _, _⟩ | ⟨g1, g2, rfl, p, g4, g5⟩ | ⟨g1, g2, rfl⟩
                · omega
                · have hj9 : (j : Int) < (M : Int) - 1 := by omega
                  injection g4 with e1 e2 e3
                  subst e1 e2 e3
                  obtain ⟨La, hLa⟩ : ∃ x, x = 15 + ((j + 1 : Nat) : Int) := ⟨_, rfl⟩
                  obtain ⟨Ta, hTa⟩ : ∃ x, x = t - ((j + 1 : Nat) : Int) := ⟨_, rfl⟩
                  rw [← hLa, ← hTa] at g5
                  have HEn := Lib.hid g5
                  have HMy := Lib.hid fun w => May_yes w La 0 Ta (by omega) (by omega) (by omega) (by omega) (by omega) (by omega)
                  clear g1 g2 hgt g5 hby hLa hTa
                  obtain ⟨ce0, ce1, ce2, hpl⟩ := HEn.out
                  go_wp2_with (go_at_call 8; (with_reducible refine (HMy.out _).mono ?_); rintro e w4 ⟨rfl, hd4⟩)
                  have HBD := Lib.hid hd4
                  have hxs3 : W0.heap.size ≤ w4.heap.size := Nat.le_trans hxs2 hd4.size
                  have HP := Lib.hid (HP.out.later hd4)
                  have HQ := Lib.hid (HQ.out.later hd4)
                  clear hd4 ce0 ce1 ce2 c1 f1 s1
                  refine seq_reg [0, 1, 2, 3] [0, 0, 0, 2] (by kernel_rfl) _ rfl (by kernel_rfl) ?_
                  intro wd hwd hwh; clear hwh
                  have HPd := Lib.hid (HP.out.later hwd); have HQd := Lib.hid (HQ.out.later hwd); obtain ⟨cq, fq, sq⟩ := HQd.out; obtain ⟨cp, fp, sp⟩ := HPd.out
                  (first | ((with_reducible refine s_read (v := ?_) rfl rfl ?hw (fun w' hC => ?hrun) ?_); (case hw => rfl); (case hrun => (obtain ⟨hq1, hq2⟩ := bcell hC; go_simp; with_reducible rfl)); refine s_norm (a' := ?_) ?_ ?_; rotate_left; (simp only [Act.put, List.getElem_toArray, List.getElem_cons_zero, List.setIfInBounds_toArray, List.set_cons_zero, List.set_cons_succ]; rfl)) | ((with_reducible refine s_skip rfl rfl ?hw ?_); (case hw => rfl); refine s_norm (a' := ?_) ?_ ?_; rotate_left; (simp only [Act.put, List.getElem_toArray, List.getElem_cons_zero, List.setIfInBounds_toArray, List.set_cons_zero, List.set_cons_succ]; rfl)))
                  (first | ((with_reducible refine s_read (v := ?_) rfl rfl ?hw (fun w' hC => ?hrun) ?_); (case hw => rfl); (case hrun => (obtain ⟨hq1, hq2⟩ := bcell hC; go_simp; with_reducible rfl)); refine s_norm (a' := ?_) ?_ ?_; rotate_left; (simp only [Act.put, List.getElem_toArray, List.getElem_cons_succ, List.getElem_cons_zero, List.setIfInBounds_toArray, List.set_cons_zero, List.set_cons_succ]; rfl)) | ((with_reducible refine s_skip rfl rfl ?hw ?_); (case hw => rfl); refine s_norm (a' := ?_) ?_ ?_; rotate_left; (simp only [Act.put, List.getElem_toArray, List.getElem_cons_succ, List.getElem_cons_zero, List.setIfInBounds_toArray, List.set_cons_zero, List.set_cons_succ]; rfl)))
                  (first | ((with_reducible refine s_read (v := ?_) rfl rfl ?hw (fun w' hC => ?hrun) ?_); (case hw => rfl); (case hrun => (obtain ⟨hq1, hq2⟩ := bcell hC; go_simp; with_reducible rfl)); refine s_norm (a' := ?_) ?_ ?_; rotate_left; (simp only [Act.put, List.getElem_toArray, List.getElem_cons_succ, List.getElem_cons_zero, List.setIfInBounds_toArray, List.set_cons_zero, List.set_cons_succ]; rfl)) | ((with_reducible refine s_skip rfl rfl ?hw ?_); (case hw => rfl); refine s_norm (a' := ?_) ?_ ?_; rotate_left; (simp only [Act.put, List.getElem_toArray, List.getElem_cons_succ, List.getElem_cons_zero, List.setIfInBounds_toArray, List.set_cons_zero, List.set_cons_succ]; rfl)))
                  (refine s_store (w' := ((((wd.setCell ⟨W0.heap.size, 0, none⟩ (.slice (some ⟨p, 0, none⟩) 1 1)).setCell ⟨W0.heap.size, 1, none⟩ (.int .i64 7)).setCell ⟨W0.heap.size, 2, none⟩ (.int .i64 (t - 1))).setCell ⟨W0.heap.size, 3, none⟩ (.string s))) rfl rfl ?hw rfl ?hrun ?_; (case hw => rfl); (case hrun => (go_simp; try rfl)))
                  refine s_nil ?_
                  have hpr : Row ((((wd.setCell ⟨W0.heap.size, 0, none⟩ (.slice (some ⟨p, 0, none⟩) 1 1)).setCell ⟨W0.heap.size, 1, none⟩ (.int .i64 7)).setCell ⟨W0.heap.size, 2, none⟩ (.int .i64 (t - 1))).setCell ⟨W0.heap.size, 3, none⟩ (.string s)) W0.heap.size #[.slice (some ⟨p, 0, none⟩) 1 1, .int .i64 7, .int .i64 (t - 1), .string s] := by simpa using (((HPd.out.set 0 (.slice (some ⟨p, 0, none⟩) 1 1)).set 1 (.int .i64 7)).set 2 (.int .i64 (t - 1))).set 3 (.string s)
                  have hgr := (HGd.out.later (HBD.out.trans (hwd.mono HBD.out.size))).laid (q := W0.heap.size) (fun p e => by have := HFN.out p e; omega) (.slice (some ⟨p, 0, none⟩) 1 1) (.int .i64 7) (.int .i64 (t - 1)) (.string s)
                  have hbr : Below W0.heap.size W0 ((((wd.setCell ⟨W0.heap.size, 0, none⟩ (.slice (some ⟨p, 0, none⟩) 1 1)).setCell ⟨W0.heap.size, 1, none⟩ (.int .i64 7)).setCell ⟨W0.heap.size, 2, none⟩ (.int .i64 (t - 1))).setCell ⟨W0.heap.size, 3, none⟩ (.string s)) := ((((HBX.out.trans ((HBY.out.mono hxs).trans ((HBD.out.mono hxs2).trans (hwd.mono hxs3)))).setCell (Nat.le_refl _) _).setCell (Nat.le_refl _) _).setCell (Nat.le_refl _) _).setCell (Nat.le_refl _) _
                  have HPR := Lib.hid hpr
                  have HGR := Lib.hid hgr
                  have HBR := Lib.hid hbr
                  clear cq fq sq cp fp sp hpr hgr hbr
                  generalize ((((wd.setCell ⟨W0.heap.size, 0, none⟩ (.slice (some ⟨p, 0, none⟩) 1 1)).setCell ⟨W0.heap.size, 1, none⟩ (.int .i64 7)).setCell ⟨W0.heap.size, 2, none⟩ (.int .i64 (t - 1))).setCell ⟨W0.heap.size, 3, none⟩ (.string s)) = w9 at *
                  go_wp2
                  go_roundw
                  case rel => exact ⟨j + 1, _, _, by omega, num_step j, HBR.out, HPR.out, HGR.out⟩
                  case measure => exact measure_step hlj
                  
                · have hj9 : ¬ ((j : Int) < (M : Int) - 1) := by omega
                  injection g2 with e1 e2 e3
                  subst e1 e2 e3
                  clear g1 hgt hby
                  go_wp2_with (fail)
                  have HBD := Lib.hid (Below.refl wc.heap.size wc)
                  have hxs3 := hxs2
                  clear c1 f1 s1
                  refine seq_reg [0, 1, 2, 3] [0, 0, 0, 2] (by kernel_rfl) _ rfl (by kernel_rfl) ?_
                  intro wd hwd hwh; clear hwh
                  have HPd := Lib.hid (HP.out.later hwd); have HQd := Lib.hid (HQ.out.later hwd); obtain ⟨cq, fq, sq⟩ := HQd.out; obtain ⟨cp, fp, sp⟩ := HPd.out
                  (first | ((with_reducible refine s_read (v := ?_) rfl rfl ?hw (fun w' hC => ?hrun) ?_); (case hw => rfl); (case hrun => (obtain ⟨hq1, hq2⟩ := bcell hC; go_simp; with_reducible rfl)); refine s_norm (a' := ?_) ?_ ?_; rotate_left; (simp only [Act.put, List.getElem_toArray, List.getElem_cons_zero, List.setIfInBounds_toArray, List.set_cons_zero, List.set_cons_succ]; rfl)) | ((with_reducible refine s_skip rfl rfl ?hw ?_); (case hw => rfl); refine s_norm (a' := ?_) ?_ ?_; rotate_left; (simp only [Act.put, List.getElem_toArray, List.getElem_cons_zero, List.setIfInBounds_toArray, List.set_cons_zero, List.set_cons_succ]; rfl)))
                  (first | ((with_reducible refine s_read (v := ?_) rfl rfl ?hw (fun w' hC => ?hrun) ?_); (case hw => rfl); (case hrun => (obtain ⟨hq1, hq2⟩ := bcell hC; go_simp; with_reducible rfl)); refine s_norm (a' := ?_) ?_ ?_; rotate_left; (simp only [Act.put, List.getElem_toArray, List.getElem_cons_succ, List.getElem_cons_zero, List.setIfInBounds_toArray, List.set_cons_zero, List.set_cons_succ]; rfl)) | ((with_reducible refine s_skip rfl rfl ?hw ?_); (case hw => rfl); refine s_norm (a' := ?_) ?_ ?_; rotate_left; (simp only [Act.put, List.getElem_toArray, List.getElem_cons_succ, List.getElem_cons_zero, List.setIfInBounds_toArray, List.set_cons_zero, List.set_cons_succ]; rfl)))
                  (first | ((with_reducible refine s_read (v := ?_) rfl rfl ?hw (fun w' hC => ?hrun) ?_); (case hw => rfl); (case hrun => (obtain ⟨hq1, hq2⟩ := bcell hC; go_simp; with_reducible rfl)); refine s_norm (a' := ?_) ?_ ?_; rotate_left; (simp only [Act.put, List.getElem_toArray, List.getElem_cons_succ, List.getElem_cons_zero, List.setIfInBounds_toArray, List.set_cons_zero, List.set_cons_succ]; rfl)) | ((with_reducible refine s_skip rfl rfl ?hw ?_); (case hw => rfl); refine s_norm (a' := ?_) ?_ ?_; rotate_left; (simp only [Act.put, List.getElem_toArray, List.getElem_cons_succ, List.getElem_cons_zero, List.setIfInBounds_toArray, List.set_cons_zero, List.set_cons_succ]; rfl)))
                  (refine s_store (w' := ((((wd.setCell ⟨W0.heap.size, 0, none⟩ (.slice none 0 0)).setCell ⟨W0.heap.size, 1, none⟩ (.int .i64 7)).setCell ⟨W0.heap.size, 2, none⟩ (.int .i64 (t - (M : Int)))).setCell ⟨W0.heap.size, 3, none⟩ (.string s))) rfl rfl ?hw rfl ?hrun ?_; (case hw => rfl); (case hrun => (go_simp; try rfl)))
                  refine s_nil ?_
                  have hpr : Row ((((wd.setCell ⟨W0.heap.size, 0, none⟩ (.slice none 0 0)).setCell ⟨W0.heap.size, 1, none⟩ (.int .i64 7)).setCell ⟨W0.heap.size, 2, none⟩ (.int .i64 (t - (M : Int)))).setCell ⟨W0.heap.size, 3, none⟩ (.string s)) W0.heap.size #[.slice none 0 0, .int .i64 7, .int .i64 (t - (M : Int)), .string s] := by simpa using (((HPd.out.set 0 (.slice none 0 0)).set 1 (.int .i64 7)).set 2 (.int .i64 (t - (M : Int)))).set 3 (.string s)
                  have hgr := (HGd.out.later (HBD.out.trans (hwd.mono HBD.out.size))).laid (q := W0.heap.size) (fun p e => by have := HFN.out p e; omega) (.slice none 0 0) (.int .i64 7) (.int .i64 (t - (M : Int))) (.string s)
                  have hbr : Below W0.heap.size W0 ((((wd.setCell ⟨W0.heap.size, 0, none⟩ (.slice none 0 0)).setCell ⟨W0.heap.size, 1, none⟩ (.int .i64 7)).setCell ⟨W0.heap.size, 2, none⟩ (.int .i64 (t - (M : Int)))).setCell ⟨W0.heap.size, 3, none⟩ (.string s)) := ((((HBX.out.trans ((HBY.out.mono hxs).trans ((HBD.out.mono hxs2).trans (hwd.mono hxs3)))).setCell (Nat.le_refl _) _).setCell (Nat.le_refl _) _).setCell (Nat.le_refl _) _).setCell (Nat.le_refl _) _
                  have HPR := Lib.hid hpr
                  have HGR := Lib.hid hgr
                  have HBR := Lib.hid hbr
                  clear cq fq sq cp fp sp hpr hgr hbr
                  generalize ((((wd.setCell ⟨W0.heap.size, 0, none⟩ (.slice none 0 0)).setCell ⟨W0.heap.size, 1, none⟩ (.int .i64 7)).setCell ⟨W0.heap.size, 2, none⟩ (.int .i64 (t - (M : Int)))).setCell ⟨W0.heap.size, 3, none⟩ (.string s)) = w9 at *
                  go_wp2
                  go_roundw
                  case rel => exact ⟨j + 1, _, _, by omega, num_step j, HBR.out, HPR.out, HGR.out⟩
                  case measure => exact measure_step hlj
                  
          · obtain rfl : M = j := by omega
            obtain ⟨hgt, hgd⟩ := HGo.out
            rcases hgd with ⟨g1, _, _⟩ | ⟨g1, g2, _⟩ | ⟨_, rfl, rfl⟩
            · omega
            · omega
            · have hB1 := Lib.hid (HW.out.trans (HBX.out.mono hws))
              obtain ⟨c1, f1, s1⟩ := HP.out
              go_wp2
              go_ret
              exact ⟨by simp, hB1.out⟩
      · have hs1 : 4096 < (s.size : Int) := by omega
        go_upto_region 21 with (fail)
        generalize W0.alloc (.cells #[.slice none 0 0, .int .i64 7, .int .i64 t, .string s] 31) = W at *
        have hPW : W0.heap.size < W.heap.size := HP.out.2.2
        obtain ⟨c1, f1, s1⟩ := HP.out
        have c2 : W.cell? ad = some (.pointer (some ⟨f 0, 0, none⟩)) := by have := HAD.out W HBW.out 0 (by omega); simpa [Addr.add] using this
        have HS := Lib.hid fun (w' : World) (hb : Below W.heap.size W w') => (show Calls Try.prog 7 #[.pointer (some ⟨f 0, 0, none⟩), .agg #[.slice none 0 0, .int .i64 7, .int .i64 t, .string s]] w' (Fell3 w' 2) from by
          obtain ⟨A, g, cg, h1, _⟩ := (HM1.out.tabs 0 (by omega)).later hb
          exact Step_arg w' (f 0) A g cg t s h1 ht0 (by omega) hs)
        have hadW : ad.block < W.heap.size := by omega
        have mp : 0 < M := by omega
        have mp2 : (0 : Int) < (M : Int) := by omega
        go_region_law (first | (go_simp; go_at_call 7; (with_reducible refine (HS.out _ (by repeat (first | (with_reducible exact Below.refl _ _) | (with_reducible assumption) | ((with_reducible refine Below.setCell ?_ ?_ _); rotate_left; (first | omega | (simp <;> omega))) | ((with_reducible refine Below.alloc ?_ ?_ _); rotate_left; (first | omega | (simp <;> omega))) | ((with_reducible refine Below.drew ?_)) | ((with_reducible refine below_drewN ?_ _)) | ((with_reducible refine Below.trans ?_ (Below.mono (by with_reducible assumption) ?_)); rotate_left; (first | omega | (simp <;> omega)))))).mono ?_); rintro e w2 ⟨rfl, hb⟩; have hz0 := (Row.new' W.drew (B := W.heap.size) #[.slice none 0 0, .int .i64 0, .int .i64 0, .string ⟨#[]⟩] 31 rfl).later hb; obtain ⟨cz, fz, sz⟩ := hz0) | (go_simp; go_at_call 7; (with_reducible refine (HS.out _ (by repeat (first | (with_reducible exact Below.refl _ _) | (with_reducible assumption) | ((with_reducible refine Below.setCell ?_ ?_ _); rotate_left; (first | omega | (simp <;> omega))) | ((with_reducible refine Below.alloc ?_ ?_ _); rotate_left; (first | omega | (simp <;> omega))) | ((with_reducible refine Below.drew ?_)) | ((with_reducible refine below_drewN ?_ _)) | ((with_reducible refine Below.trans ?_ (Below.mono (by with_reducible assumption) ?_)); rotate_left; (first | omega | (simp <;> omega)))))).mono ?_); rintro e w2 ⟨rfl, hb⟩))
        all_goals
          have hB1 := HB1.out
          have hB1s := hB1.size
          have hbs : W.heap.size ≤ w2.heap.size := by have h := hb.size; first | exact h | (simp at h; omega)
          go_wp2
          go_ret
          exact ⟨rfl, (by repeat (first | (with_reducible exact Below.refl _ _) | (with_reducible assumption) | ((with_reducible refine Below.setCell ?_ ?_ _); rotate_left; (first | omega | (simp <;> omega))) | ((with_reducible refine Below.alloc ?_ ?_ _); rotate_left; (first | omega | (simp <;> omega))) | ((with_reducible refine Below.drew ?_)) | ((with_reducible refine below_drewN ?_ _)) | ((with_reducible refine Below.trans ?_ (Below.mono (by with_reducible assumption) ?_)); rotate_left; (first | omega | (simp <;> omega)))))⟩
end Go.Proofs.Ytokkdjgejeigiaa
