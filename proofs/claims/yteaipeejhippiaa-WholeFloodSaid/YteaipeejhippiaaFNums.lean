/- An advert as numbers, and these as bytes: in plain lists; tedb.numbers. -/
import Derived.Test.YteaipeejhippiaaFTake
namespace Go.Proofs.Yteaipeejhippiaa
open Go.RowKit
attribute [local go_sem] cell_set_self
set_option linter.unusedVariables false

/-- How many bytes number i of an advert has. -/
def sz (i : Nat) : Nat := if i < 4 then 1 else if i = 4 then 4 else if i = 5 then 8 else if i < 8 then 4 else 8
/-- Number i of an advert. -/
def val (x : Adv) : Nat → Int
  | 0 => x.src
  | 1 => x.dst
  | 2 => if x.up then 1 else 0
  | 3 => 0
  | 4 => x.seq
  | 5 => x.cap
  | 6 => x.metric
  | 7 => x.groups
  | j + 8 => x.free j
def numRow (x : Adv) : Nat → Array Value := fun i => #[.int .i64 (sz i : Int), .int .u64 (val x i)]
/-- Is each of its numbers one that Go knows? -/
structure Adv.Wf (x : Adv) : Prop where
  cap0 : 0 ≤ x.cap
  cap1 : x.cap < 18446744073709551616
  g0 : 0 ≤ x.groups
  g1 : x.groups < 4294967296
  f0 : ∀ i, i < 8 → 0 ≤ x.free i
  f1 : ∀ i, i < 8 → x.free i < 18446744073709551616
theorem val_fits {x : Adv} (h : x.Fine) (hw : x.Wf) (i : Nat) (hi : i < 16) : 0 ≤ val x i ∧ val x i < 2 ^ (8 * sz i) := by
  have h1 := h.link
  have h2 := h1.s0
  have h3 := h1.s1
  have h4 := h1.d0
  have h5 := h1.d1
  have h6 := h1.m0
  have h7 := h1.m1
  have h8 := h.s0
  have h9 := h.s1
  have k1 := hw.cap0
  have k2 := hw.cap1
  have k3 := hw.g0
  have k4 := hw.g1
  have : i = 0 ∨ i = 1 ∨ i = 2 ∨ i = 3 ∨ i = 4 ∨ i = 5 ∨ i = 6 ∨ i = 7 ∨ 8 ≤ i := by omega
  rcases this with rfl | rfl | rfl | rfl | rfl | rfl | rfl | rfl | h
  · simp [val, sz]; omega
  · simp [val, sz]; omega
  · simp [val, sz]; split <;> omega
  · simp [val, sz]
  · simp [val, sz]; omega
  · simp [val, sz]; omega
  · simp [val, sz]; omega
  · simp [val, sz]; omega
  · obtain ⟨j, rfl⟩ : ∃ j, i = j + 8 := ⟨i - 8, by omega⟩
    have e1 : sz (j + 8) = 8 := by unfold sz; rw [if_neg (by omega), if_neg (by omega), if_neg (by omega), if_neg (by omega)]
    have e2 : val x (j + 8) = x.free j := rfl
    have f0 := hw.f0 j (by omega)
    have f1 := hw.f1 j (by omega)
    rw [e1, e2]
    simp
    omega
theorem sz_bounds (i : Nat) : 1 ≤ sz i ∧ sz i ≤ 8 := by
  unfold sz
  split <;> (try split) <;> (try split) <;> (try split) <;> omega
theorem infoNum : Info Try.prog 104 (.agg #[.int .i64 0, .int .u64 0]) 2 16 := by unfold Info; kernel_rfl
/-- A new array is a row of the call's own. -/
theorem full_row (w : World) (e : TypeId) (size n : Nat) (cs : Array Value) (rows : List (Array Value)) {g : Nat} (hg : g = w.heap.size) (hc : cs.toList = flatL rows) (hr : ∀ r ∈ rows, r.size = size) (hn : rows.length = n) (hsz : cs.size = n * size) (hm : n ≤ 1000) : OutRow (w.alloc (.cells cs e)) w.heap.size e size (.slice (some ⟨g, 0, none⟩) n n) rows := by
  subst hg
  refine ⟨⟨?_, .inr ⟨w.heap.size, n, cs, by rw [hn], Nat.le_refl _, heap_alloc_new w _, by omega, by unfold maxLen; omega, hsz, ?_⟩⟩, hr⟩
  · rw [← hc, Array.length_toList, hsz, hn]
  · rw [← hc, hn, List.take_of_length_le (by rw [Array.length_toList, hsz]; omega)]
def NumRel (w : World) (x : Adv) (v i : Value) (wr : World) : Prop := ∃ k : Nat, k ≤ 8 ∧ i = .int .i64 (k : Int) ∧ OutRow wr (w.heap.size + 1 + 1) 104 2 v ((List.range (8 + k)).map (numRow x)) ∧ Below w.heap.size w wr
theorem num_snoc (x : Adv) (k : Nat) : (List.range (8 + k)).map (numRow x) ++ [#[.int .i64 8, .int .u64 (x.free k)]] = (List.range (8 + (k + 1))).map (numRow x) := by
  rw [← Nat.add_assoc, List.range_succ, List.map_append]
  congr 1
  have e1 : sz (8 + k) = 8 := by unfold sz; rw [if_neg (by omega), if_neg (by omega), if_neg (by omega), if_neg (by omega)]
  have e2 : val x (8 + k) = x.free k := by rw [Nat.add_comm]; rfl
  simp [numRow, e1, e2]
def NumPost (w : World) (x : Adv) (e : Ending) (w' : World) : Prop := ∃ A c, e = .returned (.slice A 16 c) ∧ Strip w' A 16 2 (numRow x) ∧ Below w.heap.size w w'
set_option maxRecDepth 100000 in
set_option maxHeartbeats 8000000 in
theorem numbers_calls (w : World) (x : Adv) (h : x.Fine) (hw : x.Wf) : Calls Try.prog 33 #[.agg #[.int .i64 x.src, .int .i64 x.dst, .int .u64 x.cap, .int .i64 x.metric, .int .u32 x.groups, .int .i64 x.seq, .bool x.up, .int .u64 (x.free 0), .int .u64 (x.free 1), .int .u64 (x.free 2), .int .u64 (x.free 3), .int .u64 (x.free 4), .int .u64 (x.free 5), .int .u64 (x.free 6), .int .u64 (x.free 7)]] w (NumPost w x) := by
  have h1 := h.link
  have h2 := h1.s0
  have h3 := h1.s1
  have h4 := h1.d0
  have h5 := h1.d1
  have h6 := h1.m0
  have h7 := h1.m1
  have h8 := h.s0
  have h9 := h.s1
  have k3 := hw.g0
  have k4 := hw.g1
  clear h1 h hw
  cases hu : x.up
  · have hv2 : val x 2 = 0 := by simp [val, hu]
    have HV := Lib.hid hv2
    clear hv2 hu
    go_enter Try.func33, Try.ntmps33
    go_wp2
    have HO := Lib.hid (show OutRow (((w.alloc (.cells #[.int .i64 x.src, .int .i64 x.dst, .int .u64 x.cap, .int .i64 x.metric, .int .u32 x.groups, .int .i64 x.seq, .bool false, .int .u64 (x.free 0), .int .u64 (x.free 1), .int .u64 (x.free 2), .int .u64 (x.free 3), .int .u64 (x.free 4), .int .u64 (x.free 5), .int .u64 (x.free 6), .int .u64 (x.free 7)] 41)).alloc (.cells #[.int .i64 x.src, .int .i64 x.dst, .int .u64 x.cap, .int .i64 x.metric, .int .u32 x.groups] 34)).alloc (.cells #[.int .i64 1, .int .u64 x.src, .int .i64 1, .int .u64 x.dst, .int .i64 1, .int .u64 0, .int .i64 1, .int .u64 0, .int .i64 4, .int .u64 x.seq, .int .i64 8, .int .u64 x.cap, .int .i64 4, .int .u64 x.metric, .int .i64 4, .int .u64 x.groups] 104)) (w.heap.size + 1 + 1) 104 2 (.slice (some ⟨w.heap.size + 1 + 1, 0, none⟩) 8 8) ((List.range 8).map (numRow x)) from by
      have h := full_row ((w.alloc (.cells #[.int .i64 x.src, .int .i64 x.dst, .int .u64 x.cap, .int .i64 x.metric, .int .u32 x.groups, .int .i64 x.seq, .bool false, .int .u64 (x.free 0), .int .u64 (x.free 1), .int .u64 (x.free 2), .int .u64 (x.free 3), .int .u64 (x.free 4), .int .u64 (x.free 5), .int .u64 (x.free 6), .int .u64 (x.free 7)] 41)).alloc (.cells #[.int .i64 x.src, .int .i64 x.dst, .int .u64 x.cap, .int .i64 x.metric, .int .u32 x.groups] 34)) 104 2 8 #[.int .i64 1, .int .u64 x.src, .int .i64 1, .int .u64 x.dst, .int .i64 1, .int .u64 0, .int .i64 1, .int .u64 0, .int .i64 4, .int .u64 x.seq, .int .i64 8, .int .u64 x.cap, .int .i64 4, .int .u64 x.metric, .int .i64 4, .int .u64 x.groups] ((List.range 8).map (numRow x)) (g := w.heap.size + 1 + 1) (by simp) (by simp [flatL, List.range_succ, numRow, HV.out]; simp [val, sz]) (by simp [numRow]) (by simp) rfl (by omega)
      simpa using h)
    have HB := Lib.hid (show Below w.heap.size w (((w.alloc (.cells #[.int .i64 x.src, .int .i64 x.dst, .int .u64 x.cap, .int .i64 x.metric, .int .u32 x.groups, .int .i64 x.seq, .bool false, .int .u64 (x.free 0), .int .u64 (x.free 1), .int .u64 (x.free 2), .int .u64 (x.free 3), .int .u64 (x.free 4), .int .u64 (x.free 5), .int .u64 (x.free 6), .int .u64 (x.free 7)] 41)).alloc (.cells #[.int .i64 x.src, .int .i64 x.dst, .int .u64 x.cap, .int .i64 x.metric, .int .u32 x.groups] 34)).alloc (.cells #[.int .i64 1, .int .u64 x.src, .int .i64 1, .int .u64 x.dst, .int .i64 1, .int .u64 0, .int .i64 1, .int .u64 0, .int .i64 4, .int .u64 x.seq, .int .i64 8, .int .u64 x.cap, .int .i64 4, .int .u64 x.metric, .int .i64 4, .int .u64 x.groups] 104)) from (by repeat (first | (with_reducible exact Below.refl _ _) | (with_reducible assumption) | ((with_reducible refine Below.setCell ?_ ?_ _); rotate_left; (first | omega | (simp <;> omega))) | ((with_reducible refine Below.alloc ?_ ?_ _); rotate_left; (first | omega | (simp <;> omega))) | ((with_reducible refine Below.drew ?_)) | ((with_reducible refine below_drewN ?_ _)) | ((with_reducible refine Below.trans ?_ (Below.mono (by with_reducible assumption) ?_)); rotate_left; (first | omega | (simp <;> omega))))))
    clear HV
    generalize ((w.alloc (.cells #[.int .i64 x.src, .int .i64 x.dst, .int .u64 x.cap, .int .i64 x.metric, .int .u32 x.groups, .int .i64 x.seq, .bool false, .int .u64 (x.free 0), .int .u64 (x.free 1), .int .u64 (x.free 2), .int .u64 (x.free 3), .int .u64 (x.free 4), .int .u64 (x.free 5), .int .u64 (x.free 6), .int .u64 (x.free 7)] 41)).alloc (.cells #[.int .i64 x.src, .int .i64 x.dst, .int .u64 x.cap, .int .i64 x.metric, .int .u32 x.groups] 34)).alloc (.cells #[.int .i64 1, .int .u64 x.src, .int .i64 1, .int .u64 x.dst, .int .i64 1, .int .u64 0, .int .i64 1, .int .u64 0, .int .i64 4, .int .u64 x.seq, .int .i64 8, .int .u64 x.cap, .int .i64 4, .int .u64 x.metric, .int .i64 4, .int .u64 x.groups] 104) = W at *
    go_loopw [5, 41] (fun v i wr => NumRel w x v i wr) (fun _ i _ => 8 - (intOf i).toNat)
    case atStart => exact ⟨0, by omega, rfl, HO.out, HB.out⟩
    case round =>
      clear HO HB
      obtain ⟨k, hk, rfl, ho, hb⟩ := hrel
      obtain ⟨A, c, rfl⟩ := ho.form
      have hl : ((List.range (8 + k)).map (numRow x)).length = 8 + k := by simp
      rw [hl] at ho
      rw [hl]
      have HO := Lib.hid ho
      have HB := Lib.hid hb
      have hws : w.heap.size + 1 + 1 ≤ wr.heap.size := by obtain ⟨g, cg, hv, hbg, hgl, _⟩ := ho.at_ (by simp; omega); omega
      clear ho hb hl
      by_cases hlt : k < 8
      · have hi := index_runs x.free k hlt
        go_wp2_with (at_builtin; refine wpList_app _ rfl (.tmp 44) (.tmp 47) 101 rfl (w.heap.size + 1 + 1) 104 _ 2 16 Try.underlying101 infoNum rfl (by omega) (.slice A (8 + k) c) ((List.range (8 + k)).map (numRow x)) rfl (HO.out.alloc _) wr.heap.size 1 #[.int .i64 8, .int .u64 (x.free k)] rfl rfl (new_row _ _ _) (by intro u hu; simp at hu; rcases hu with rfl | rfl <;> rfl) (by simp; omega) (by omega) (by simp; omega) ?_; intro v4 w4 ho4 hg4 hb4; have HO4 := Lib.hid ho4; have HB4 := Lib.hid ((HB.out.alloc (by omega) (.cells #[.int .i64 8, .int .u64 (x.free k)] 104)).trans (hb4 _ (by omega))); clear ho4 hg4 hb4)
        have ho5 := HO4.out
        rw [num_snoc] at ho5
        have HO5 := Lib.hid ho5
        clear ho5 hi
        go_roundw
        case rel => exact ⟨k + 1, by omega, num_step k, HO5.out, HB4.out⟩
        case measure => exact measure_step hlt
      · obtain rfl : k = 8 := by omega
        go_wp2
        go_ret
        exact ⟨A, c, rfl, HO.out.strip_map.2, HB.out⟩
  · have hv2 : val x 2 = 1 := by simp [val, hu]
    have HV := Lib.hid hv2
    clear hv2 hu
    go_enter Try.func33, Try.ntmps33
    go_wp2
    have HO := Lib.hid (show OutRow (((w.alloc (.cells #[.int .i64 x.src, .int .i64 x.dst, .int .u64 x.cap, .int .i64 x.metric, .int .u32 x.groups, .int .i64 x.seq, .bool true, .int .u64 (x.free 0), .int .u64 (x.free 1), .int .u64 (x.free 2), .int .u64 (x.free 3), .int .u64 (x.free 4), .int .u64 (x.free 5), .int .u64 (x.free 6), .int .u64 (x.free 7)] 41)).alloc (.cells #[.int .i64 x.src, .int .i64 x.dst, .int .u64 x.cap, .int .i64 x.metric, .int .u32 x.groups] 34)).alloc (.cells #[.int .i64 1, .int .u64 x.src, .int .i64 1, .int .u64 x.dst, .int .i64 1, .int .u64 1, .int .i64 1, .int .u64 0, .int .i64 4, .int .u64 x.seq, .int .i64 8, .int .u64 x.cap, .int .i64 4, .int .u64 x.metric, .int .i64 4, .int .u64 x.groups] 104)) (w.heap.size + 1 + 1) 104 2 (.slice (some ⟨w.heap.size + 1 + 1, 0, none⟩) 8 8) ((List.range 8).map (numRow x)) from by
      have h := full_row ((w.alloc (.cells #[.int .i64 x.src, .int .i64 x.dst, .int .u64 x.cap, .int .i64 x.metric, .int .u32 x.groups, .int .i64 x.seq, .bool true, .int .u64 (x.free 0), .int .u64 (x.free 1), .int .u64 (x.free 2), .int .u64 (x.free 3), .int .u64 (x.free 4), .int .u64 (x.free 5), .int .u64 (x.free 6), .int .u64 (x.free 7)] 41)).alloc (.cells #[.int .i64 x.src, .int .i64 x.dst, .int .u64 x.cap, .int .i64 x.metric, .int .u32 x.groups] 34)) 104 2 8 #[.int .i64 1, .int .u64 x.src, .int .i64 1, .int .u64 x.dst, .int .i64 1, .int .u64 1, .int .i64 1, .int .u64 0, .int .i64 4, .int .u64 x.seq, .int .i64 8, .int .u64 x.cap, .int .i64 4, .int .u64 x.metric, .int .i64 4, .int .u64 x.groups] ((List.range 8).map (numRow x)) (g := w.heap.size + 1 + 1) (by simp) (by simp [flatL, List.range_succ, numRow, HV.out]; simp [val, sz]) (by simp [numRow]) (by simp) rfl (by omega)
      simpa using h)
    have HB := Lib.hid (show Below w.heap.size w (((w.alloc (.cells #[.int .i64 x.src, .int .i64 x.dst, .int .u64 x.cap, .int .i64 x.metric, .int .u32 x.groups, .int .i64 x.seq, .bool true, .int .u64 (x.free 0), .int .u64 (x.free 1), .int .u64 (x.free 2), .int .u64 (x.free 3), .int .u64 (x.free 4), .int .u64 (x.free 5), .int .u64 (x.free 6), .int .u64 (x.free 7)] 41)).alloc (.cells #[.int .i64 x.src, .int .i64 x.dst, .int .u64 x.cap, .int .i64 x.metric, .int .u32 x.groups] 34)).alloc (.cells #[.int .i64 1, .int .u64 x.src, .int .i64 1, .int .u64 x.dst, .int .i64 1, .int .u64 1, .int .i64 1, .int .u64 0, .int .i64 4, .int .u64 x.seq, .int .i64 8, .int .u64 x.cap, .int .i64 4, .int .u64 x.metric, .int .i64 4, .int .u64 x.groups] 104)) from (by repeat (first | (with_reducible exact Below.refl _ _) | (with_reducible assumption) | ((with_reducible refine Below.setCell ?_ ?_ _); rotate_left; (first | omega | (simp <;> omega))) | ((with_reducible refine Below.alloc ?_ ?_ _); rotate_left; (first | omega | (simp <;> omega))) | ((with_reducible refine Below.drew ?_)) | ((with_reducible refine below_drewN ?_ _)) | ((with_reducible refine Below.trans ?_ (Below.mono (by with_reducible assumption) ?_)); rotate_left; (first | omega | (simp <;> omega))))))
    clear HV
    generalize ((w.alloc (.cells #[.int .i64 x.src, .int .i64 x.dst, .int .u64 x.cap, .int .i64 x.metric, .int .u32 x.groups, .int .i64 x.seq, .bool true, .int .u64 (x.free 0), .int .u64 (x.free 1), .int .u64 (x.free 2), .int .u64 (x.free 3), .int .u64 (x.free 4), .int .u64 (x.free 5), .int .u64 (x.free 6), .int .u64 (x.free 7)] 41)).alloc (.cells #[.int .i64 x.src, .int .i64 x.dst, .int .u64 x.cap, .int .i64 x.metric, .int .u32 x.groups] 34)).alloc (.cells #[.int .i64 1, .int .u64 x.src, .int .i64 1, .int .u64 x.dst, .int .i64 1, .int .u64 1, .int .i64 1, .int .u64 0, .int .i64 4, .int .u64 x.seq, .int .i64 8, .int .u64 x.cap, .int .i64 4, .int .u64 x.metric, .int .i64 4, .int .u64 x.groups] 104) = W at *
    go_loopw [5, 41] (fun v i wr => NumRel w x v i wr) (fun _ i _ => 8 - (intOf i).toNat)
    case atStart => exact ⟨0, by omega, rfl, HO.out, HB.out⟩
    case round =>
      clear HO HB
      obtain ⟨k, hk, rfl, ho, hb⟩ := hrel
      obtain ⟨A, c, rfl⟩ := ho.form
      have hl : ((List.range (8 + k)).map (numRow x)).length = 8 + k := by simp
      rw [hl] at ho
      rw [hl]
      have HO := Lib.hid ho
      have HB := Lib.hid hb
      have hws : w.heap.size + 1 + 1 ≤ wr.heap.size := by obtain ⟨g, cg, hv, hbg, hgl, _⟩ := ho.at_ (by simp; omega); omega
      clear ho hb hl
      by_cases hlt : k < 8
      · have hi := index_runs x.free k hlt
        go_wp2_with (at_builtin; refine wpList_app _ rfl (.tmp 44) (.tmp 47) 101 rfl (w.heap.size + 1 + 1) 104 _ 2 16 Try.underlying101 infoNum rfl (by omega) (.slice A (8 + k) c) ((List.range (8 + k)).map (numRow x)) rfl (HO.out.alloc _) wr.heap.size 1 #[.int .i64 8, .int .u64 (x.free k)] rfl rfl (new_row _ _ _) (by intro u hu; simp at hu; rcases hu with rfl | rfl <;> rfl) (by simp; omega) (by omega) (by simp; omega) ?_; intro v4 w4 ho4 hg4 hb4; have HO4 := Lib.hid ho4; have HB4 := Lib.hid ((HB.out.alloc (by omega) (.cells #[.int .i64 8, .int .u64 (x.free k)] 104)).trans (hb4 _ (by omega))); clear ho4 hg4 hb4)
        have ho5 := HO4.out
        rw [num_snoc] at ho5
        have HO5 := Lib.hid ho5
        clear ho5 hi
        go_roundw
        case rel => exact ⟨k + 1, by omega, num_step k, HO5.out, HB4.out⟩
        case measure => exact measure_step hlt
      · obtain rfl : k = 8 := by omega
        go_wp2
        go_ret
        exact ⟨A, c, rfl, HO.out.strip_map.2, HB.out⟩
end Go.Proofs.Yteaipeejhippiaa
