/- Which adverts may be; an advert under the other package's name; a base that is there. -/
import Derived.Test.YteaipeejhippiaaGCheck
namespace Go.Proofs.Yteaipeejhippiaa
open Go.RowKit
attribute [local go_sem] cell_set_self
set_option linter.unusedVariables false

/-- What stands ahead of free k. -/
def prev (x : Adv) : Nat → Int
  | 0 => x.cap
  | k + 1 => x.free k
/-- May this be said? -/
structure Adv.Fine (x : Adv) : Prop where
  link : x.toLnk.May 16
  s0 : 0 ≤ x.seq
  s1 : x.seq ≤ 4294967295
  falls : ∀ k, k < 8 → x.free k ≤ prev x k
open Classical in
noncomputable def mayB (x : Adv) : Bool := decide x.Fine
theorem mayB_no {x : Adv} (h : ¬ x.Fine) : mayB x = false := by simp [mayB, h]
theorem mayB_yes {x : Adv} (h : x.Fine) : mayB x = true := by simp [mayB, h]
theorem good_calls (w : World) (Q : Nat) (v : Value) (h : Blk w Q 62 #[.bool true, v]) : Calls Try.prog 16 #[.pointer (some ⟨Q, 0, none⟩)] w fun e w' => e = .returned (.bool true) ∧ w = w' := by
  obtain ⟨c, f, s⟩ := h.row
  clear h
  go_enter Try.func16, Try.ntmps16
  go_wp2
  go_ret
  exact ⟨rfl, rfl⟩
theorem Theirs_calls (x : Adv) (w : World) : Calls Try.prog 8 #[.agg #[.int .i64 x.src, .int .i64 x.dst, .int .u64 x.cap, .int .i64 x.metric, .int .u32 x.groups, .int .i64 x.seq, .bool x.up, .int .u64 (x.free 0), .int .u64 (x.free 1), .int .u64 (x.free 2), .int .u64 (x.free 3), .int .u64 (x.free 4), .int .u64 (x.free 5), .int .u64 (x.free 6), .int .u64 (x.free 7)]] w fun e w' => e = .returned (.agg #[.int .i64 x.src, .int .i64 x.dst, .int .u64 x.cap, .int .i64 x.metric, .int .u32 x.groups, .int .i64 x.seq, .bool x.up, .int .u64 (x.free 0), .int .u64 (x.free 1), .int .u64 (x.free 2), .int .u64 (x.free 3), .int .u64 (x.free 4), .int .u64 (x.free 5), .int .u64 (x.free 6), .int .u64 (x.free 7)]) ∧ Below w.heap.size w w' := by
  go_enter Try.func8, Try.ntmps8
  go_wp2
  exact bodyPost_ret (v := .agg #[.int .i64 x.src, .int .i64 x.dst, .int .u64 x.cap, .int .i64 x.metric, .int .u32 x.groups, .int .i64 x.seq, .bool x.up, .int .u64 (x.free 0), .int .u64 (x.free 1), .int .u64 (x.free 2), .int .u64 (x.free 3), .int .u64 (x.free 4), .int .u64 (x.free 5), .int .u64 (x.free 6), .int .u64 (x.free 7)]) (by simp [results, Try.results8, go_sem]) rfl ⟨rfl, (by repeat (first | (with_reducible exact Below.refl _ _) | (with_reducible assumption) | ((with_reducible refine Below.setCell ?_ ?_ _); rotate_left; (first | omega | (simp <;> omega))) | ((with_reducible refine Below.alloc ?_ ?_ _); rotate_left; (first | omega | (simp <;> omega))) | ((with_reducible refine Below.drew ?_)) | ((with_reducible refine below_drewN ?_ _)) | ((with_reducible refine Below.trans ?_ (Below.mono (by with_reducible assumption) ?_)); rotate_left; (first | omega | (simp <;> omega)))))⟩
theorem net_one {l : Lnk} (h : l.May 16) : Net 16 1 (fun _ => l) := ⟨by omega, by omega, by omega, fun _ _ => h, fun i j h1 h2 => by omega⟩
theorem strip_one {w : World} {p : Nat} {l : Lnk} (h : Row w p (link l)) : Strip w (some ⟨p, 0, none⟩) 1 5 (fun _ => link l) := fun _ => ⟨_, rfl, h.2.2, fun i hi j hj => by
  obtain rfl : i = 0 := by omega
  rw [Nat.zero_mul, addr_add, addr_add, Nat.zero_add]
  exact h.1 j⟩
theorem Check_one (w : World) (p : Nat) (l : Lnk) (h1 : I64 l.src) (h2 : I64 l.dst) (h : Row w p (link l)) (r : Int) (hr : r = 0 ↔ l.May 16) (hr2 : r = 0 ∨ r = 2) : Calls Try.prog 15 #[.int .i64 16, .slice (some ⟨p, 0, none⟩) 1 1] w fun e w' => e = .returned (.int .i64 r) ∧ Below w.heap.size w w' := by
  have h0 := Check_calls w 16 (some ⟨p, 0, none⟩) 1 1 (fun _ => l) (by omega) (fun _ _ => ⟨h1, h2⟩) (strip_one h)
  have e : chk 16 1 (fun _ => l) = r := by
    by_cases hl : l.May 16
    · rw [chk_ok (net_one hl), hr.2 hl]
    · rw [chk_two (fun hn => hl (hn.may 0 (by omega))) (by omega)]
      rcases hr2 with h | h
      · exact absurd (hr.1 h) hl
      · exact h.symm
  rw [e] at h0
  exact h0
theorem info_size {t : TypeId} {n : Nat} (h : (Try.prog.info? t).map (fun i => i.size) = some n) : ∃ i, Try.prog.info? t = some i ∧ i.size = n := by
  cases hh : Try.prog.info? t with
  | none => rw [hh] at h; cases h
  | some i => rw [hh] at h; exact ⟨i, rfl, by simpa using h⟩
theorem info31 : (Try.prog.info? 31).map (fun i => i.size) = some 1 := by kernel_rfl
theorem index_runs (h : Nat → Int) (k : Nat) (hk : k < 8) (w : World) :
    (Instr.index 35 (.agg #[.int .u64 (h 0), .int .u64 (h 1), .int .u64 (h 2), .int .u64 (h 3), .int .u64 (h 4), .int .u64 (h 5), .int .u64 (h 6), .int .u64 (h 7)]) (.int .i64 (k : Int))).run Try.prog w = .ok (.int .u64 (h k)) w := by
  obtain ⟨i31, hi, hs⟩ := info_size info31
  have : k = 0 ∨ k = 1 ∨ k = 2 ∨ k = 3 ∨ k = 4 ∨ k = 5 ∨ k = 6 ∨ k = 7 := by omega
  clear hk
  rcases this with rfl | rfl | rfl | rfl | rfl | rfl | rfl | rfl
  all_goals simp [Instr.index, asIntOf, run_underlying Try.underlying35, sizeOf, typeInfo, hi, hs, part, isAgg, run_underlying Try.underlying31]
set_option maxHeartbeats 8000000 in
theorem May_calls (w : World) (x : Adv) (h1 : I64 x.src) (h2 : I64 x.dst) : Calls Try.prog 18 #[.agg #[.int .i64 x.src, .int .i64 x.dst, .int .u64 x.cap, .int .i64 x.metric, .int .u32 x.groups, .int .i64 x.seq, .bool x.up, .int .u64 (x.free 0), .int .u64 (x.free 1), .int .u64 (x.free 2), .int .u64 (x.free 3), .int .u64 (x.free 4), .int .u64 (x.free 5), .int .u64 (x.free 6), .int .u64 (x.free 7)]] w fun e w' => e = .returned (.bool (mayB x)) ∧ Below w.heap.size w w' := by
  by_cases hl : x.toLnk.May 16
  · have HC := Lib.hid fun (w' : World) (h : Row w' (w.heap.size + 1) #[.int .i64 x.src, .int .i64 x.dst, .int .u64 x.cap, .int .i64 x.metric, .int .u32 x.groups]) => Check_one w' (w.heap.size + 1) x.toLnk h1 h2 h 0 (by simp [hl]) (.inl rfl)
    by_cases hs : 0 ≤ x.seq ∧ x.seq ≤ 4294967295
    · obtain ⟨hs0, hs1⟩ := hs
      have HL := Lib.hid hl
      clear hl h1 h2
      go_enter Try.func18, Try.ntmps18
      go_wp2_with (go_at_call 15; (with_reducible refine (HC.out _ (Row.new' _ _ _ (by simp))).mono ?_); rintro e w1 ⟨rfl, hb⟩; have HR := Lib.hid (((Row.new w #[.int .i64 x.src, .int .i64 x.dst, .int .u64 x.cap, .int .i64 x.metric, .int .u32 x.groups, .int .i64 x.seq, .bool x.up, .int .u64 (x.free 0), .int .u64 (x.free 1), .int .u64 (x.free 2), .int .u64 (x.free 3), .int .u64 (x.free 4), .int .u64 (x.free 5), .int .u64 (x.free 6), .int .u64 (x.free 7)] 41).alloc (.cells #[.int .i64 x.src, .int .i64 x.dst, .int .u64 x.cap, .int .i64 x.metric, .int .u32 x.groups] 34)).later hb); obtain ⟨cR, fR, sR⟩ := HR.out)
      have HB := Lib.hid (show Below w.heap.size w w1 from (by repeat (first | (with_reducible exact Below.refl _ _) | (with_reducible assumption) | ((with_reducible refine Below.setCell ?_ ?_ _); rotate_left; (first | omega | (simp <;> omega))) | ((with_reducible refine Below.alloc ?_ ?_ _); rotate_left; (first | omega | (simp <;> omega))) | ((with_reducible refine Below.drew ?_)) | ((with_reducible refine below_drewN ?_ _)) | ((with_reducible refine Below.trans ?_ (Below.mono (by with_reducible assumption) ?_)); rotate_left; (first | omega | (simp <;> omega))))))
      clear hb cR fR sR
      go_loop [3, 26] (fun l i => ∃ k : Nat, k ≤ 8 ∧ i = .int .i64 (k : Int) ∧ l = .int .u64 (prev x k) ∧ ∀ j, j < k → x.free j ≤ prev x j) (fun _ i => 8 - (intOf i).toNat)
      case atStart => exact ⟨0, by omega, rfl, rfl, fun j hj => by omega⟩
      case round =>
        obtain ⟨k, hk, rfl, rfl, hj⟩ := hrel
        have HJ := Lib.hid hj
        clear hj
        by_cases hlt : k < 8
        · have hi := index_runs x.free k hlt
          by_cases hle : x.free k ≤ prev x k
          · go_wp2
            go_round
            case rel => exact ⟨k + 1, by omega, num_step k, rfl, fun j hj => by
              by_cases e : j = k
              · subst e; exact hle
              · exact HJ.out j (by omega)⟩
            case measure => exact measure_step hlt
          · have hgt : prev x k < x.free k := by omega
            clear hle
            go_wp2
            go_ret
            exact ⟨by rw [mayB_no fun h => by have := h.falls k hlt; omega]; rfl, HB.out⟩
        · obtain rfl : k = 8 := by omega
          go_wp2
          go_ret
          exact ⟨by rw [mayB_yes ⟨HL.out, hs0, hs1, HJ.out⟩]; rfl, HB.out⟩
    · have hm : mayB x = false := mayB_no fun h => hs ⟨h.s0, h.s1⟩
      rw [hm]
      clear hm hl h1 h2
      by_cases h3 : x.seq < 0
      · clear hs
        go_enter Try.func18, Try.ntmps18
        go_wp2_with (go_at_call 15; (with_reducible refine (HC.out _ (Row.new' _ _ _ (by simp))).mono ?_); rintro e w1 ⟨rfl, hb⟩; have HR := Lib.hid (((Row.new w #[.int .i64 x.src, .int .i64 x.dst, .int .u64 x.cap, .int .i64 x.metric, .int .u32 x.groups, .int .i64 x.seq, .bool x.up, .int .u64 (x.free 0), .int .u64 (x.free 1), .int .u64 (x.free 2), .int .u64 (x.free 3), .int .u64 (x.free 4), .int .u64 (x.free 5), .int .u64 (x.free 6), .int .u64 (x.free 7)] 41).alloc (.cells #[.int .i64 x.src, .int .i64 x.dst, .int .u64 x.cap, .int .i64 x.metric, .int .u32 x.groups] 34)).later hb); obtain ⟨cR, fR, sR⟩ := HR.out)
        go_ret
        exact ⟨rfl, (by repeat (first | (with_reducible exact Below.refl _ _) | (with_reducible assumption) | ((with_reducible refine Below.setCell ?_ ?_ _); rotate_left; (first | omega | (simp <;> omega))) | ((with_reducible refine Below.alloc ?_ ?_ _); rotate_left; (first | omega | (simp <;> omega))) | ((with_reducible refine Below.drew ?_)) | ((with_reducible refine below_drewN ?_ _)) | ((with_reducible refine Below.trans ?_ (Below.mono (by with_reducible assumption) ?_)); rotate_left; (first | omega | (simp <;> omega)))))⟩
      · have h4 : 4294967295 < x.seq := by omega
        have h5 : 0 ≤ x.seq := by omega
        clear hs h3
        go_enter Try.func18, Try.ntmps18
        go_wp2_with (go_at_call 15; (with_reducible refine (HC.out _ (Row.new' _ _ _ (by simp))).mono ?_); rintro e w1 ⟨rfl, hb⟩; have HR := Lib.hid (((Row.new w #[.int .i64 x.src, .int .i64 x.dst, .int .u64 x.cap, .int .i64 x.metric, .int .u32 x.groups, .int .i64 x.seq, .bool x.up, .int .u64 (x.free 0), .int .u64 (x.free 1), .int .u64 (x.free 2), .int .u64 (x.free 3), .int .u64 (x.free 4), .int .u64 (x.free 5), .int .u64 (x.free 6), .int .u64 (x.free 7)] 41).alloc (.cells #[.int .i64 x.src, .int .i64 x.dst, .int .u64 x.cap, .int .i64 x.metric, .int .u32 x.groups] 34)).later hb); obtain ⟨cR, fR, sR⟩ := HR.out)
        go_ret
        exact ⟨rfl, (by repeat (first | (with_reducible exact Below.refl _ _) | (with_reducible assumption) | ((with_reducible refine Below.setCell ?_ ?_ _); rotate_left; (first | omega | (simp <;> omega))) | ((with_reducible refine Below.alloc ?_ ?_ _); rotate_left; (first | omega | (simp <;> omega))) | ((with_reducible refine Below.drew ?_)) | ((with_reducible refine below_drewN ?_ _)) | ((with_reducible refine Below.trans ?_ (Below.mono (by with_reducible assumption) ?_)); rotate_left; (first | omega | (simp <;> omega)))))⟩
  · have HC := Lib.hid fun (w' : World) (h : Row w' (w.heap.size + 1) #[.int .i64 x.src, .int .i64 x.dst, .int .u64 x.cap, .int .i64 x.metric, .int .u32 x.groups]) => Check_one w' (w.heap.size + 1) x.toLnk h1 h2 h 2 (by simp [hl]) (.inr rfl)
    have hm : mayB x = false := mayB_no fun h => hl h.link
    rw [hm]
    clear hm hl h1 h2
    go_enter Try.func18, Try.ntmps18
    go_wp2_with (go_at_call 15; (with_reducible refine (HC.out _ (Row.new' _ _ _ (by simp))).mono ?_); rintro e w1 ⟨rfl, hb⟩; have HR := Lib.hid (((Row.new w #[.int .i64 x.src, .int .i64 x.dst, .int .u64 x.cap, .int .i64 x.metric, .int .u32 x.groups, .int .i64 x.seq, .bool x.up, .int .u64 (x.free 0), .int .u64 (x.free 1), .int .u64 (x.free 2), .int .u64 (x.free 3), .int .u64 (x.free 4), .int .u64 (x.free 5), .int .u64 (x.free 6), .int .u64 (x.free 7)] 41).alloc (.cells #[.int .i64 x.src, .int .i64 x.dst, .int .u64 x.cap, .int .i64 x.metric, .int .u32 x.groups] 34)).later hb); obtain ⟨cR, fR, sR⟩ := HR.out)
    go_ret
    exact ⟨rfl, (by repeat (first | (with_reducible exact Below.refl _ _) | (with_reducible assumption) | ((with_reducible refine Below.setCell ?_ ?_ _); rotate_left; (first | omega | (simp <;> omega))) | ((with_reducible refine Below.alloc ?_ ?_ _); rotate_left; (first | omega | (simp <;> omega))) | ((with_reducible refine Below.drew ?_)) | ((with_reducible refine below_drewN ?_ _)) | ((with_reducible refine Below.trans ?_ (Below.mono (by with_reducible assumption) ?_)); rotate_left; (first | omega | (simp <;> omega)))))⟩
end Go.Proofs.Yteaipeejhippiaa
