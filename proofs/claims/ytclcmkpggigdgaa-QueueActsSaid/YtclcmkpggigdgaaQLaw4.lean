/- A queue answers every call, in every order, as the document says. The walk of the law. -/
import Derived.Test.YtclcmkpggigdgaaQRPush
namespace Go.Proofs.Ytclcmkpggigdgaa
open Go.RowKit
attribute [local go_sem] cell_set_self

/-- The list's memory is none of the queue's. -/
def Sep (A : Option Addr) (Q : Nat) (v : Value) : Prop := ∀ ad, A = some ad → ad.block ≠ Q ∧ v.ownBlock ≠ some ad.block
theorem Strip.fr {w w' : World} {A : Option Addr} {n k Q : Nat} {f : Nat → Array Value} {v : Value} (h : Strip w A n k f) (hf : Fr w w' Q v.ownBlock) (hp : Sep A Q v) : Strip w' A n k f := fun h0 => by
  obtain ⟨ad, e, hl, hc⟩ := h h0
  obtain ⟨h1, h2⟩ := hp ad e
  exact ⟨ad, e, Nat.lt_of_lt_of_le hl hf.size, fun i hi j hj => (World.cell?_of_block (by rw [add_block, add_block]; exact hf.block _ hl h1 (Ne.symm h2))).trans (hc i hi j hj)⟩
structure ActRel (w wr : World) (base Q : Nat) (A : Option Addr) (c : Nat) (ls : List Item) (v : Value) (d : Nat → Item) : Prop where
  below : Below base w wr
  que : Que wr base Q v ls.length d
  cap : ls.length ≤ c
  len : ls.length ≤ 1024
  strip : Strip wr A ls.length 3 (fun i => itemRow (ls.getD i ⟨0, 0, 0⟩))
  sorted : Sorted ls
  same : ∀ y, many d ls.length y = ls.count y
  sep : Sep A Q v
theorem Strip.act {w w' : World} {A : Option Addr} {n k : Nat} {t : Nat → Bool} {x : Nat → Item} (h : Strip w A n 4 (fun i => actRow (t i) (x i))) (hb : Below w.heap.size w w') (hk : k < n) :
    ∃ ad, A = some ad ∧ ad.block < w.heap.size ∧ w'.cell? (ad.add (k * 4)) = some (.bool (t k)) ∧ w'.cell? ⟨(ad.add (k * 4)).block, (ad.add (k * 4)).off + 1, none⟩ = some (.int .i64 (x k).cost) ∧ w'.cell? ⟨(ad.add (k * 4)).block, (ad.add (k * 4)).off + 1 + 1, none⟩ = some (.int .i64 (x k).hops) ∧ w'.cell? ⟨(ad.add (k * 4)).block, (ad.add (k * 4)).off + 1 + 2, none⟩ = some (.int .i64 (x k).node) := by
  obtain ⟨ad, e, hl, hc⟩ := h (by omega)
  have g : ∀ j, j < 4 → w'.cell? ((ad.add (k * 4)).add j) = (actRow (t k) (x k))[j]? := fun j hj => (hb.cell (by rw [add_block, add_block]; exact hl)).trans (hc k hk j hj)
  exact ⟨ad, e, hl, g 0 (by omega), g 1 (by omega), g 2 (by omega), g 3 (by omega)⟩
set_option maxRecDepth 1000000 in
set_option maxHeartbeats 64000000 in
theorem QueueActs_walk (w : World) (A : Option Addr) (n c : Nat) (t : Nat → Bool) (x : Nat → Item) (hn : n ≤ 9223372036854775807) (hs : Strip w A n 4 (fun i => actRow (t i) (x i))) :
    Calls Try.prog 4 #[.slice A n c] w fun e w' => e = .returned (.bool true) ∧ Below w.heap.size w w' := by
  have hn5 : n ≤ 9223372036854775807 := hn
  have HS := Lib.hid hs
  have HA := Lib.hid alive_calls
  have HN := Lib.hid New_calls
  have TH := Lib.hid fun (k : Nat) (w : World) => theirs_calls (x k) w
  have OU := Lib.hid fun (y : Item) (w : World) => ours_calls y w
  have NE := fun (y : Item) w => neq_RItem y y w
  simp only [decide_true, Bool.not_true] at NE
  clear hs hn
  go_enter Try.func4, Try.ntmps4
  go_wp2_with (first | (go_at_call 11; (with_reducible refine (HA.out _).mono ?_); rintro e w1 ⟨rfl, hb⟩) | (go_at_call 12; (with_reducible refine (HN.out _).mono ?_); rintro e w2 ⟨rfl, rfl⟩))
  have HR := Lib.hid (show ActRel w (w1.alloc (.cells #[.bool true, .slice none 0 0] 52)) w.heap.size w1.heap.size none 0 [] (.slice none 0 0) (fun _ => ⟨0, 0, 0⟩) from ⟨hb.alloc hb.size _, Que.new w1 _ _, Nat.le_refl _, by simp, fun h => by simp at h, by simp [Sorted], fun y => by simp [many], fun ad e => by cases e⟩)
  have hQw : w.heap.size ≤ w1.heap.size := hb.size
  clear hb HA HN
  generalize w1.heap.size = Q at *
  have hQw2 : w.heap.size ≤ Q := hQw
  go_loopw [4, 5] (fun l i wr => ∃ (k : Nat) (ls : List Item) (B : Option Addr) (b : Nat) (v : Value) (d : Nat → Item), k ≤ n ∧ k ≤ 1200 ∧ i = .int .i64 (k : Int) ∧ l = .slice B ls.length b ∧ ActRel w wr w.heap.size Q B b ls v d) (fun _ i _ => n - (intOf i).toNat)
  case atStart => exact ⟨0, [], none, 0, _, _, by omega, by omega, rfl, rfl, HR.out⟩
  case round =>
    obtain ⟨k, ls, B, b, v, d, hk, hk2, rfl, rfl, hrl⟩ := hrel
    clear HR
    have HR := Lib.hid hrl
    have hQr : Q < wr.heap.size := hrl.que.blk.lt
    have hbs := hrl.below.size
    clear hrl
    by_cases hlt : k < n
    · have i0 : (0 : Int) ≤ (k : Int) := by omega
      have i1 : (k : Int) < (n : Int) := by omega
      by_cases hlt2 : k < 1200
      · have i2 : (k : Int) < 1200 := by omega
        obtain ⟨ad, rfl, hadb, g0, g1, g2, g3⟩ := HS.out.act HR.out.below hlt
        have hadb1 : (ad.add (k * 4)).block < wr.heap.size := by rw [add_block]; omega
        cases hT : t k with
        | true =>
          rw [hT] at g0
          clear hT
          rcases ls with _ | ⟨y, l'⟩
          · have HQ0 := Lib.hid (QNone_calls wr w.heap.size Q v d HR.out.que)
            have HP0 := Lib.hid fun w => (show Calls Try.prog 14 #[.slice B 0 b] w fun e w' => e = .returned (.tuple #[.slice B 0 b, .agg #[.int .i64 0, .int .i64 0, .int .i64 0], .int .i64 8]) ∧ Below w.heap.size w w' from RPop_none w B b)
            go_wp2_with (first | (go_at_call 13; (with_reducible refine HQ0.out.mono ?_); rintro e w3 ⟨rfl, h3⟩; have hs3 := h3.size) | (go_at_call 14; (with_reducible refine (HP0.out _).mono ?_); rintro e w4 ⟨rfl, h4⟩; have hs4 := h4.size; have z4 : w3.heap.size < w4.heap.size := (by simp at hs4; omega)))
            have R6 := Lib.hid (((Row.new w3 #[.int .i64 0, .int .i64 0, .int .i64 0] 25).later h4).alloc (.cells #[.int .i64 0, .int .i64 0, .int .i64 0] 23))
            have R9 := Lib.hid (Row.new w4 #[.int .i64 0, .int .i64 0, .int .i64 0] 23)
            have hw9 : Below wr.heap.size wr (w4.alloc (.cells #[.int .i64 0, .int .i64 0, .int .i64 0] 23)) := ((h3.alloc hs3 _).trans (h4.mono (by simp; omega))).alloc (by omega) _
            generalize w4.alloc (.cells #[.int .i64 0, .int .i64 0, .int .i64 0] 23) = w5 at *
            have HW9 := Lib.hid hw9
            have NE0 := fun w => NE ⟨0, 0, 0⟩ w
            clear h3 h4 hw9 NE
            obtain ⟨c6, f6, s6⟩ := R6.out
            obtain ⟨c9, f9, s9⟩ := R9.out
            (refine q_region (by kernel_rfl) (by kernel_rfl) ?_; (repeat (first | ((refine q_pure (v := ?_) rfl (fun w' hC => ?hrun) ?_); (case hrun => (obtain ⟨hq1, hq2⟩ := bcell hC; go_simp; with_reducible rfl)); refine q_norm (a' := ?_) ?_ ?_; rotate_left; (simp only [Act.put, List.setIfInBounds_toArray, List.set_cons_zero, List.set_cons_succ]; rfl)) | ((refine q_skip rfl ?_); refine q_norm (a' := ?_) ?_ ?_; rotate_left; (simp only [Act.put, List.setIfInBounds_toArray, List.set_cons_zero, List.set_cons_succ]; rfl)) | ((with_reducible refine q_callB (f := 15) (fun w' _ => (show Calls Try.prog 15 #[.agg #[.int .i64 0, .int .i64 0, .int .i64 0]] w' fun e w'' => e = .returned (.agg #[.int .i64 0, .int .i64 0, .int .i64 0]) ∧ Below w'.heap.size w' w'' from OU.out ⟨0, 0, 0⟩ w')) Try.func15 (by kernel_rfl) rfl rfl ?hw ?hargs ?_); (case hw => rfl); (case hargs => (simp only [List.map_toArray, List.map_cons, List.map_nil]; rfl)); refine q_norm (a' := ?_) ?_ ?_; rotate_left; (simp only [Act.put, List.setIfInBounds_toArray, List.set_cons_zero, List.set_cons_succ]; rfl)) )); with_reducible refine wpQuiet_nil ?_; intro wq hq)
            have hwq := HW9.out.trans (hq.mono HW9.out.size)
            have HL := Lib.hid (show Calls Try.prog 18 #[.pointer (some ⟨Q, 0, none⟩)] wq (fun e w' => e = .returned (.int .i64 0) ∧ wq = w') from by have hq9 := HR.out.que.later hwq; obtain ⟨A0, c0, e0⟩ := hq9.row.form; rw [e0] at hq9; exact QLen_calls wq Q _ A0 c0 hq9.blk)
            go_wp2_with (go_at_call 18; (with_reducible refine HL.out.mono ?_); rintro e w9 ⟨rfl, rfl⟩)
            go_roundw
            case rel => exact ⟨k + 1, [], B, b, v, d, by omega, by omega, num_step k, rfl, ⟨HR.out.below.trans (hwq.mono hbs), HR.out.que.later hwq, HR.out.cap, HR.out.len, HR.out.strip.below hwq, HR.out.sorted, HR.out.same, HR.out.sep⟩⟩
            case measure => exact measure_step hlt
          · have hd := Lib.hid (first_least HR.out.que.heap HR.out.sorted HR.out.same)
            have HQ1 := Lib.hid (show Calls Try.prog 13 #[.pointer (some ⟨Q, 0, none⟩)] wr fun e w' => e = .returned (.tuple #[.agg #[.int .i64 y.cost, .int .i64 y.hops, .int .i64 y.node], .int .i64 0]) ∧ TakePost wr w.heap.size Q v l'.length d (.returned (.tuple #[.agg #[.int .i64 (d 0).cost, .int .i64 (d 0).hops, .int .i64 (d 0).node], .int .i64 0])) w' from (QPop_calls wr w.heap.size Q l'.length v d HR.out.que (by have := HR.out.len; simp at this; omega)).mono fun e w' h => ⟨by rw [h.1, hd.out], ⟨rfl, h.2⟩⟩)
            have HP1 := Lib.hid fun (w' : World) (hst : Strip w' B (l'.length + 1) 3 (fun i => itemRow ((y :: l').getD i ⟨0, 0, 0⟩))) => (show Calls Try.prog 14 #[.slice B (l'.length + 1) b] w' fun e w'' => ∃ A c, e = .returned (.tuple #[.slice A l'.length c, .agg #[.int .i64 y.cost, .int .i64 y.hops, .int .i64 y.node], .int .i64 0]) ∧ l'.length ≤ c ∧ Strip w'' A l'.length 3 (fun i => itemRow (l'.getD i ⟨0, 0, 0⟩)) ∧ Below w'.heap.size w' w'' ∧ ∀ a, A = some a → ∃ b, B = some b ∧ a.block = b.block from RPop_some w' B l'.length b (fun i => (y :: l').getD i ⟨0, 0, 0⟩) HR.out.cap (by have := HR.out.len; simp at this; omega) hst)
            go_wp2_with (first | (go_at_call 13; (with_reducible refine HQ1.out.mono ?_); rintro e w3 ⟨rfl, _, v3, d3, hq3, hm3, hf3, ho3⟩; have hs3 := hf3.size; have HST := Lib.hid ((HR.out.strip.fr hf3 HR.out.sep).below ((Below.refl w3.heap.size w3).alloc (Nat.le_refl _) (.cells #[.int .i64 y.cost, .int .i64 y.hops, .int .i64 y.node] 25))); have HQ3 := Lib.hid hq3; have HM3 := Lib.hid hm3; have HF3 := Lib.hid hf3; have HO3 := Lib.hid ho3; clear hq3 hm3 hf3 ho3) | (go_at_call 14; (with_reducible refine (HP1.out _ HST.out).mono ?_); rintro e w4 ⟨A4, c4, rfl, hc4, hst4, h4, ha4⟩; have hs4 := h4.size; have z4 : w3.heap.size < w4.heap.size := (by simp at hs4; omega)))
            have R6 := Lib.hid (((Row.new w3 #[.int .i64 y.cost, .int .i64 y.hops, .int .i64 y.node] 25).later h4).alloc (.cells #[.int .i64 y.cost, .int .i64 y.hops, .int .i64 y.node] 23))
            have R9 := Lib.hid (Row.new w4 #[.int .i64 y.cost, .int .i64 y.hops, .int .i64 y.node] 23)
            have hw9 : Below w3.heap.size w3 (w4.alloc (.cells #[.int .i64 y.cost, .int .i64 y.hops, .int .i64 y.node] 23)) := (((Below.refl _ _).alloc (Nat.le_refl _) _).trans (h4.mono (by simp))).alloc (by omega) _
            have HS4 := Lib.hid (hst4.below ((Below.refl w4.heap.size w4).alloc (Nat.le_refl _) (.cells #[.int .i64 y.cost, .int .i64 y.hops, .int .i64 y.node] 23)))
            generalize w4.alloc (.cells #[.int .i64 y.cost, .int .i64 y.hops, .int .i64 y.node] 23) = w5 at *
            have HW9 := Lib.hid hw9
            have HC4 := Lib.hid hc4
            have HA4 := Lib.hid ha4
            have NE0 := fun w => NE y w
            clear h4 hw9 hst4 hc4 ha4 NE HST
            obtain ⟨c6, f6, s6⟩ := R6.out
            obtain ⟨c9, f9, s9⟩ := R9.out
            (refine q_region (by kernel_rfl) (by kernel_rfl) ?_; (repeat (first | ((refine q_pure (v := ?_) rfl (fun w' hC => ?hrun) ?_); (case hrun => (obtain ⟨hq1, hq2⟩ := bcell hC; go_simp; with_reducible rfl)); refine q_norm (a' := ?_) ?_ ?_; rotate_left; (simp only [Act.put, List.setIfInBounds_toArray, List.set_cons_zero, List.set_cons_succ]; rfl)) | ((refine q_skip rfl ?_); refine q_norm (a' := ?_) ?_ ?_; rotate_left; (simp only [Act.put, List.setIfInBounds_toArray, List.set_cons_zero, List.set_cons_succ]; rfl)) | ((with_reducible refine q_callB (f := 15) (fun w' _ => OU.out y w') Try.func15 (by kernel_rfl) rfl rfl ?hw ?hargs ?_); (case hw => rfl); (case hargs => (simp only [List.map_toArray, List.map_cons, List.map_nil]; rfl)); refine q_norm (a' := ?_) ?_ ?_; rotate_left; (simp only [Act.put, List.setIfInBounds_toArray, List.set_cons_zero, List.set_cons_succ]; rfl)) )); with_reducible refine wpQuiet_nil ?_; intro wq hq)
            have hwq := HW9.out.trans (hq.mono HW9.out.size)
            have HL := Lib.hid (show Calls Try.prog 18 #[.pointer (some ⟨Q, 0, none⟩)] wq (fun e w' => e = .returned (.int .i64 (l'.length : Int)) ∧ wq = w') from by have hq9 := HQ3.out.later hwq; obtain ⟨A0, c0, e0⟩ := hq9.row.form; rw [e0] at hq9; exact QLen_calls wq Q _ A0 c0 hq9.blk)
            go_wp2_with (go_at_call 18; (with_reducible refine HL.out.mono ?_); rintro e w9 ⟨rfl, rfl⟩)
            go_roundw
            case rel => exact ⟨k + 1, l', A4, c4, v3, d3, by omega, by omega, num_step k, rfl, ⟨(HR.out.below.trans (HR.out.que.keeps HF3.out hbs hQw2)).trans (hwq.mono (by omega)), HQ3.out.later hwq, HC4.out, by have := HR.out.len; simp at this; omega, HS4.out.below hq, (List.pairwise_cons.1 HR.out.sorted).2, fun z => by
              have h1 := HM3.out z
              have h2 := HR.out.same z
              rw [hd.out] at h1
              simp only [List.length_cons, List.count_cons] at h2
              by_cases e : y = z
              · subst e
                simp at h1 h2
                omega
              · simp [e] at h1 h2
                omega, fun a e => by
              obtain ⟨b0, e0, e1⟩ := HA4.out a e
              obtain ⟨h1, h2⟩ := HR.out.sep b0 e0
              rw [e1, HO3.out]
              exact ⟨h1, h2⟩⟩⟩
            case measure => exact measure_step hlt
        | false =>
          rw [hT] at g0
          clear hT
          by_cases hfull : ls.length < 1024
          · have HF1 := Lib.hid (show Calls Try.prog 16 #[.slice B ls.length b, .agg #[.int .i64 (x k).cost, .int .i64 (x k).hops, .int .i64 (x k).node]] wr fun e w'' => ∃ A c, e = .returned (.tuple #[.slice A (ls.length + 1) c, .int .i64 0]) ∧ ls.length + 1 ≤ c ∧ Strip w'' A (ls.length + 1) 3 (fun i => itemRow ((insr (x k) ls).getD i ⟨0, 0, 0⟩)) ∧ Below wr.heap.size wr w'' ∧ ∀ ad, A = some ad → wr.heap.size ≤ ad.block from RPush_some wr B b ls (x k) hfull HR.out.strip)
            have HQ1 := Lib.hid fun (w' : World) (hb : Below wr.heap.size wr w') => QPush_calls w' w.heap.size Q ls.length v d (x k) (HR.out.que.later hb) hfull (Nat.le_trans hbs hb.size)
            have HL0 := Lib.hid fun (w' : World) (v' : Value) (d' : Nat → Item) (hq : Que w' w.heap.size Q v' (ls.length + 1) d') => (show Calls Try.prog 18 #[.pointer (some ⟨Q, 0, none⟩)] w' (fun e w'' => e = .returned (.int .i64 ((ls.length : Int) + 1)) ∧ w' = w'') from by obtain ⟨A0, c0, e0⟩ := hq.row.form; rw [e0] at hq; exact QLen_calls w' Q _ A0 c0 hq.blk)
            clear NE
            go_wp2_with (first | (go_at_call 16; (with_reducible refine HF1.out.mono ?_); rintro e w3 ⟨A3, c3, rfl, hc3, hst3, h3, ha3⟩; obtain ⟨h31, h32⟩ := bcell' h3; have hs3 := h3.size; have HC3 := Lib.hid hc3; have HS3 := Lib.hid hst3; have HA3 := Lib.hid ha3; clear hc3 hst3 ha3) | (go_at_call 9; (with_reducible refine (TH.out k _).mono ?_); rintro e w4 ⟨rfl, h4⟩; have h34 := h3.trans (h4.mono hs3); have hs34 := h34.size) | (go_at_call 17; (with_reducible refine (HQ1.out _ h34).mono ?_); rintro e w5 ⟨rfl, v5, d5, hq5, hm5, hf5, ho5⟩; have HQ5 := Lib.hid hq5; have HM5 := Lib.hid hm5; have HF5 := Lib.hid hf5; have HO5 := Lib.hid ho5; clear hq5 hm5 hf5 ho5) | (go_at_call 18; (with_reducible refine (HL0.out _ _ _ HQ5.out).mono ?_); rintro e w6 ⟨rfl, rfl⟩))
            have hsep : Sep A3 Q v := fun a e => ⟨fun e2 => by have := HA3.out a e; omega, fun e2 => by have := HA3.out a e; have := (HR.out.que.row.lt _ e2).2; omega⟩
            go_roundw
            case rel =>
              refine ⟨k + 1, insr (x k) ls, A3, c3, v5, d5, by omega, by omega, num_step k, by rw [insr_length], ?_⟩
              have e1 := insr_length (x k) ls
              refine ⟨(HR.out.below.trans (h34.mono hbs)).trans ((HR.out.que.later h34).keeps HF5.out (Nat.le_trans hbs hs34) hQw2), by rw [e1]; exact HQ5.out, by rw [e1]; exact HC3.out, by omega, by rw [e1]; exact (HS3.out.below h4).fr HF5.out hsep, insr_sorted _ HR.out.sorted, fun y => by rw [e1, HM5.out y, HR.out.same y, insr_count], fun a e => ⟨(hsep a e).1, fun e2 => ?_⟩⟩
              rcases HO5.out _ e2 with h | h
              · exact (hsep a e).2 h
              · have hst := HS3.out (by omega)
                obtain ⟨ad', e', hl', _⟩ := hst
                rw [e] at e'
                injection e' with e'
                rw [← e'] at hl'
                have := h4.size
                omega
            case measure => exact measure_step hlt
          · have HF0 := Lib.hid (RPush_full wr B ls.length b (x k) (by omega) (by have := HR.out.len; omega))
            have HQ0 := Lib.hid fun (w' : World) (hb : Below wr.heap.size wr w') => QFull_calls w' w.heap.size Q ls.length v d (x k) (HR.out.que.later hb) (by omega) (by have := HR.out.len; omega)
            have HL0 := Lib.hid fun (w' : World) (hb : Below wr.heap.size wr w') => (show Calls Try.prog 18 #[.pointer (some ⟨Q, 0, none⟩)] w' (fun e w'' => e = .returned (.int .i64 (ls.length : Int)) ∧ w' = w'') from by have hq9 := HR.out.que.later hb; obtain ⟨A0, c0, e0⟩ := hq9.row.form; rw [e0] at hq9; exact QLen_calls w' Q _ A0 c0 hq9.blk)
            clear NE
            go_wp2_with (first | (go_at_call 16; (with_reducible refine HF0.out.mono ?_); rintro e w3 ⟨rfl, h3⟩; obtain ⟨h31, h32⟩ := bcell' h3; have hs3 := h3.size) | (go_at_call 9; (with_reducible refine (TH.out k _).mono ?_); rintro e w4 ⟨rfl, h4⟩; have h34 := h3.trans (h4.mono hs3)) | (go_at_call 17; (with_reducible refine (HQ0.out _ h34).mono ?_); rintro e w5 ⟨rfl, h5⟩; have h35 := h34.trans (h5.mono h34.size)) | (go_at_call 18; (with_reducible refine (HL0.out _ h35).mono ?_); rintro e w6 ⟨rfl, rfl⟩))
            go_roundw
            case rel => exact ⟨k + 1, ls, B, b, v, d, by omega, by omega, num_step k, rfl, ⟨HR.out.below.trans (h35.mono hbs), HR.out.que.later h35, HR.out.cap, HR.out.len, HR.out.strip.below h35, HR.out.sorted, HR.out.same, HR.out.sep⟩⟩
            case measure => exact measure_step hlt
      · obtain rfl : k = 1200 := by omega
        go_wp2
        go_ret
        exact ⟨rfl, HR.out.below⟩
    · obtain rfl : n = k := by omega
      have i3 : decide (n < n) = false := decide_eq_false (by omega)
      go_wp2
      go_ret
      exact ⟨rfl, HR.out.below⟩
end Go.Proofs.Ytclcmkpggigdgaa
