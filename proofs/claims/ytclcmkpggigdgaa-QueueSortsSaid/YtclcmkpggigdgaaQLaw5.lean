/- Items that were pushed are popped in order, each as often as it was pushed. The walk of the law. -/
import Derived.Test.YtclcmkpggigdgaaQRPush
import Derived.Test.YtclcmkpggigdgaaQLaw6
import Derived.Deep.OwnRows
namespace Go.Proofs.Ytclcmkpggigdgaa
open Go.RowKit
attribute [local go_sem] cell_set_self

/-- How many of the first n are x, and are not had. -/
def left (x : Nat → Item) (h : Nat → Bool) : Nat → Item → Nat
  | 0, _ => 0
  | n + 1, y => left x h n y + if x n = y ∧ h n = false then 1 else 0
theorem left_none (x : Nat → Item) (y : Item) : ∀ n, left x (fun _ => false) n y = many x n y
  | 0 => rfl
  | n + 1 => by simp [left, many, left_none x y n]
theorem left_pos {x : Nat → Item} {h : Nat → Bool} {y : Item} : ∀ {n}, 0 < left x h n y → ∃ k, k < n ∧ x k = y ∧ h k = false
  | n + 1, hp => by
    simp only [left] at hp
    by_cases e : x n = y ∧ h n = false
    · exact ⟨n, by omega, e.1, e.2⟩
    · rw [if_neg e] at hp
      obtain ⟨k, h1, h2⟩ := left_pos (by omega : 0 < left x h n y)
      exact ⟨k, by omega, h2⟩
def mark (h : Nat → Bool) (k : Nat) : Nat → Bool := fun j => if j = k then true else h j
theorem left_congr {x : Nat → Item} {h g : Nat → Bool} {y : Item} : ∀ {n}, (∀ j, j < n → h j = g j) → left x h n y = left x g n y
  | 0, _ => rfl
  | n + 1, e => by simp only [left]; rw [left_congr (fun j hj => e j (by omega)), e n (by omega)]
theorem left_mark {x : Nat → Item} {h : Nat → Bool} {y : Item} {k : Nat} (hk : h k = false) : ∀ {n}, k < n → left x (mark h k) n y + (if x k = y then 1 else 0) = left x h n y
  | n + 1, hn => by
    simp only [left]
    by_cases e : k = n
    · subst e
      have h1 : left x (mark h k) k y = left x h k y := left_congr fun j hj => by simp [mark, show j ≠ k by omega]
      rw [h1]
      simp [mark, hk]
    · have h1 := left_mark (x := x) (y := y) hk (n := n) (by omega)
      have h2 : mark h k n = h n := by simp [mark, show n ≠ k by omega]
      rw [h2]
      omega
/-- A row of bools. -/
def Had (w : World) (B m : Nat) (h : Nat → Bool) : Prop := ∃ cur, Blk w B 4 cur ∧ cur.size = m ∧ ∀ j, j < m → cur[j]? = some (.bool (h j))
theorem Had.cell {w : World} {B m : Nat} {h : Nat → Bool} (hh : Had w B m h) {j : Nat} (hj : j < m) : w.cell? ⟨B, j, none⟩ = some (.bool (h j)) := by
  obtain ⟨cur, h1, _, h3⟩ := hh
  exact (h1.cell j).trans (h3 j hj)
theorem Had.frozen {w : World} {B m : Nat} {h : Nat → Bool} (hh : Had w B m h) (j : Nat) : w.frozen? ⟨B, j, none⟩ = false := by
  obtain ⟨cur, h1, _⟩ := hh
  exact h1.frozen j
theorem Had.lt {w : World} {B m : Nat} {h : Nat → Bool} (hh : Had w B m h) : B < w.heap.size := by obtain ⟨cur, h1, _⟩ := hh; exact h1.lt
theorem Had.later {w w' : World} {B m : Nat} {h : Nat → Bool} (hh : Had w B m h) (hb : Below w.heap.size w w') : Had w' B m h := by
  obtain ⟨cur, h1, h2⟩ := hh
  exact ⟨cur, h1.later hb, h2⟩
theorem Had.fr {w w' : World} {B m Q : Nat} {o : Option Nat} {h : Nat → Bool} (hh : Had w B m h) (hf : Fr w w' Q o) (hQ : B ≠ Q) (ho : some B ≠ o) : Had w' B m h := by
  obtain ⟨cur, h1, h2⟩ := hh
  exact ⟨cur, h1.fr hf hQ ho, h2⟩
theorem Had.far {w : World} {B m : Nat} {h : Nat → Bool} (hh : Had w B m h) {p : Addr} (hp : B ≠ p.block) (u : Value) : Had (w.setCell p u) B m h := by
  obtain ⟨cur, h1, h2⟩ := hh
  exact ⟨cur, h1.far hp u, h2⟩
theorem Had.mark {w : World} {B m k : Nat} {h : Nat → Bool} (hh : Had w B m h) (hk : k < m) : Had (w.setCell ⟨B, k, none⟩ (.bool true)) B m (mark h k) := by
  obtain ⟨cur, h1, h2, h3⟩ := hh
  refine ⟨_, h1.set_ k _, by simpa using h2, fun j hj => ?_⟩
  by_cases e : k = j
  · subst e
    rw [Array.getElem?_setIfInBounds_self]
    simp [Go.Proofs.Ytclcmkpggigdgaa.mark, h2, hk]
  · rw [Array.getElem?_setIfInBounds_ne e, h3 j hj]
    simp [Go.Proofs.Ytclcmkpggigdgaa.mark, Ne.symm e]
theorem Had.new (w : World) (m : Nat) : Had (w.alloc (.cells (madeCells #[.bool false] m) 4)) w.heap.size m (fun _ => false) := by
  have hr := World.rowIs_made w (.bool false) m 4
  refine ⟨madeCells #[.bool false] m, Blk.new w _ _, by simp [madeCells], fun j hj => ?_⟩
  have h1 := hr.cell hj
  rw [(Blk.new w 4 (madeCells #[.bool false] m)).cell j] at h1
  exact h1
theorem infoBool : (Try.prog.info? 4).map (fun i => (i.zero, i.size, i.bytes)) = some (some (.bool false), 1, 1) := by kernel_rfl
theorem Que.far {w : World} {base Q n : Nat} {v : Value} {d : Nat → Item} (h : Que w base Q v n d) {p : Addr} (hp : Q ≠ p.block) (ho : v.ownBlock ≠ some p.block) (u : Value) : Que (w.setCell p u) base Q v n d :=
  ⟨h.blk.far hp u, h.row.of_block fun g hg => Below.heap_setCell w p u g (fun e => ho (by rw [hg, e])), h.heap, h.ne⟩
set_option maxRecDepth 1000000 in
set_option maxHeartbeats 64000000 in
theorem QueueSorts_walk (w : World) (A : Option Addr) (n c : Nat) (x : Nat → Item) (hn : n ≤ 9223372036854775807) (hs : Strip w A n 3 (fun i => itemRow (x i))) :
    Calls Try.prog 5 #[.slice A n c] w fun e w' => e = .returned (.bool true) ∧ Below w.heap.size w w' := by
  have hn5 : n ≤ 9223372036854775807 := hn
  have HS := Lib.hid hs
  have HA := Lib.hid alive_calls
  have HN := Lib.hid New_calls
  have TH := Lib.hid fun (k : Nat) (w : World) => theirs_calls (x k) w
  clear hs hn
  go_enter Try.func5, Try.ntmps5
  go_wp2_with (first | (go_at_call 11; (with_reducible refine (HA.out _).mono ?_); rintro e w1 ⟨rfl, hb⟩) | (go_at_call 12; (with_reducible refine (HN.out _).mono ?_); rintro e w2 ⟨rfl, rfl⟩))
  have HQ := Lib.hid (Que.new w1 w.heap.size (fun _ => ⟨0, 0, 0⟩))
  have HB := Lib.hid (hb.alloc hb.size (.cells #[.bool true, .slice none 0 0] 52))
  have hQw : w.heap.size ≤ w1.heap.size := hb.size
  clear hb HA HN
  generalize w1.heap.size = Q at *
  have hQw2 : w.heap.size ≤ Q := hQw
  have HP := Lib.hid fun (w' : World) (k : Nat) (hk : k < 400) (v : Value) (d : Nat → Item) (hq : Que w' w.heap.size Q v k d) (hb : w.heap.size ≤ w'.heap.size) => QPush_calls w' w.heap.size Q k v d (x k) hq (by omega) hb
  go_loopw [4] (fun i wr => ∃ (k : Nat) (v : Value) (d : Nat → Item), k ≤ n ∧ k ≤ 400 ∧ i = .int .i64 (k : Int) ∧ Below w.heap.size w wr ∧ Que wr w.heap.size Q v k d ∧ ∀ y, many d k y = many x k y) (fun i _ => n - (intOf i).toNat)
  case atStart => exact ⟨0, _, _, by omega, by omega, rfl, HB.out, HQ.out, fun _ => rfl⟩
  case round =>
    obtain ⟨k, v, d, hk, hk2, rfl, hbel, hq, hm⟩ := hrel
    clear HQ HB
    have HQ := Lib.hid hq
    have HB := Lib.hid hbel
    have HM := Lib.hid hm
    have hQr : Q < wr.heap.size := hq.blk.lt
    have hbs := hbel.size
    clear hq hbel hm
    by_cases hlt : k < n ∧ k < 400
    · obtain ⟨hlt, hlt4⟩ := hlt
      have i1 : (k : Int) < (n : Int) := by omega
      have i2 : (k : Int) < 400 := by omega
      obtain ⟨ad, rfl, hadb, g0, g1, g2⟩ := HS.out.item HB.out hlt
      go_wp2_with (first | (go_at_call 9; (with_reducible refine (TH.out k _).mono ?_); rintro e w3 ⟨rfl, hb3⟩; have hs3 := hb3.size) | (go_at_call 17; (with_reducible refine (HP.out _ k hlt4 v d (HQ.out.later hb3) (by omega)).mono ?_); rintro e w4 ⟨rfl, v4, d4, hq4, hm4, hf4, _⟩; have hk4 := (HQ.out.later hb3).keeps hf4 (by omega) hQw2))
      go_roundw
      case rel => exact ⟨k + 1, v4, d4, by omega, by omega, num_step k, (HB.out.trans (hb3.mono (by omega))).trans hk4, hq4, fun y => by rw [hm4 y, HM.out y]; rfl⟩
      case measure => exact measure_step hlt
    · have hex : decide (k < n) = false ∨ ((k : Int) < (n : Int) ∧ ¬ ((k : Int) < 400)) := by
        by_cases e : k < n
        · exact .inr ⟨by omega, by omega⟩
        · exact .inl (decide_eq_false e)
      clear hlt
      rcases hex with i1 | ⟨i1, i2⟩
      all_goals
        have HMK := fun (w : World) => run_make_row' (P := Try.prog) 46 4 (.bool false) 1 Try.underlying46 infoBool rfl .i64 .i64 k (by omega) (by omega) w
        clear HP
        go_wp2_with fail
        have HH := Lib.hid ((Had.new wr k).later ((Below.refl _ _).alloc (Nat.le_refl _) (.cells #[.int .i64 0, .int .i64 0, .int .i64 0] 23)))
        have RL := Lib.hid (Row.new' (wr.alloc (.cells (madeCells #[.bool false] k) 4)) (B := wr.heap.size + 1) #[.int .i64 0, .int .i64 0, .int .i64 0] 23 (by simp))
        have hw0 : Below wr.heap.size wr ((wr.alloc (.cells (madeCells #[.bool false] k) 4)).alloc (.cells #[.int .i64 0, .int .i64 0, .int .i64 0] 23)) := ((Below.refl _ _).alloc (Nat.le_refl _) _).alloc (by simp) _
        have HQ2 := Lib.hid (HQ.out.later hw0)
        have HB2 := Lib.hid (HB.out.trans (hw0.mono hbs))
        have hv1 := Lib.hid (show ∀ B, wr.heap.size ≤ B → v.ownBlock ≠ some B from fun B hB e => by have := (HQ.out.row.lt B e).2; omega)
        clear hw0 HMK
        generalize wr.heap.size = H at *
        go_loopw [40] (fun ii ww => ∃ (i p : Nat) (v' : Value) (d' : Nat → Item) (h : Nat → Bool) (last : Item), i + p = k ∧ ii = .int .i64 (i : Int) ∧ Below w.heap.size w ww ∧ Que ww w.heap.size Q v' p d' ∧ Had ww H k h ∧ Row ww (H + 1) #[.int .i64 last.cost, .int .i64 last.hops, .int .i64 last.node] ∧ (0 < i → ∀ y, 0 < many d' p y → ¬ Less y last) ∧ (∀ y, many d' p y = left x h k y) ∧ (v'.ownBlock ≠ some H ∧ v'.ownBlock ≠ some (H + 1))) (fun ii _ => k - (intOf ii).toNat)
        case atStart => exact ⟨0, k, v, d, _, ⟨0, 0, 0⟩, by omega, rfl, HB2.out, HQ2.out, HH.out, RL.out, fun h => absurd h (by omega), fun y => by rw [HM.out y, left_none], hv1.out _ (Nat.le_refl _), hv1.out _ (Nat.le_succ _)⟩
        case round =>
          clear HQ HB HM HH RL HQ2 HB2 hv1
          obtain ⟨i, p, v', d', h, last, hip, rfl, hbel, hq, hh, hl, hlast, hsame, hs1, hs2⟩ := hrel
          have HB := Lib.hid hbel
          have HQ := Lib.hid hq
          have HH := Lib.hid hh
          have HL := Lib.hid hl
          have HLA := Lib.hid hlast
          have HSA := Lib.hid hsame
          have HS1 := Lib.hid hs1
          have HS2 := Lib.hid hs2
          have hQr2 : Q < wr.heap.size := hq.blk.lt
          have hbs2 := hbel.size
          clear hbel hq hh hl hlast hsame hs1 hs2
          by_cases hlt : i < k
          · obtain ⟨p, rfl⟩ : ∃ p', p = p' + 1 := ⟨p - 1, by omega⟩
            have HT := Lib.hid (QPop_calls wr w.heap.size Q p v' d' HQ.out (by omega))
            have hik : (i : Int) < (k : Int) := by omega
            go_wp2_with (go_at_call 13; (with_reducible refine HT.out.mono ?_); rintro e w3 ⟨rfl, v3, d3, hq3, hm3, hf3, ho3⟩; have HQ3 := Lib.hid hq3; have HM3 := Lib.hid hm3; have HF3 := Lib.hid hf3; have HO3 := Lib.hid ho3; clear hq3 hm3 hf3 ho3)
            have hs3 := HF3.out.size
            have HB3 := Lib.hid (HB.out.trans (HQ.out.keeps HF3.out hbs2 hQw2))
            have HH3 := Lib.hid (HH.out.fr HF3.out (by omega) (Ne.symm HS1.out))
            have HL3 := Lib.hid (HL.out.fr HF3.out (by omega) (Ne.symm HS2.out))
            have OU := Lib.hid fun (w : World) => ours_calls (d' 0) w
            have hno : 0 < i → lessB (d' 0) last = false := fun h0 => decide_eq_false (HLA.out h0 _ (many_zero (by omega)))
            have hle : ∀ y, 0 < many d3 p y → ¬ Less y (d' 0) := fun y hy => HQ.out.least (by have := HM3.out y; omega)
            have hcount : ∀ y, many d3 p y + (if d' 0 = y then 1 else 0) = left x h k y := fun y => (HM3.out y).trans (HSA.out y)
            have hex2 : ∃ j, j < k ∧ x j = d' 0 ∧ h j = false := left_pos (by rw [← hcount]; simp)
            have HNO := Lib.hid hno
            have HLE := Lib.hid hle
            have HCO := Lib.hid hcount
            have HEX := Lib.hid hex2
            clear hno hle hcount hex2 HT HLA HSA HM3
            obtain ⟨a, ha⟩ : ∃ a, d' 0 = a := ⟨_, rfl⟩
            rw [ha] at OU HNO HLE HCO HEX
            simp only [ha]
            clear ha
            have R8 := Lib.hid (Row.new w3 #[.int .i64 a.cost, .int .i64 a.hops, .int .i64 a.node] 25)
            have HH4 := Lib.hid (HH3.out.later ((Below.refl _ _).alloc (Nat.le_refl _) (.cells #[.int .i64 a.cost, .int .i64 a.hops, .int .i64 a.node] 25)))
            have HL4 := Lib.hid (HL3.out.alloc (.cells #[.int .i64 a.cost, .int .i64 a.hops, .int .i64 a.node] 25))
            have HQ4 := Lib.hid (HQ3.out.later ((Below.refl _ _).alloc (Nat.le_refl _) (.cells #[.int .i64 a.cost, .int .i64 a.hops, .int .i64 a.node] 25)))
            have HB4 := Lib.hid (HB3.out.alloc (by omega) (.cells #[.int .i64 a.cost, .int .i64 a.hops, .int .i64 a.node] 25))
            clear HH3 HL3 HQ3 HB3 HF3 HB HQ HH HL
            generalize hZ : w3.heap.size = Z at *
            have hZs : Z < (w3.alloc (.cells #[.int .i64 a.cost, .int .i64 a.hops, .int .i64 a.node] 25)).heap.size := R8.out.2.2
            clear hZ
            generalize w3.alloc (.cells #[.int .i64 a.cost, .int .i64 a.hops, .int .i64 a.node] 25) = w4 at *
            obtain ⟨c8, f8, s8⟩ := R8.out
            obtain ⟨cl, fl, sl⟩ := HL4.out
            by_cases hi0 : 0 < i
            · have i0 : (0 : Int) < (i : Int) := by omega
              have LE := Lib.hid fun (w : World) => (show Calls Try.prog 10 #[.agg #[.int .i64 a.cost, .int .i64 a.hops, .int .i64 a.node], .agg #[.int .i64 last.cost, .int .i64 last.hops, .int .i64 last.node]] w fun e w' => e = .returned (.bool false) ∧ Below w.heap.size w w' from by have h := RLess_calls a last w; rw [HNO.out hi0] at h; exact h)
              (refine q_region (by kernel_rfl) (by kernel_rfl) ?_; (repeat (first | ((refine q_pure (v := ?_) rfl (fun w' hC => ?hrun) ?_); (case hrun => (obtain ⟨hq1, hq2⟩ := bcell hC; go_simp; with_reducible rfl)); refine q_norm (a' := ?_) ?_ ?_; rotate_left; (simp only [Act.put, List.setIfInBounds_toArray, List.set_cons_zero, List.set_cons_succ]; rfl)) | ((refine q_skip rfl ?_); refine q_norm (a' := ?_) ?_ ?_; rotate_left; (simp only [Act.put, List.setIfInBounds_toArray, List.set_cons_zero, List.set_cons_succ]; rfl)) | ((with_reducible refine q_callB (f := 15) (fun w' _ => OU.out w') Try.func15 (by kernel_rfl) rfl rfl ?hw ?hargs ?_); (case hw => rfl); (case hargs => (simp only [List.map_toArray, List.map_cons, List.map_nil]; rfl)); refine q_norm (a' := ?_) ?_ ?_; rotate_left; (simp only [Act.put, List.setIfInBounds_toArray, List.set_cons_zero, List.set_cons_succ]; rfl)) | ((with_reducible refine q_callB (f := 10) (fun w' _ => LE.out w') Try.func10 (by kernel_rfl) rfl rfl ?hw ?hargs ?_); (case hw => rfl); (case hargs => (simp only [List.map_toArray, List.map_cons, List.map_nil]; rfl)); refine q_norm (a' := ?_) ?_ ?_; rotate_left; (simp only [Act.put, List.setIfInBounds_toArray, List.set_cons_zero, List.set_cons_succ]; rfl)) )); with_reducible refine wpQuiet_nil ?_; intro wq hq)
              obtain ⟨hq1, hq2⟩ := bcell hq
              have hqs := hq.size
              have zq : H + 1 < wq.heap.size := Nat.lt_of_lt_of_le sl hqs
              clear HNO
              go_wp2_with (go_at_call 15; (with_reducible refine (OU.out _).mono ?_); rintro e w5 ⟨rfl, h5⟩; obtain ⟨h51, h52⟩ := bcell h5; have hs5 := h5.size; have z5 : H + 1 < w5.heap.size := Nat.lt_of_lt_of_le sl (Nat.le_trans hqs hs5))
              have h45 := hq.trans (h5.mono hqs)
              have rl := ((((HL4.out.later h45).set 0 (.int .i64 a.cost)).set 1 (.int .i64 a.hops)).set 2 (.int .i64 a.node))
              simp only [List.setIfInBounds_toArray, List.set_cons_zero, List.set_cons_succ] at rl
              have hh5 := (((HH4.out.later h45).far (p := ⟨H + 1, 0, none⟩) (by show H ≠ H + 1; omega) (.int .i64 a.cost)).far (p := ⟨H + 1, 1, none⟩) (by show H ≠ H + 1; omega) (.int .i64 a.hops)).far (p := ⟨H + 1, 2, none⟩) (by show H ≠ H + 1; omega) (.int .i64 a.node)
              have hb5 := ((((HB4.out.trans (h45.mono HB4.out.size)).setCell (p := ⟨H + 1, 0, none⟩) (by show _ ≤ H + 1; omega) (.int .i64 a.cost)).setCell (p := ⟨H + 1, 1, none⟩) (by show _ ≤ H + 1; omega) (.int .i64 a.hops)).setCell (p := ⟨H + 1, 2, none⟩) (by show _ ≤ H + 1; omega) (.int .i64 a.node))
              have hq5 := (((HQ4.out.later h45).far (p := ⟨H + 1, 0, none⟩) (by show Q ≠ H + 1; omega) (by show v3.ownBlock ≠ some (H + 1); rw [HO3.out]; exact HS2.out) (.int .i64 a.cost)).far (p := ⟨H + 1, 1, none⟩) (by show Q ≠ H + 1; omega) (by show v3.ownBlock ≠ some (H + 1); rw [HO3.out]; exact HS2.out) (.int .i64 a.hops)).far (p := ⟨H + 1, 2, none⟩) (by show Q ≠ H + 1; omega) (by show v3.ownBlock ≠ some (H + 1); rw [HO3.out]; exact HS2.out) (.int .i64 a.node)
              have RL5 := Lib.hid rl
              have HH5 := Lib.hid hh5
              have HB5 := Lib.hid hb5
              have HQ5 := Lib.hid hq5
              clear h5 h51 h52 hq hq1 hq2 hs5 z5 zq h45 rl hh5 hb5 hq5 c8 f8 s8 cl fl sl hZs HL4 HH4 HB4 HQ4 R8 OU
              generalize ((w5.setCell ⟨H + 1, 0, none⟩ (.int .i64 a.cost)).setCell ⟨H + 1, 1, none⟩ (.int .i64 a.hops)).setCell ⟨H + 1, 2, none⟩ (.int .i64 a.node) = w6 at *
              have HZ := Lib.hid (Below.refl w6.heap.size w6)
              go_loopw [10] (fun jj ww => ∃ j : Nat, j ≤ k ∧ jj = .int .i64 (j : Int) ∧ Below w6.heap.size w6 ww ∧ ∀ u, u < j → ¬ (x u = a ∧ h u = false)) (fun jj _ => k - (intOf jj).toNat)
              case atStart => exact ⟨0, by omega, rfl, HZ.out, fun u hu => by omega⟩
              case round =>
                clear HZ
                obtain ⟨j, hjk, rfl, hz, hnot⟩ := hrel
                have HZ := Lib.hid hz
                have HNT := Lib.hid hnot
                clear hnot
                have hjlt : j < k := by
                  obtain ⟨u, h1, h2, h3⟩ := HEX.out
                  by_cases e : j = k
                  · exact absurd ⟨h2, h3⟩ (HNT.out u (by omega))
                  · omega
                have gH := (HH5.out.later hz).cell hjlt
                have fH := (HH5.out.later hz).frozen j
                have sH := (HH5.out.later hz).lt
                obtain ⟨cl, fl, sl⟩ := RL5.out.later hz
                have hzs := hz.size
                clear hz
                obtain ⟨ad, hAd, hadb, g0, g1, g2⟩ := HS.out.item (HB5.out.trans (HZ.out.mono HB5.out.size)) (k := j) (by omega)
                subst hAd
                have j0 : (0 : Int) ≤ (j : Int) := by omega
                have j1 : (j : Int) < (k : Int) := by omega
                have j2 : (j : Int) < (n : Int) := by omega
                have jn : ((j : Int) == (k : Int)) = false := by rw [beq_eq_false_iff_ne]; omega
                cases hj : h j with
                | true =>
                  rw [hj] at gH
                  have HJ := Lib.hid hj
                  clear hj
                  go_wp2
                  go_quiet (fail)
                  go_wp2
                  go_roundw
                  case rel => exact ⟨j + 1, by omega, num_step j, Go.Proofs.Ytclcmkpggigdgaa.below_drewN HZ.out _, fun u hu => by
                    rcases Nat.lt_succ_iff_lt_or_eq.1 hu with e | rfl
                    · exact HNT.out u e
                    · rw [HJ.out]; simp⟩
                  case measure => exact measure_step hjlt
                | false =>
                  rw [hj] at gH
                  have HJ := Lib.hid hj
                  clear hj
                  have NE := fun w => neq_RItem (x j) a w
                  by_cases hxa : x j = a
                  · simp only [hxa, decide_true, Bool.not_true] at NE
                    have HXA := Lib.hid hxa
                    rw [hxa] at g0 g1 g2
                    clear hxa
                    go_wp2
                    go_quiet (fail)
                    go_wp2
                    go_roundw
                    case rel =>
                      have hzz := Go.Proofs.Ytclcmkpggigdgaa.below_drewN HZ.out nq
                      refine ⟨i + 1, p, v3, d3, mark h j, a, by omega, num_step i, ((HB5.out.trans (hzz.mono HB5.out.size)).setCell (p := ⟨H, j, none⟩) (by show _ ≤ H; omega) _), (HQ5.out.later hzz).far (p := ⟨H, j, none⟩) (by show Q ≠ H; omega) (by show v3.ownBlock ≠ some H; rw [HO3.out]; exact HS1.out) _, (HH5.out.later hzz).mark hjlt, (RL5.out.later hzz).far (a := ⟨H, j, none⟩) (by show H ≠ H + 1; omega) _, fun _ => HLE.out, fun y => ?_, by rw [HO3.out]; exact HS1.out, by rw [HO3.out]; exact HS2.out⟩
                      have h1 := left_mark (x := x) (y := y) HJ.out hjlt
                      have h2 := HCO.out y
                      rw [HXA.out] at h1
                      omega
                    case measure => exact measure_step hlt
                  · have hxa' : decide (x j = a) = false := decide_eq_false hxa
                    simp only [hxa', Bool.not_false] at NE
                    have HXA := Lib.hid hxa
                    clear hxa hxa'
                    go_wp2
                    go_quiet (fail)
                    go_wp2
                    go_roundw
                    case rel => exact ⟨j + 1, by omega, num_step j, Go.Proofs.Ytclcmkpggigdgaa.below_drewN HZ.out _, fun u hu => by
                      rcases Nat.lt_succ_iff_lt_or_eq.1 hu with e | rfl
                      · exact HNT.out u e
                      · exact fun e => HXA.out e.1⟩
                    case measure => exact measure_step hjlt
            · have i0 : decide (0 < i) = false := decide_eq_false hi0
              have i0' : decide ((0 : Int) < (i : Int)) = false := decide_eq_false (by omega)
              go_quiet (fail)
              have hq : Below w4.heap.size w4 (w4.drewN nq) := Go.Proofs.Ytclcmkpggigdgaa.below_drewN (Below.refl _ _) nq
              generalize w4.drewN nq = wq at hq ⊢
              clear i0 i0'
              obtain ⟨hq1, hq2⟩ := bcell hq
              have hqs := hq.size
              have zq : H + 1 < wq.heap.size := Nat.lt_of_lt_of_le sl hqs
              clear HNO
              go_wp2_with (go_at_call 15; (with_reducible refine (OU.out _).mono ?_); rintro e w5 ⟨rfl, h5⟩; obtain ⟨h51, h52⟩ := bcell h5; have hs5 := h5.size; have z5 : H + 1 < w5.heap.size := Nat.lt_of_lt_of_le sl (Nat.le_trans hqs hs5))
              have h45 := hq.trans (h5.mono hqs)
              have rl := ((((HL4.out.later h45).set 0 (.int .i64 a.cost)).set 1 (.int .i64 a.hops)).set 2 (.int .i64 a.node))
              simp only [List.setIfInBounds_toArray, List.set_cons_zero, List.set_cons_succ] at rl
              have hh5 := (((HH4.out.later h45).far (p := ⟨H + 1, 0, none⟩) (by show H ≠ H + 1; omega) (.int .i64 a.cost)).far (p := ⟨H + 1, 1, none⟩) (by show H ≠ H + 1; omega) (.int .i64 a.hops)).far (p := ⟨H + 1, 2, none⟩) (by show H ≠ H + 1; omega) (.int .i64 a.node)
              have hb5 := ((((HB4.out.trans (h45.mono HB4.out.size)).setCell (p := ⟨H + 1, 0, none⟩) (by show _ ≤ H + 1; omega) (.int .i64 a.cost)).setCell (p := ⟨H + 1, 1, none⟩) (by show _ ≤ H + 1; omega) (.int .i64 a.hops)).setCell (p := ⟨H + 1, 2, none⟩) (by show _ ≤ H + 1; omega) (.int .i64 a.node))
              have hq5 := (((HQ4.out.later h45).far (p := ⟨H + 1, 0, none⟩) (by show Q ≠ H + 1; omega) (by show v3.ownBlock ≠ some (H + 1); rw [HO3.out]; exact HS2.out) (.int .i64 a.cost)).far (p := ⟨H + 1, 1, none⟩) (by show Q ≠ H + 1; omega) (by show v3.ownBlock ≠ some (H + 1); rw [HO3.out]; exact HS2.out) (.int .i64 a.hops)).far (p := ⟨H + 1, 2, none⟩) (by show Q ≠ H + 1; omega) (by show v3.ownBlock ≠ some (H + 1); rw [HO3.out]; exact HS2.out) (.int .i64 a.node)
              have RL5 := Lib.hid rl
              have HH5 := Lib.hid hh5
              have HB5 := Lib.hid hb5
              have HQ5 := Lib.hid hq5
              clear h5 h51 h52 hq hq1 hq2 hs5 z5 zq h45 rl hh5 hb5 hq5 c8 f8 s8 cl fl sl hZs HL4 HH4 HB4 HQ4 R8 OU
              generalize ((w5.setCell ⟨H + 1, 0, none⟩ (.int .i64 a.cost)).setCell ⟨H + 1, 1, none⟩ (.int .i64 a.hops)).setCell ⟨H + 1, 2, none⟩ (.int .i64 a.node) = w6 at *
              have HZ := Lib.hid (Below.refl w6.heap.size w6)
              go_loopw [10] (fun jj ww => ∃ j : Nat, j ≤ k ∧ jj = .int .i64 (j : Int) ∧ Below w6.heap.size w6 ww ∧ ∀ u, u < j → ¬ (x u = a ∧ h u = false)) (fun jj _ => k - (intOf jj).toNat)
              case atStart => exact ⟨0, by omega, rfl, HZ.out, fun u hu => by omega⟩
              case round =>
                clear HZ
                obtain ⟨j, hjk, rfl, hz, hnot⟩ := hrel
                have HZ := Lib.hid hz
                have HNT := Lib.hid hnot
                clear hnot
                have hjlt : j < k := by
                  obtain ⟨u, h1, h2, h3⟩ := HEX.out
                  by_cases e : j = k
                  · exact absurd ⟨h2, h3⟩ (HNT.out u (by omega))
                  · omega
                have gH := (HH5.out.later hz).cell hjlt
                have fH := (HH5.out.later hz).frozen j
                have sH := (HH5.out.later hz).lt
                obtain ⟨cl, fl, sl⟩ := RL5.out.later hz
                have hzs := hz.size
                clear hz
                obtain ⟨ad, hAd, hadb, g0, g1, g2⟩ := HS.out.item (HB5.out.trans (HZ.out.mono HB5.out.size)) (k := j) (by omega)
                subst hAd
                have j0 : (0 : Int) ≤ (j : Int) := by omega
                have j1 : (j : Int) < (k : Int) := by omega
                have j2 : (j : Int) < (n : Int) := by omega
                have jn : ((j : Int) == (k : Int)) = false := by rw [beq_eq_false_iff_ne]; omega
                cases hj : h j with
                | true =>
                  rw [hj] at gH
                  have HJ := Lib.hid hj
                  clear hj
                  go_wp2
                  go_quiet (fail)
                  go_wp2
                  go_roundw
                  case rel => exact ⟨j + 1, by omega, num_step j, Go.Proofs.Ytclcmkpggigdgaa.below_drewN HZ.out _, fun u hu => by
                    rcases Nat.lt_succ_iff_lt_or_eq.1 hu with e | rfl
                    · exact HNT.out u e
                    · rw [HJ.out]; simp⟩
                  case measure => exact measure_step hjlt
                | false =>
                  rw [hj] at gH
                  have HJ := Lib.hid hj
                  clear hj
                  have NE := fun w => neq_RItem (x j) a w
                  by_cases hxa : x j = a
                  · simp only [hxa, decide_true, Bool.not_true] at NE
                    have HXA := Lib.hid hxa
                    rw [hxa] at g0 g1 g2
                    clear hxa
                    go_wp2
                    go_quiet (fail)
                    go_wp2
                    go_roundw
                    case rel =>
                      have hzz := Go.Proofs.Ytclcmkpggigdgaa.below_drewN HZ.out nq
                      refine ⟨i + 1, p, v3, d3, mark h j, a, by omega, num_step i, ((HB5.out.trans (hzz.mono HB5.out.size)).setCell (p := ⟨H, j, none⟩) (by show _ ≤ H; omega) _), (HQ5.out.later hzz).far (p := ⟨H, j, none⟩) (by show Q ≠ H; omega) (by show v3.ownBlock ≠ some H; rw [HO3.out]; exact HS1.out) _, (HH5.out.later hzz).mark hjlt, (RL5.out.later hzz).far (a := ⟨H, j, none⟩) (by show H ≠ H + 1; omega) _, fun _ => HLE.out, fun y => ?_, by rw [HO3.out]; exact HS1.out, by rw [HO3.out]; exact HS2.out⟩
                      have h1 := left_mark (x := x) (y := y) HJ.out hjlt
                      have h2 := HCO.out y
                      rw [HXA.out] at h1
                      omega
                    case measure => exact measure_step hlt
                  · have hxa' : decide (x j = a) = false := decide_eq_false hxa
                    simp only [hxa', Bool.not_false] at NE
                    have HXA := Lib.hid hxa
                    clear hxa hxa'
                    go_wp2
                    go_quiet (fail)
                    go_wp2
                    go_roundw
                    case rel => exact ⟨j + 1, by omega, num_step j, Go.Proofs.Ytclcmkpggigdgaa.below_drewN HZ.out _, fun u hu => by
                      rcases Nat.lt_succ_iff_lt_or_eq.1 hu with e | rfl
                      · exact HNT.out u e
                      · exact fun e => HXA.out e.1⟩
                    case measure => exact measure_step hjlt
          · obtain rfl : p = 0 := by omega
            have hik : ¬ ((i : Int) < (k : Int)) := by omega
            have HT := Lib.hid (QNone_calls wr w.heap.size Q v' d' HQ.out)
            go_wp2_with (first | (go_at_call 13; (with_reducible refine HT.out.mono ?_); rintro e w3 ⟨rfl, h3⟩; have hw9 := h3.alloc h3.size (.cells #[.int .i64 0, .int .i64 0, .int .i64 0] 25); have HL9 := (show Calls Try.prog 18 #[.pointer (some ⟨Q, 0, none⟩)] (w3.alloc (.cells #[.int .i64 0, .int .i64 0, .int .i64 0] 25)) (fun e w' => e = .returned (.int .i64 0) ∧ (w3.alloc (.cells #[.int .i64 0, .int .i64 0, .int .i64 0] 25)) = w') from (by have hq9 := HQ.out.later hw9; obtain ⟨A0, c0, e0⟩ := hq9.row.form; rw [e0] at hq9; exact QLen_calls _ Q 0 A0 c0 hq9.blk)); have HL9' := Lib.hid HL9; clear HL9) | (go_at_call 18; (with_reducible refine HL9'.out.mono ?_); rintro e w6 ⟨rfl, rfl⟩))
            go_ret
            exact ⟨rfl, HB.out.trans (hw9.mono hbs2)⟩
end Go.Proofs.Ytclcmkpggigdgaa
