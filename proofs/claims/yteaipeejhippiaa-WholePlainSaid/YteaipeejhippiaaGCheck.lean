/- May there be a network of such links: graph.Check. -/
import Derived.Test.YteaipeejhippiaaGPlain
import Derived.Test.YteaipeejhippiaaOwn2
namespace Go.Proofs.Yteaipeejhippiaa
open Go.RowKit
attribute [local go_sem] cell_set_self
set_option linter.unusedVariables false

def nodeB (a n : Int) : Bool := decide (0 ≤ a) && decide (a < n)
theorem nodeB_iff {a n : Int} : nodeB a n = true ↔ 0 ≤ a ∧ a < n := by simp [nodeB]
theorem node_calls (w : World) (P : Nat) (a n : Int) (h : w.cell? ⟨P, 0, none⟩ = some (.int .i64 n)) : Calls Try.prog 32 #[.int .i64 a, .pointer (some ⟨P, 0, none⟩)] w fun e w' => e = .returned (.bool (nodeB a n)) ∧ w = w' := by
  have hb : ∀ r : Bool, (r = true ↔ 0 ≤ a ∧ a < n) → Value.bool r = .bool (nodeB a n) := fun r h => by rw [Bool.eq_iff_iff.2 (h.trans nodeB_iff.symm)]
  have HB := Lib.hid hb
  clear hb
  by_cases h1 : 0 ≤ a
  · by_cases h2 : a < n
    all_goals
      go_enter Try.func32, Try.ntmps32
      go_wp2
      go_ret
      exact ⟨congrArg Ending.returned (HB.out _ (by simp <;> omega)), rfl⟩
  · go_enter Try.func32, Try.ntmps32
    go_wp2
    go_ret
    exact ⟨congrArg Ending.returned (HB.out _ (by simp <;> omega)), rfl⟩
theorem zero3 (w : World) : (zeroValue 3).run Try.prog w = .ok (.int .i64 0) w := by kernel_rfl
/-- The links before k are those of a network; their ends are the map's keys. -/
structure Chk (n : Int) (k : Nat) (x : Nat → Lnk) (w : World) (b : Nat) (f : Value → Option Value) : Prop where
  map : MapOf Try.prog 99 w b k f
  may : ∀ i, i < k → (x i).May n
  apart : ∀ i j, i < j → j < k → ¬ (x i).Like (x j)
  had : ∀ a c, (f (key2 a c)).isSome = true ↔ ∃ i, i < k ∧ (x i).src = a ∧ (x i).dst = c
theorem Strip.lnk {w : World} {A : Option Addr} {m k : Nat} {x : Nat → Lnk} (h : Strip w A m 5 (fun i => link (x i))) (hk : k < m) : ∃ ad, A = some ad ∧ ad.block < w.heap.size ∧ ∀ w', Below w.heap.size w w' →
    w'.cell? (ad.add (k * 5)) = some (.int .i64 (x k).src) ∧ w'.cell? ⟨(ad.add (k * 5)).block, (ad.add (k * 5)).off + 1, none⟩ = some (.int .i64 (x k).dst) ∧ w'.cell? ⟨(ad.add (k * 5)).block, (ad.add (k * 5)).off + 2, none⟩ = some (.int .u64 (x k).cap) ∧ w'.cell? ⟨(ad.add (k * 5)).block, (ad.add (k * 5)).off + 3, none⟩ = some (.int .i64 (x k).metric) ∧ w'.cell? ⟨(ad.add (k * 5)).block, (ad.add (k * 5)).off + 4, none⟩ = some (.int .u32 (x k).groups) := by
  obtain ⟨ad, e, hl, hc⟩ := h (by omega)
  refine ⟨ad, e, hl, fun w' hb => ?_⟩
  have g : ∀ j, j < 5 → w'.cell? ((ad.add (k * 5)).add j) = (link (x k))[j]? := fun j hj => (hb.cell (by rw [add_block, add_block]; exact hl)).trans (hc k hk j hj)
  exact ⟨g 0 (by omega), g 1 (by omega), g 2 (by omega), g 3 (by omega), g 4 (by omega)⟩
def ChkRel (w : World) (n : Int) (m : Nat) (x : Nat → Lnk) (i : Value) (wr : World) : Prop := ∃ (k : Nat) (f : Value → Option Value), k ≤ m ∧ i = .int .i64 (k : Int) ∧ Below w.heap.size w wr ∧ Row wr w.heap.size #[.int .i64 n] ∧ Chk n k x wr (w.heap.size + 1) f
theorem Chk.next {n : Int} {k : Nat} {x : Nat → Lnk} {w w' : World} {b : Nat} {f : Value → Option Value} {v : Value} (h : Chk n k x w b f) (hm : MapOf Try.prog 99 w' b (k + 1) (lay f (key2 (x k).src (x k).dst) v)) (hx : (x k).May n) (hn : (f (key2 (x k).src (x k).dst)).isSome = false) : Chk n (k + 1) x w' b (lay f (key2 (x k).src (x k).dst) v) := by
  refine ⟨hm, fun i hi => ?_, fun i j hij hj => ?_, fun a c => ?_⟩
  · by_cases e : i = k
    · subst e; exact hx
    · exact h.may i (by omega)
  · by_cases e : j = k
    · subst e
      rintro ⟨e1, e2⟩
      have := (h.had (x j).src (x j).dst).2 ⟨i, hij, e1, e2⟩
      rw [hn] at this
      cases this
    · exact h.apart i j hij (by omega)
  · by_cases e : key2 a c = key2 (x k).src (x k).dst
    · obtain ⟨rfl, rfl⟩ := key2_inj.1 e
      rw [lay_same]
      simp only [Option.isSome_some, true_iff]
      exact ⟨k, by omega, rfl, rfl⟩
    · rw [lay_other _ _ e, h.had]
      constructor
      · rintro ⟨i, hi, h1⟩
        exact ⟨i, by omega, h1⟩
      · rintro ⟨i, hi, h1, h2⟩
        refine ⟨i, ?_, h1, h2⟩
        rcases Nat.lt_succ_iff_lt_or_eq.1 hi with h3 | rfl
        · exact h3
        · exact absurd (by rw [h1, h2]) e
theorem Chk.net {n : Int} {m : Nat} {x : Nat → Lnk} {w : World} {b : Nat} {f : Value → Option Value} (h : Chk n m x w b f) (h0 : 1 ≤ n) (h1 : n ≤ 16) (h2 : m ≤ 64) : Net n m x := ⟨h0, h1, h2, h.may, h.apart⟩

set_option maxHeartbeats 8000000 in
theorem Check_calls (w : World) (n : Int) (A : Option Addr) (m c : Nat) (x : Nat → Lnk) (hm : m ≤ 9223372036854775807) (hx : ∀ i, i < m → I64 (x i).src ∧ I64 (x i).dst) (hs : Strip w A m 5 (fun i => link (x i))) : Calls Try.prog 15 #[.int .i64 n, .slice A m c] w fun e w' => e = .returned (.int .i64 (chk n m x)) ∧ Below w.heap.size w w' := by
  have HS := Lib.hid hs
  have HX := Lib.hid hx
  have hm5 : m ≤ 9223372036854775807 := hm
  clear hs hx hm
  by_cases hn : 1 ≤ n ∧ n ≤ 16
  · obtain ⟨hn1, hn2⟩ := hn
    by_cases h64 : m ≤ 64
    · have h64i : (m : Int) ≤ 64 := by omega
      have hmm := @run_makeMap Try.prog
      go_enter Try.func15, Try.ntmps15
      go_wp2
      have HN := Lib.hid ((Row.new w #[.int .i64 n] 3).alloc (.map #[] 0))
      have HI := Lib.hid (show Chk n 0 x ((w.alloc (.cells #[.int .i64 n] 3)).alloc (.map #[] 0)) (w.heap.size + 1) (fun _ => none) from ⟨by have h := MapOf.made (w.alloc (.cells #[.int .i64 n] 3)) Try.prog 99; simpa using h, fun i h => by omega, fun i j _ h => by omega, fun a c => by simp⟩)
      have HB := Lib.hid (show Below w.heap.size w ((w.alloc (.cells #[.int .i64 n] 3)).alloc (.map #[] 0)) from (by repeat (first | (with_reducible exact Below.refl _ _) | (with_reducible assumption) | ((with_reducible refine Below.setCell ?_ ?_ _); rotate_left; (first | omega | (simp <;> omega))) | ((with_reducible refine Below.alloc ?_ ?_ _); rotate_left; (first | omega | (simp <;> omega))) | ((with_reducible refine Below.drew ?_)) | ((with_reducible refine below_drewN ?_ _)) | ((with_reducible refine Below.trans ?_ (Below.mono (by with_reducible assumption) ?_)); rotate_left; (first | omega | (simp <;> omega))))))
      generalize (w.alloc (.cells #[.int .i64 n] 3)).alloc (.map #[] 0) = W at *
      go_loopw [27] (fun i wr => ChkRel w n m x i wr) (fun i _ => m - (intOf i).toNat)
      case atStart => exact ⟨0, _, Nat.zero_le _, rfl, HB.out, HN.out, HI.out⟩
      case round =>
        clear HB HN HI hmm
        obtain ⟨k, f, hk, rfl, hb, hrn, hc⟩ := hrel
        have HB := Lib.hid hb
        have HN := Lib.hid hrn
        have HC := Lib.hid hc
        have hws := hb.size
        clear hb hrn hc
        by_cases hlt : k < m
        · have i0 : (0 : Int) ≤ (k : Int) := by omega
          have i1 : (k : Int) < (m : Int) := by omega
          obtain ⟨ad, rfl, hadb, gg⟩ := HS.out.lnk hlt
          obtain ⟨g0, g1, g2, g3, g4⟩ := gg wr HB.out
          clear gg
          have HNode := Lib.hid fun (w' : World) (a : Int) (h : Row w' w.heap.size #[.int .i64 n]) => node_calls w' w.heap.size a n (h.1 0)
          have HD := Lib.hid (show (f (key2 (x k).src (x k).dst)).isSome = true ↔ ∃ i, i < k ∧ (x i).src = (x k).src ∧ (x i).dst = (x k).dst from HC.out.had _ _)
          cases htw : (f (key2 (x k).src (x k).dst)).isSome with
          | true =>
            go_wp2_with (first | (at_lookup; refine wpList_look _ rfl (.tmp 38) (.tmp 39) 97 true rfl 99 3 keyed99 Try.underlying97 (w.heap.size + 1) k f (.int .i64 0) (zero3 _) rfl ((HC.out.map.alloc _).alloc _) (key2 (x k).src (x k).dst) rfl (keyOf99 (HX.out k hlt).1 (HX.out k hlt).2) ?_) | (go_at_call 32; (with_reducible refine (HNode.out _ _ ((HN.out.alloc _).alloc _)).mono ?_); rintro e w1 ⟨rfl, rfl⟩))
            have hB := HB.out
            go_ret
            exact ⟨by rw [chk_two (fun hn => by obtain ⟨i, hi, e1, e2⟩ := HD.out.1 htw; exact hn.apart i k hi hlt ⟨e1, e2⟩) (by omega)]; rfl, (by repeat (first | (with_reducible exact Below.refl _ _) | (with_reducible assumption) | ((with_reducible refine Below.setCell ?_ ?_ _); rotate_left; (first | omega | (simp <;> omega))) | ((with_reducible refine Below.alloc ?_ ?_ _); rotate_left; (first | omega | (simp <;> omega))) | ((with_reducible refine Below.drew ?_)) | ((with_reducible refine below_drewN ?_ _)) | ((with_reducible refine Below.trans ?_ (Below.mono (by with_reducible assumption) ?_)); rotate_left; (first | omega | (simp <;> omega)))))⟩
          | false =>
            cases h1 : nodeB (x k).src n with
            | false =>
              go_wp2_with (first | (at_lookup; refine wpList_look _ rfl (.tmp 38) (.tmp 39) 97 true rfl 99 3 keyed99 Try.underlying97 (w.heap.size + 1) k f (.int .i64 0) (zero3 _) rfl ((HC.out.map.alloc _).alloc _) (key2 (x k).src (x k).dst) rfl (keyOf99 (HX.out k hlt).1 (HX.out k hlt).2) ?_) | (go_at_call 32; (with_reducible refine (HNode.out _ _ ((HN.out.alloc _).alloc _)).mono ?_); rintro e w1 ⟨rfl, rfl⟩))
              have hB := HB.out
              go_ret
              exact ⟨by rw [chk_two (fun hn => by have h := hn.may k hlt; rw [nodeB_iff.2 ⟨h.s0, h.s1⟩] at h1; cases h1) (by omega)]; rfl, (by repeat (first | (with_reducible exact Below.refl _ _) | (with_reducible assumption) | ((with_reducible refine Below.setCell ?_ ?_ _); rotate_left; (first | omega | (simp <;> omega))) | ((with_reducible refine Below.alloc ?_ ?_ _); rotate_left; (first | omega | (simp <;> omega))) | ((with_reducible refine Below.drew ?_)) | ((with_reducible refine below_drewN ?_ _)) | ((with_reducible refine Below.trans ?_ (Below.mono (by with_reducible assumption) ?_)); rotate_left; (first | omega | (simp <;> omega)))))⟩
            | true =>
              cases h2 : nodeB (x k).dst n with
              | false =>
                go_wp2_with (first | (at_lookup; refine wpList_look _ rfl (.tmp 38) (.tmp 39) 97 true rfl 99 3 keyed99 Try.underlying97 (w.heap.size + 1) k f (.int .i64 0) (zero3 _) rfl ((HC.out.map.alloc _).alloc _) (key2 (x k).src (x k).dst) rfl (keyOf99 (HX.out k hlt).1 (HX.out k hlt).2) ?_) | (go_at_call 32; (with_reducible refine (HNode.out _ _ ((HN.out.alloc _).alloc _)).mono ?_); rintro e w1 ⟨rfl, rfl⟩))
                have hB := HB.out
                go_ret
                exact ⟨by rw [chk_two (fun hn => by have h := hn.may k hlt; rw [nodeB_iff.2 ⟨h.d0, h.d1⟩] at h2; cases h2) (by omega)]; rfl, (by repeat (first | (with_reducible exact Below.refl _ _) | (with_reducible assumption) | ((with_reducible refine Below.setCell ?_ ?_ _); rotate_left; (first | omega | (simp <;> omega))) | ((with_reducible refine Below.alloc ?_ ?_ _); rotate_left; (first | omega | (simp <;> omega))) | ((with_reducible refine Below.drew ?_)) | ((with_reducible refine below_drewN ?_ _)) | ((with_reducible refine Below.trans ?_ (Below.mono (by with_reducible assumption) ?_)); rotate_left; (first | omega | (simp <;> omega)))))⟩
              | true =>
                cases h3 : ((x k).src == (x k).dst) with
                | true =>
                  go_wp2_with (first | (at_lookup; refine wpList_look _ rfl (.tmp 38) (.tmp 39) 97 true rfl 99 3 keyed99 Try.underlying97 (w.heap.size + 1) k f (.int .i64 0) (zero3 _) rfl ((HC.out.map.alloc _).alloc _) (key2 (x k).src (x k).dst) rfl (keyOf99 (HX.out k hlt).1 (HX.out k hlt).2) ?_) | (go_at_call 32; (with_reducible refine (HNode.out _ _ ((HN.out.alloc _).alloc _)).mono ?_); rintro e w1 ⟨rfl, rfl⟩))
                  have hB := HB.out
                  go_ret
                  exact ⟨by rw [chk_two (fun hn => (hn.may k hlt).ne (by simpa using h3)) (by omega)]; rfl, (by repeat (first | (with_reducible exact Below.refl _ _) | (with_reducible assumption) | ((with_reducible refine Below.setCell ?_ ?_ _); rotate_left; (first | omega | (simp <;> omega))) | ((with_reducible refine Below.alloc ?_ ?_ _); rotate_left; (first | omega | (simp <;> omega))) | ((with_reducible refine Below.drew ?_)) | ((with_reducible refine below_drewN ?_ _)) | ((with_reducible refine Below.trans ?_ (Below.mono (by with_reducible assumption) ?_)); rotate_left; (first | omega | (simp <;> omega)))))⟩
                | false =>
                  by_cases h4 : (x k).metric < 1
                  · go_wp2_with (first | (at_lookup; refine wpList_look _ rfl (.tmp 38) (.tmp 39) 97 true rfl 99 3 keyed99 Try.underlying97 (w.heap.size + 1) k f (.int .i64 0) (zero3 _) rfl ((HC.out.map.alloc _).alloc _) (key2 (x k).src (x k).dst) rfl (keyOf99 (HX.out k hlt).1 (HX.out k hlt).2) ?_) | (go_at_call 32; (with_reducible refine (HNode.out _ _ ((HN.out.alloc _).alloc _)).mono ?_); rintro e w1 ⟨rfl, rfl⟩))
                    have hB := HB.out
                    go_ret
                    exact ⟨by rw [chk_two (fun hn => by have h := (hn.may k hlt).m0; omega) (by omega)]; rfl, (by repeat (first | (with_reducible exact Below.refl _ _) | (with_reducible assumption) | ((with_reducible refine Below.setCell ?_ ?_ _); rotate_left; (first | omega | (simp <;> omega))) | ((with_reducible refine Below.alloc ?_ ?_ _); rotate_left; (first | omega | (simp <;> omega))) | ((with_reducible refine Below.drew ?_)) | ((with_reducible refine below_drewN ?_ _)) | ((with_reducible refine Below.trans ?_ (Below.mono (by with_reducible assumption) ?_)); rotate_left; (first | omega | (simp <;> omega)))))⟩
                  · by_cases h5 : 65535 < (x k).metric
                    · go_wp2_with (first | (at_lookup; refine wpList_look _ rfl (.tmp 38) (.tmp 39) 97 true rfl 99 3 keyed99 Try.underlying97 (w.heap.size + 1) k f (.int .i64 0) (zero3 _) rfl ((HC.out.map.alloc _).alloc _) (key2 (x k).src (x k).dst) rfl (keyOf99 (HX.out k hlt).1 (HX.out k hlt).2) ?_) | (go_at_call 32; (with_reducible refine (HNode.out _ _ ((HN.out.alloc _).alloc _)).mono ?_); rintro e w1 ⟨rfl, rfl⟩))
                      have hB := HB.out
                      go_ret
                      exact ⟨by rw [chk_two (fun hn => by have h := (hn.may k hlt).m1; omega) (by omega)]; rfl, (by repeat (first | (with_reducible exact Below.refl _ _) | (with_reducible assumption) | ((with_reducible refine Below.setCell ?_ ?_ _); rotate_left; (first | omega | (simp <;> omega))) | ((with_reducible refine Below.alloc ?_ ?_ _); rotate_left; (first | omega | (simp <;> omega))) | ((with_reducible refine Below.drew ?_)) | ((with_reducible refine below_drewN ?_ _)) | ((with_reducible refine Below.trans ?_ (Below.mono (by with_reducible assumption) ?_)); rotate_left; (first | omega | (simp <;> omega)))))⟩
                    · go_wp2_with (first | (at_lookup; refine wpList_look _ rfl (.tmp 38) (.tmp 39) 97 true rfl 99 3 keyed99 Try.underlying97 (w.heap.size + 1) k f (.int .i64 0) (zero3 _) rfl ((HC.out.map.alloc _).alloc _) (key2 (x k).src (x k).dst) rfl (keyOf99 (HX.out k hlt).1 (HX.out k hlt).2) ?_) | (go_at_call 32; (with_reducible refine (HNode.out _ _ ((HN.out.alloc _).alloc _)).mono ?_); rintro e w1 ⟨rfl, rfl⟩) | (at_mapUpdate; refine wpList_store _ rfl (.tmp 75) (.tmp 76) (.tmp 77) 97 rfl 99 3 keyed99 Try.underlying97 (w.heap.size + 1) k f rfl ((HC.out.map.alloc _).alloc _) (key2 (x k).src (x k).dst) (.int .i64 (k : Int)) rfl rfl (keyOf99 (HX.out k hlt).1 (HX.out k hlt).2) ?_; intro w3 hm3 hg3; have HM3 := Lib.hid hm3; have HG3 := Lib.hid hg3; clear hm3 hg3))
                      have hgz := HG3.out.size
                      have hwz : Below wr.heap.size wr ((wr.alloc (.cells (link (x k)) 34)).alloc (.cells #[.int .i64 (x k).src, .int .i64 (x k).dst] 99)) := (by repeat (first | (with_reducible exact Below.refl _ _) | (with_reducible assumption) | ((with_reducible refine Below.setCell ?_ ?_ _); rotate_left; (first | omega | (simp <;> omega))) | ((with_reducible refine Below.alloc ?_ ?_ _); rotate_left; (first | omega | (simp <;> omega))) | ((with_reducible refine Below.drew ?_)) | ((with_reducible refine below_drewN ?_ _)) | ((with_reducible refine Below.trans ?_ (Below.mono (by with_reducible assumption) ?_)); rotate_left; (first | omega | (simp <;> omega)))))
                      have HN3 := Lib.hid (((HN.out.alloc (.cells (link (x k)) 34)).alloc (.cells #[.int .i64 (x k).src, .int .i64 (x k).dst] 99)).grown HG3.out (by simp))
                      go_roundw
                      case rel => exact ⟨k + 1, _, by omega, num_step k, (HB.out.trans (hwz.mono hws)).grown HG3.out (by simp; omega) (by rintro j hj; injection hj with hj; omega), HN3.out, HC.out.next HM3.out ⟨(nodeB_iff.1 h1).1, (nodeB_iff.1 h1).2, (nodeB_iff.1 h2).1, (nodeB_iff.1 h2).2, by simpa using h3, by omega, by omega⟩ htw⟩
                      case measure => exact measure_step hlt
        · obtain rfl : m = k := by omega
          go_wp2
          go_ret
          exact ⟨by rw [chk_ok (HC.out.net hn1 hn2 h64)]; rfl, HB.out⟩
    · have h64i : 64 < (m : Int) := by omega
      go_enter Try.func15, Try.ntmps15
      go_wp2
      go_ret
      exact ⟨by rw [chk_three hn1 hn2 (by omega)]; rfl, (by repeat (first | (with_reducible exact Below.refl _ _) | (with_reducible assumption) | ((with_reducible refine Below.setCell ?_ ?_ _); rotate_left; (first | omega | (simp <;> omega))) | ((with_reducible refine Below.alloc ?_ ?_ _); rotate_left; (first | omega | (simp <;> omega))) | ((with_reducible refine Below.drew ?_)) | ((with_reducible refine below_drewN ?_ _)) | ((with_reducible refine Below.trans ?_ (Below.mono (by with_reducible assumption) ?_)); rotate_left; (first | omega | (simp <;> omega)))))⟩
  · have h2 : chk n m x = 2 := chk_two (fun h => hn ⟨h.n0, h.n1⟩) (fun h => hn ⟨h.1, h.2.1⟩)
    rw [h2]
    clear h2
    by_cases h1 : n < 1
    · clear hn
      go_enter Try.func15, Try.ntmps15
      go_wp2
      go_ret
      exact ⟨rfl, (by repeat (first | (with_reducible exact Below.refl _ _) | (with_reducible assumption) | ((with_reducible refine Below.setCell ?_ ?_ _); rotate_left; (first | omega | (simp <;> omega))) | ((with_reducible refine Below.alloc ?_ ?_ _); rotate_left; (first | omega | (simp <;> omega))) | ((with_reducible refine Below.drew ?_)) | ((with_reducible refine below_drewN ?_ _)) | ((with_reducible refine Below.trans ?_ (Below.mono (by with_reducible assumption) ?_)); rotate_left; (first | omega | (simp <;> omega)))))⟩
    · have h3 : 16 < n := by omega
      have h4 : 1 ≤ n := by omega
      clear hn h1
      go_enter Try.func15, Try.ntmps15
      go_wp2
      go_ret
      exact ⟨rfl, (by repeat (first | (with_reducible exact Below.refl _ _) | (with_reducible assumption) | ((with_reducible refine Below.setCell ?_ ?_ _); rotate_left; (first | omega | (simp <;> omega))) | ((with_reducible refine Below.alloc ?_ ?_ _); rotate_left; (first | omega | (simp <;> omega))) | ((with_reducible refine Below.drew ?_)) | ((with_reducible refine below_drewN ?_ _)) | ((with_reducible refine Below.trans ?_ (Below.mono (by with_reducible assumption) ?_)); rotate_left; (first | omega | (simp <;> omega)))))⟩
end Go.Proofs.Yteaipeejhippiaa
