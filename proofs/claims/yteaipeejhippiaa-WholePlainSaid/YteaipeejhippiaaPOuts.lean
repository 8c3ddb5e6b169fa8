/- A node's links, each once: graph.Outs. -/
import Derived.Test.YteaipeejhippiaaPSort
namespace Go.Proofs.Yteaipeejhippiaa
open Go.RowKit
attribute [local go_sem] cell_set_self
set_option linter.unusedVariables false

/-- The places of the links that lead from v, below k. -/
def outL (x : Nat → Lnk) (v : Int) : Nat → List Nat
  | 0 => []
  | k + 1 => if (x k).src = v then outL x v k ++ [k] else outL x v k
theorem outL_mem {x : Nat → Lnk} {v : Int} : ∀ {m i : Nat}, i ∈ outL x v m ↔ i < m ∧ (x i).src = v
  | 0, i => by simp [outL]
  | m + 1, i => by
    unfold outL
    split
    · rename_i h
      rw [List.mem_append, outL_mem, List.mem_singleton]
      constructor
      · rintro (⟨h1, h2⟩ | rfl)
        · exact ⟨by omega, h2⟩
        · exact ⟨by omega, h⟩
      · rintro ⟨h1, h2⟩
        by_cases e : i = m
        · exact .inr e
        · exact .inl ⟨by omega, h2⟩
    · rename_i h
      rw [outL_mem]
      constructor
      · rintro ⟨h1, h2⟩
        exact ⟨by omega, h2⟩
      · rintro ⟨h1, h2⟩
        refine ⟨?_, h2⟩
        rcases Nat.lt_or_ge i m with h3 | h3
        · exact h3
        · obtain rfl : i = m := by omega
          exact absurd h2 h
theorem outL_le (x : Nat → Lnk) (v : Int) : ∀ m, (outL x v m).length ≤ m
  | 0 => Nat.le_refl _
  | m + 1 => by
    have := outL_le x v m
    unfold outL
    split
    · simp; omega
    · omega
def numRow (i : Nat) : Array Value := #[.int .i64 (i : Int)]
def outV (x : Nat → Lnk) (v : Int) (k : Nat) : List (Array Value) := (outL x v k).map numRow
theorem outV_yes {x : Nat → Lnk} {v : Int} {k : Nat} (h : (x k).src = v) : outV x v (k + 1) = outV x v k ++ [numRow k] := by
  unfold outV
  rw [outL, if_pos h, List.map_append]
  rfl
theorem outV_no {x : Nat → Lnk} {v : Int} {k : Nat} (h : ¬ (x k).src = v) : outV x v (k + 1) = outV x v k := by
  unfold outV
  rw [outL, if_neg h]
theorem outV_len (x : Nat → Lnk) (v : Int) (k : Nat) : (outV x v k).length = (outL x v k).length := by simp [outV]
theorem numRow_ones (i : Nat) : ∀ u ∈ (numRow i).toList, u.oneCell' = true := int_ones _
def OutsPost (w : World) (m : Nat) (x : Nat → Lnk) (v : Int) (e : Ending) (w' : World) : Prop :=
  ∃ A c d, e = .returned (.slice A (outL x v m).length c) ∧ Strip w' A (outL x v m).length 1 (intRow d) ∧ (∀ ad, A = some ad → w.heap.size ≤ ad.block) ∧ Below w.heap.size w w' ∧
    (∀ k, k < (outL x v m).length → ∃ i, i < m ∧ d k = (i : Int) ∧ (x i).src = v) ∧ ∀ i, i < m → (x i).src = v → ∃ k, k < (outL x v m).length ∧ d k = (i : Int)
theorem strip_of_nums {w : World} {g n : Nat} {d : Nat → Int} (h : NumsAt w g n d) : Strip w (some ⟨g, 0, none⟩) n 1 (intRow d) := fun _ => ⟨_, rfl, h.2.2, fun i hi j hj => by
  obtain rfl : j = 0 := by omega
  rw [addr_add, addr_add, Nat.zero_add, Nat.mul_one]
  exact h.1 i hi⟩
theorem below_grown {w w1 w2 : World} {g : Nat} (h : Below w.heap.size w w1) (hg : w1.grownBy w2 (some g)) (hl : w.heap.size ≤ g) : Below w.heap.size w w2 :=
  h.grown hg h.size fun k e => by injection e with e; omega
set_option maxRecDepth 100000 in
set_option maxHeartbeats 8000000 in
theorem Outs_calls (w : World) (A : Option Addr) (m c : Nat) (x : Nat → Lnk) (v : Int) (hm : m ≤ 1000) (hs : Strip w A m 5 (fun i => link (x i))) (hn : (outL x v m).length < 20) :
    Calls Try.prog 46 #[.slice A m c, .int .i64 v] w (OutsPost w m x v) := by
  have HS := Lib.hid hs
  have HN := Lib.hid hn
  clear hs hn
  go_enter Try.func46, Try.ntmps46
  go_wp2
  have HB0 := Lib.hid (show Below w.heap.size w (w.alloc (.cells #[.slice A m c] 22)) from (Below.refl _ _).alloc (Nat.le_refl _) _)
  have R0 := Lib.hid (Row.new w #[.slice A m c] 22)
  go_loopw [5, 10] (fun v5 i wr => ∃ k : Nat, k ≤ m ∧ i = .int .i64 (k : Int) ∧ OutRow wr (w.heap.size + 1) 3 1 v5 (outV x v k) ∧ Below w.heap.size w wr ∧ Row wr w.heap.size #[.slice A m c]) (fun _ i _ => m - (intOf i).toNat)
  case atStart => exact ⟨0, by omega, rfl, OutRow.nil _ _ _ _, HB0.out, R0.out⟩
  case round =>
    obtain ⟨k, hk, rfl, ho, hbel, hr⟩ := hrel
    clear HB0 R0
    obtain ⟨A4, c4, rfl⟩ := ho.form
    have hkl : (outV x v k).length ≤ k := by rw [outV_len]; exact outL_le x v k
    have hkm := outV_len x v k
    have HKL := Lib.hid hkl
    have HO := Lib.hid ho
    have HB := Lib.hid hbel
    have HR := Lib.hid hr
    have HKM := Lib.hid hkm
    clear hkl ho hbel hkm
    obtain ⟨c1, f1, s1⟩ := hr
    by_cases hlt : k < m
    · obtain ⟨ad, rfl, hadb, hc⟩ := HS.out (by omega)
      have hge : w.heap.size + 1 ≤ wr.heap.size := s1
      have g : ∀ j, j < 5 → wr.cell? ((ad.add (k * 5)).add j) = (link (x k))[j]? := fun j hj => (HB.out.cell (by rw [add_block, add_block]; exact hadb)).trans (hc k hlt j hj)
      have g0 : wr.cell? (ad.add (k * 5)) = some (.int .i64 (x k).src) := g 0 (by omega)
      have g1 : wr.cell? ⟨(ad.add (k * 5)).block, (ad.add (k * 5)).off + 1, none⟩ = some (.int .i64 (x k).dst) := g 1 (by omega)
      have g2 : wr.cell? ⟨(ad.add (k * 5)).block, (ad.add (k * 5)).off + 2, none⟩ = some (.int .u64 (x k).cap) := g 2 (by omega)
      have g3 : wr.cell? ⟨(ad.add (k * 5)).block, (ad.add (k * 5)).off + 3, none⟩ = some (.int .i64 (x k).metric) := g 3 (by omega)
      have g4 : wr.cell? ⟨(ad.add (k * 5)).block, (ad.add (k * 5)).off + 4, none⟩ = some (.int .u32 (x k).groups) := g 4 (by omega)
      clear g hc
      have k1 : (k : Int) < (m : Int) := by omega
      by_cases hv : (x k).src = v
      · have HY := Lib.hid (outV_yes hv)
        generalize (x k).src = sv at *
        have hv2 : (sv == v) = true := by simpa using hv
        have HV := Lib.hid hv
        clear hv
        go_wp2_with (at_builtin; refine wpList_app _ rfl (.tmp 19) (.tmp 21) 48 rfl (w.heap.size + 1) 3 _ 1 8 Try.underlying48 infoI rfl (by omega) _ (outV x v k) rfl ?hown _ 1 (numRow k) rfl rfl ?hcell ?h1 ?hn (by omega) ?hbase ?hgo; (case hown => exact (HO.out.alloc _).alloc _); (case hcell => exact new_row' _ _ _ (by simp)); (case h1 => exact numRow_ones k); (case hn => have := HKL.out; omega); (case hbase => (first | omega | (simp; omega))); (intro v' w' ho' hg' hbl; have hbl0 := Lib.hid (hbl w.heap.size (by omega)); have hbl1 := Lib.hid (hbl _ (Nat.le_refl _)); clear hbl; have HO2 := Lib.hid ho'; clear ho' hg'))
        all_goals
          go_roundw
          case rel => exact ⟨k + 1, by omega, num_step k, by rw [HY.out]; exact HO2.out, ((HB.out.alloc (by omega) _).alloc (by simp; omega) _).trans hbl0.out, (((HR.out.alloc _).alloc _).below hbl1.out (by omega))⟩
          case measure => exact measure_step hlt
      · have HY := Lib.hid (outV_no hv)
        go_wp2
        go_roundw
        case rel => exact ⟨k + 1, by omega, num_step k, by rw [HY.out]; exact HO.out.alloc _, HB.out.alloc (by omega) _, HR.out.alloc _⟩
        case measure => exact measure_step hlt
    · obtain rfl : k = m := by omega
      have hm5 : k ≤ 1000 := hm
      clear hm hk hlt
      by_cases hz : (outL x v k).length = 0
      · have hz2 : (outV x v k).length = 0 := by rw [outV_len]; exact hz
        rw [hz2] at *
        have HZ := Lib.hid hz
        have H1 := Lib.hid (SortStable_calls wr A4 0 c4 (.func (.func 59) #[] #[.pointer (some ⟨w.heap.size, 0, none⟩)]) (fun _ w' => wr = w') (by omega) (Insertion0_calls wr A4 c4 _))
        clear hz hz2
        go_wp2_with (go_at_call 58; (with_reducible refine H1.out.mono ?_); rintro e w1 ⟨rfl, rfl⟩)
        go_ret
        refine ⟨A4, c4, fun _ => 0, by rw [HZ.out]; rfl, fun h => by rw [HZ.out] at h; omega, fun ad e => ?_, HB.out, fun k hk => by rw [HZ.out] at hk; omega, fun i hi hv => ?_⟩
        · rcases HO.out.1.2 with ⟨h3, _⟩ | ⟨g, cap, cur, h3, hbg, _⟩
          · injection h3 with h3
            rw [h3] at e
            cases e
          · injection h3 with h3
            rw [h3] at e
            injection e with e
            rw [← e]
            exact Nat.le_trans (Nat.le_succ _) hbg
        · have h4 := outL_mem.2 ⟨hi, hv⟩
          rw [List.length_eq_zero_iff.1 HZ.out] at h4
          cases h4
      · obtain ⟨g, c5, h1, hg, hgl, hfr, hcl⟩ := HO.out.at_ (by rw [outV_len]; omega)
        injection h1 with h1 h2 h3
        subst h1 h3
        have hd : NumsAt wr g (outV x v k).length (fun t => (((outL x v k).getD t 0 : Nat) : Int)) := ⟨fun t ht => by
          have h4 := hcl t ht 0 (by omega)
          rw [Nat.mul_one] at h4
          refine h4.trans ?_
          rw [outV_len] at ht
          simp only [List.getD_eq_getElem?_getD]
          rw [outV, List.getElem?_map, List.getElem?_eq_getElem ht]
          rfl, hfr, hgl⟩
        have hT : Tells wr g (fun y => ∃ i, i < k ∧ y = (i : Int) ∧ (x i).src = v) w.heap.size (fun a b => cmpI (x a.toNat).dst (x b.toNat).dst) := by
          rintro w2 hw2 a b ⟨i, hi, rfl, _⟩ ⟨j, hj, rfl, _⟩
          have hK : w2.cell? ⟨w.heap.size, 0, none⟩ = some (.slice A k c) := ((HR.out.grown hw2 (fun e => by injection e with e; omega)).1 0)
          have hS2 : Strip w2 A k 5 (fun i => link (x i)) := (HS.out.below HB.out).grown hw2 fun ad e h => by
            obtain ⟨ad', e', hl, _⟩ := HS.out (by omega)
            rw [e] at e'
            injection e' with e'
            injection h with h
            rw [e'] at h
            omega
          exact Outs1_calls w2 w.heap.size A k c x i j hi hj hK hS2
        have hmem : ∀ t, t < (outV x v k).length → ∃ i, i < k ∧ (((outL x v k).getD t 0 : Nat) : Int) = (i : Int) ∧ (x i).src = v := fun t ht => by
          rw [outV_len] at ht
          have h5 := outL_mem.1 (List.getElem_mem ht)
          exact ⟨_, h5.1, by rw [List.getD_eq_getElem?_getD, List.getElem?_eq_getElem ht]; rfl, h5.2⟩
        have hcov : ∀ i, i < k → (x i).src = v → ∃ t, t < (outV x v k).length ∧ (((outL x v k).getD t 0 : Nat) : Int) = (i : Int) := fun i hi hv => by
          obtain ⟨t, ht, he⟩ := List.getElem_of_mem (outL_mem.2 ⟨hi, hv⟩)
          exact ⟨t, by rw [outV_len]; exact ht, by rw [List.getD_eq_getElem?_getD, List.getElem?_eq_getElem ht]; simp [he]⟩
        have hlen : (outV x v k).length < 20 := by rw [outV_len]; exact HN.out
        have H1 := Lib.hid (SortStable_calls wr (some ⟨g, 0, none⟩) _ c4 (.func (.func 59) #[] #[.pointer (some ⟨w.heap.size, 0, none⟩)]) (fun e w' => wr.grownBy w' (some g) ∧ ∃ d', NumsAt w' g (outV x v k).length d' ∧ ∀ y, (∃ t, t < (outV x v k).length ∧ d' t = y) ↔ ∃ t, t < (outV x v k).length ∧ (((outL x v k).getD t 0 : Nat) : Int) = y) hlen (Insertion_calls wr g _ c4 w.heap.size _ _ _ (by omega) hd (fun t ht => hmem t ht) hT))
        have HM := Lib.hid hmem
        have HC := Lib.hid hcov
        have HGG := Lib.hid hg
        clear hmem hcov hT hd hlen hcl hfr hz hg
        generalize (outV x v k).length = n at *
        go_wp2_with (go_at_call 58; (with_reducible refine H1.out.mono ?_); rintro e w1 ⟨rfl, hg1, d', hd1, hdm⟩; have HG1 := Lib.hid hg1; have HD1 := Lib.hid hd1; have HDM := Lib.hid hdm; clear hg1 hd1 hdm)
        go_ret
        refine ⟨some ⟨g, 0, none⟩, c4, d', by rw [← HKM.out]; rfl, by rw [← HKM.out]; exact strip_of_nums HD1.out, fun ad e => by injection e with e; rw [← e]; exact Nat.le_trans (Nat.le_succ _) HGG.out, below_grown HB.out HG1.out (Nat.le_trans (Nat.le_succ _) HGG.out), fun t ht => ?_, fun i hi hv => ?_⟩
        · rw [← HKM.out] at ht
          obtain ⟨t2, h6, h7⟩ := (HDM.out (d' t)).1 ⟨t, ht, rfl⟩
          obtain ⟨i, h8, h9, h10⟩ := HM.out t2 h6
          exact ⟨i, h8, h7.symm.trans h9, h10⟩
        · rw [← HKM.out]
          exact (HDM.out (i : Int)).2 (HC.out i hi hv)
end Go.Proofs.Yteaipeejhippiaa
