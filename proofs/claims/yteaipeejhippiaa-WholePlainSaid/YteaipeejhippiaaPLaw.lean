/- Where nothing is asked, the best route that meets it is the best route: the walk of the law. -/
import Derived.Test.YteaipeejhippiaaPFind
namespace Go.Proofs.Yteaipeejhippiaa
open Go.RowKit
attribute [local go_sem] cell_set_self
set_option linter.unusedVariables false

/-- A link, as an advert of a link that is up. -/
def advOf (x : Nat → Lnk) (i : Nat) : Adv := { toLnk := x i, seq := 0, up := true, free := fun _ => 0 }
def one1 : Nat → Lnk := fun _ => ⟨0, 1, 0, 1, 0⟩
theorem one_asks : Asks 2 1 one1 0 1 :=
  ⟨⟨by omega, by omega, by omega, fun i hi => ⟨by simp [one1], by simp [one1], by simp [one1], by simp [one1], by simp [one1], by simp [one1], by simp [one1]⟩, fun i j h1 h2 => by omega⟩, by omega, by omega, by omega, by omega, by omega⟩
theorem one_best {E : Int → Option (List Int × Int)} (hE : Best 1 one1 0 E) : E 1 = some ([0, 1], 1) := by
  have h1 : Way 1 one1 0 ([0] ++ [(one1 0).dst]) (one1 0).dst (0 + (one1 0).metric) := .go 0 .start (by omega) rfl
  obtain ⟨k, d, h2, _⟩ := hE.least _ _ _ h1
  have h3 := hE.way _ _ _ h2
  have h4 : ∀ {l : List Int} {v c : Int}, Way 1 one1 0 l v c → (v = 0 → l = [0] ∧ c = 0) ∧ (v = 1 → l = [0, 1] ∧ c = 1) := by
    intro l v c h
    induction h with
    | start => exact ⟨fun _ => ⟨rfl, rfl⟩, fun h => by omega⟩
    | go i h1 h2 h3 ih =>
      refine ⟨fun h => by simp [one1] at h, fun _ => ?_⟩
      obtain ⟨rfl, rfl⟩ := ih.1 h3.symm
      exact ⟨rfl, rfl⟩
  obtain ⟨h5, h6⟩ := (h4 h3).2 rfl
  have h7 : (one1 0).dst = 1 := rfl
  rw [h7, h5, h6] at h2
  exact h2
theorem info41 : Info Try.prog 41 (.agg #[.int .i64 0, .int .i64 0, .int .u64 0, .int .i64 0, .int .u32 0, .int .i64 0, .bool false, .int .u64 0, .int .u64 0, .int .u64 0, .int .u64 0, .int .u64 0, .int .u64 0, .int .u64 0, .int .u64 0]) 15 120 := by unfold Info; kernel_rfl
theorem adv_ones (x : Adv) : ∀ u ∈ (advert x).toList, u.oneCell' = true := fun u hu => by
  simp [advert] at hu
  rcases hu with rfl | rfl | rfl | rfl | rfl | rfl | rfl | rfl | rfl | rfl | rfl | rfl | rfl | rfl | rfl <;> rfl
def advsOf (x : Nat → Lnk) (k : Nat) : List (Array Value) := (List.range k).map fun i => advert (advOf x i)
theorem advsOf_succ (x : Nat → Lnk) (k : Nat) : advsOf x (k + 1) = advsOf x k ++ [advert (advOf x k)] := by
  unfold advsOf
  rw [List.range_succ, List.map_append]
  rfl
theorem advsOf_len (x : Nat → Lnk) (k : Nat) : (advsOf x k).length = k := by simp [advsOf]
theorem strip01 (w : World) : Strip (w.alloc (.cells #[.int .i64 0, .int .i64 1] 3)) (some ⟨w.heap.size, 0, none⟩) 2 1 (intRow (nth [0, 1])) := fun _ => ⟨_, rfl, by simp, fun i hi j hj => by
  obtain rfl : j = 0 := by omega
  have h := (Blk.new w 3 #[.int .i64 0, .int .i64 1]).cell i
  rw [addr_add, addr_add, Nat.zero_add, Nat.mul_one]
  refine h.trans ?_
  have : i = 0 ∨ i = 1 := by omega
  rcases this with rfl | rfl <;> rfl⟩
set_option maxRecDepth 100000 in
set_option maxHeartbeats 32000000 in
theorem WholePlain_walk (W : World) (n : Int) (A : Option Addr) (m c : Nat) (x : Nat → Lnk) (e0 e1 : Int) (hm : m ≤ 9223372036854775807) (hs : Strip W A m 5 (fun i => link (x i))) (hx : ∀ i, i < m → I64 (x i).src ∧ I64 (x i).dst ∧ 0 ≤ (x i).groups ∧ (x i).groups < 4294967296) :
    Calls Try.prog 4 #[.int .i64 n, .slice A m c, .agg #[.int .i64 e0, .int .i64 e1]] W fun e w' => e = .returned (.bool true) ∧ Below W.heap.size W w' := by
  have HS := Lib.hid hs
  have HX := Lib.hid hx
  have hm5 : m ≤ 9223372036854775807 := hm
  clear hs hx hm
  go_enter Try.func4, Try.ntmps4
  go_upto_region 2 with (fail)
  have HB1 := Lib.hid (show Below W.heap.size W ((W.alloc (.cells #[.int .i64 e0, .int .i64 e1] 47)).alloc (.cells #[.int .i64 0, .int .i64 1, .int .u64 0, .int .i64 1, .int .u32 0] 34)) from (((Below.refl W.heap.size W).alloc (Nat.le_refl _) _).alloc (by simp) _))
  have HE1 := Lib.hid ((Blk.new W 47 #[.int .i64 e0, .int .i64 e1]).alloc (.cells #[.int .i64 0, .int .i64 1, .int .u64 0, .int .i64 1, .int .u32 0] 34))
  have HL1 := Lib.hid (show Strip ((W.alloc (.cells #[.int .i64 e0, .int .i64 e1] 47)).alloc (.cells #[.int .i64 0, .int .i64 1, .int .u64 0, .int .i64 1, .int .u32 0] 34)) (some ⟨W.heap.size + 1, 0, none⟩) 1 5 (fun i => link (one1 i)) from fun _ => ⟨_, rfl, by simp, fun i hi j hj => by
    obtain rfl : i = 0 := by omega
    rw [addr_add, addr_add, Nat.zero_mul, Nat.zero_add]
    simp [link, one1]⟩)
  generalize (W.alloc (.cells #[.int .i64 e0, .int .i64 e1] 47)).alloc (.cells #[.int .i64 0, .int .i64 1, .int .u64 0, .int .i64 1, .int .u32 0] 34) = W1 at *
  have HA := Lib.hid (Best_calls W1 (some ⟨W.heap.size + 1, 0, none⟩) 1 1 one1 2 0 1 HL1.out one_asks)
  go_upto_region 5 with (first | (go_at_call 12; (with_reducible refine HA.out.mono ?_); rintro e w2 ⟨E, v, cost, er, hE, rfl, ht, hb⟩; rw [one_best hE] at ht; obtain ⟨⟨A2, c2, hv, hst⟩, hco, her⟩ := ht; have hv2 : v = .slice A2 2 c2 := hv; have hco2 : cost = 1 := hco; subst hv2 hco2 her; have HST2 := Lib.hid (show Strip w2 A2 2 1 (intRow (nth [0, 1])) from hst); have HB2 := Lib.hid hb; clear hst hb hv hco hE) | (go_at_call 13; (with_reducible refine (Ints_calls _ A2 (some ⟨w2.heap.size, 0, none⟩) 2 c2 2 (nth [0, 1]) (nth [0, 1]) (by omega) (HST2.out.below ((Below.refl _ _).alloc (Nat.le_refl _) _)) (strip01 w2) (fun _ _ => rfl)).mono ?_); rintro e w3 ⟨rfl, hb3⟩; have HB3 := Lib.hid hb3; clear hb3))
  have HB13 := Lib.hid (HB2.out.trans (((Below.refl w2.heap.size w2).alloc (Nat.le_refl _) (.cells #[.int .i64 0, .int .i64 1] 3)).trans (HB3.out.mono (by simp))|>.mono HB2.out.size))
  have HW3 := Lib.hid (HB1.out.trans (HB13.out.mono HB1.out.size))
  have HE3 := Lib.hid (HE1.out.later HB13.out)
  have HS3 := Lib.hid (HS.out.below HW3.out)
  have HZ3 := Lib.hid (show W.heap.size ≤ w3.heap.size from HW3.out.size)
  clear HA HB1 HE1 HL1 HB2 HB3 HST2
  obtain ⟨ec, ef, el⟩ := HE3.out.row
  by_cases h100 : 100 < m
  · have c100 : (100 : Int) < (m : Int) := by omega
    go_wp2
    go_ret
    exact ⟨rfl, HW3.out⟩
  · have c100 : ¬ ((100 : Int) < (m : Int)) := by omega
    clear hm5
    have hm5 : m ≤ 1000 := by omega
    go_wp2
    go_loopw [11, 42] (fun v i wr => ∃ k : Nat, k ≤ m ∧ i = .int .i64 (k : Int) ∧ OutRow wr w3.heap.size 41 15 v (advsOf x k) ∧ Below w3.heap.size w3 wr) (fun _ i _ => m - (intOf i).toNat)
    case atStart => exact ⟨0, by omega, rfl, OutRow.nil _ _ _ _, Below.refl _ _⟩
    case round =>
      obtain ⟨k, hk, rfl, ho, hbel⟩ := hrel
      obtain ⟨A4, c4, rfl⟩ := ho.form
      rw [advsOf_len] at *
      have HO := Lib.hid ho
      have HB := Lib.hid hbel
      clear ho hbel
      by_cases hlt : k < m
      · obtain ⟨ad, rfl, hadb, hc⟩ := HS3.out (by omega)
        have hge : w3.heap.size ≤ wr.heap.size := HB.out.size
        have g : ∀ j, j < 5 → wr.cell? ((ad.add (k * 5)).add j) = (link (x k))[j]? := fun j hj => (HB.out.cell (by rw [add_block, add_block]; exact hadb)).trans (hc k hlt j hj)
        have g0 : wr.cell? (ad.add (k * 5)) = some (.int .i64 (x k).src) := g 0 (by omega)
        have g1 : wr.cell? ⟨(ad.add (k * 5)).block, (ad.add (k * 5)).off + 1, none⟩ = some (.int .i64 (x k).dst) := g 1 (by omega)
        have g2 : wr.cell? ⟨(ad.add (k * 5)).block, (ad.add (k * 5)).off + 2, none⟩ = some (.int .u64 (x k).cap) := g 2 (by omega)
        have g3 : wr.cell? ⟨(ad.add (k * 5)).block, (ad.add (k * 5)).off + 3, none⟩ = some (.int .i64 (x k).metric) := g 3 (by omega)
        have g4 : wr.cell? ⟨(ad.add (k * 5)).block, (ad.add (k * 5)).off + 4, none⟩ = some (.int .u32 (x k).groups) := g 4 (by omega)
        have hst := Lib.hid (advsOf_succ x k)
        have k1 : (k : Int) < (m : Int) := by omega
        clear g hc
        go_wp2_with (at_builtin; refine wpList_app _ rfl (.tmp 46) (.tmp 49) 29 rfl w3.heap.size 41 _ 15 120 Try.underlying29 info41 rfl (by omega) _ (advsOf x k) rfl ?hown _ 1 (advert (advOf x k)) rfl rfl ?hcell ?h1 ?hn (by omega) ?hbase ?hgo; (case hown => exact (HO.out.alloc _).alloc _); (case hcell => exact new_row' _ _ _ (by simp)); (case h1 => exact adv_ones _); (case hn => (rw [advsOf_len]; omega)); (case hbase => (first | omega | (simp; omega))); (intro v' w' ho' hg' hbl; have hbl0 := Lib.hid (hbl w3.heap.size (Nat.le_refl _)); clear hbl; have HO2 := Lib.hid ho'; clear ho' hg'))
        all_goals
          go_roundw
          case rel => exact ⟨k + 1, by omega, num_step k, by rw [hst.out]; exact HO2.out, ((HB.out.alloc (by omega) _).alloc (by simp; omega) _).trans hbl0.out⟩
          case measure => exact measure_step hlt
      · obtain rfl : m = k := by omega
        have HL4 := Lib.hid (HO.out.strip_map).2
        have HE4 := Lib.hid (HE3.out.later HB.out)
        have HS4 := Lib.hid (HS3.out.below HB.out)
        have HW4 := Lib.hid (HW3.out.trans (HB.out.mono HZ3.out))
        have hxx : ∀ i, i < m → I64 (x i).src ∧ I64 (x i).dst := fun i hi => ⟨(HX.out i hi).1, (HX.out i hi).2.1⟩
        have HFI := Lib.hid fun (w' : World) (hb : Below wr.heap.size wr w') => Find_calls w' A4 m c4 (advOf x) n e0 e1 hm5 hxx (HL4.out.below hb) (fun i hi => ⟨(HX.out i hi).2.2.1, (HX.out i hi).2.2.2, Int.le_refl _, by show (0 : Int) < _; omega, rfl⟩)
        clear HO hlt hk ec ef el
        obtain ⟨ec, ef, el⟩ := HE4.out.row
        have HI0 := Lib.hid fun (w' : World) => Ints_calls w' none none 0 0 0 (fun _ => 0) (fun _ => 0) (by omega) (fun h => absurd h (by omega)) (fun h => absurd h (by omega)) (fun _ _ => rfl)
        by_cases hok : Asks n m x e0 e1
        · have HBE := Lib.hid (Best_calls wr A m c x n e0 e1 HS4.out hok)
          have HOK := Lib.hid hok
          clear hok hxx
          go_upto_region 15 with (first | (go_at_call 12; (with_reducible refine HBE.out.mono ?_); rintro e w5 ⟨E, v, cost, er, hE, rfl, ht, hb5⟩; have HE5 := Lib.hid hE; have HT5 := Lib.hid ht; have HB5 := Lib.hid hb5; clear hE ht hb5 ec ef el; obtain ⟨ec, ef, el⟩ := (HE4.out.later HB5.out).row) | (go_at_call 14; (with_reducible refine (HFI.out _ HB5.out).mono ?_); rintro e w6 ⟨v6, cost6, er6, rfl, hb6, hA6, _⟩; have HT6 := Lib.hid (hA6 HOK.out _ HE5.out); have HB6 := Lib.hid hb6; clear hb6 hA6))
          have ht5 := HT5.out
          have ht6 := HT6.out
          have HW6 := Lib.hid ((HW4.out.trans (HB5.out.mono HW4.out.size)).trans (HB6.out.mono (Nat.le_trans HW4.out.size HB5.out.size)))
          clear ec ef el
          cases hEt : E e1 with
          | none =>
            rw [hEt] at ht5 ht6
            obtain ⟨rfl, rfl, rfl⟩ := ht5
            obtain ⟨rfl, rfl, rfl⟩ := ht6
            go_wp2_with (go_at_call 13; (with_reducible refine (HI0.out _).mono ?_); rintro e w7 ⟨rfl, hb7⟩; have HB7 := Lib.hid hb7; clear hb7)
            go_ret
            exact ⟨rfl, HW6.out.trans (HB7.out.mono HW6.out.size)⟩
          | some yb =>
            rw [hEt] at ht5 ht6
            obtain ⟨⟨A5, c5, rfl, hs5⟩, rfl, rfl⟩ := ht5
            obtain ⟨⟨A6, c6, rfl, hs6⟩, rfl, rfl⟩ := ht6
            have hlen : yb.1.length ≤ 9223372036854775807 := by
              have hw := HE5.out.way _ _ _ hEt
              have hn := HE5.out.nodup (fun i hi => (HOK.out.1.may i hi).m0) _ _ _ hw hEt
              have h1 := nodup_len n.toNat _ hn (fun y hy => by
                have h2 := (hw.range HOK.out.1.may ⟨HOK.out.2.1, HOK.out.2.2.1⟩).1 y hy
                have := HOK.out.1.n0
                omega)
              have := HOK.out.1.n1
              omega
            have HIN := Lib.hid (Ints_calls w6 A5 A6 yb.1.length c5 c6 (nth yb.1) (nth yb.1) hlen (hs5.below HB6.out) hs6 (fun _ _ => rfl))
            obtain ⟨L, hL⟩ : ∃ L, yb.1.length = L := ⟨_, rfl⟩
            rw [hL] at HIN
            simp only [hL]
            clear hs5 hs6 hlen HT5 HT6 hL
            go_wp2_with (go_at_call 13; (with_reducible refine HIN.out.mono ?_); rintro e w7 ⟨rfl, hb7⟩; have HB7 := Lib.hid hb7; clear hb7)
            go_ret
            exact ⟨rfl, HW6.out.trans (HB7.out.mono HW6.out.size)⟩
        · have HBE := Lib.hid (BestBad_calls wr A m c x n e0 e1 hm5 hxx HS4.out hok)
          have HOK := Lib.hid hok
          clear hok hxx
          go_wp2_with (first | (go_at_call 12; (with_reducible refine HBE.out.mono ?_); rintro e w5 ⟨rfl, hb5⟩; have HB5 := Lib.hid hb5; clear hb5 ec ef el; obtain ⟨ec, ef, el⟩ := (HE4.out.later HB5.out).row) | (go_at_call 14; (with_reducible refine (HFI.out _ HB5.out).mono ?_); rintro e w6 ⟨v6, cost6, er6, rfl, hb6, _, hA6⟩; obtain ⟨rfl, rfl, rfl⟩ := hA6 HOK.out; have HB6 := Lib.hid hb6; clear hb6) | (go_at_call 13; (with_reducible refine (HI0.out _).mono ?_); rintro e w7 ⟨rfl, hb7⟩; have HB7 := Lib.hid hb7; clear hb7))
          go_ret
          exact ⟨rfl, ((HW4.out.trans (HB5.out.mono HW4.out.size)).trans (HB6.out.mono (Nat.le_trans HW4.out.size HB5.out.size))).trans (HB7.out.mono (Nat.le_trans HW4.out.size (Nat.le_trans HB5.out.size HB6.out.size)))⟩
end Go.Proofs.Yteaipeejhippiaa
