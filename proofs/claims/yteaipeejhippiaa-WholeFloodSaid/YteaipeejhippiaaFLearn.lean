/- A base is told what another one knows, by bytes; adverts under the reference's name; the very same adverts. -/
import Derived.Test.YteaipeejhippiaaFDec
import Derived.Test.YteaipeejhippiaaFEq
namespace Go.Proofs.Yteaipeejhippiaa
open Go.RowKit
attribute [local go_sem] cell_set_self
set_option linter.unusedVariables false

/-- May each be said? -/
def Sound (xs : List Adv) : Prop := ∀ i, i < xs.length → (nth xs i).Fine ∧ (nth xs i).Wf ∧ I64 (nth xs i).src ∧ I64 (nth xs i).dst
noncomputable def apps (xs ys : List Adv) : List Adv := ys.foldl app xs
theorem apps_length (xs ys : List Adv) : (apps xs ys).length = xs.length := by
  induction ys generalizing xs with
  | nil => rfl
  | cons y ys ih =>
    have e : apps xs (y :: ys) = apps (app xs y) ys := rfl
    rw [e, ih, app_length]
theorem apps_snoc (xs ys : List Adv) (y : Adv) : apps xs (ys ++ [y]) = app (apps xs ys) y := by simp [apps]
def LearnPost (w : World) (ba bo Qa Qo : Nat) (va vo : Value) (xs ys : List Adv) (e : Ending) (w' : World) : Prop := e = .returned (.bool true) ∧ Bas w' ba Qa va (apps xs ys) ∧ Bas w' bo Qo vo ys ∧ w.grownBy w' va.ownBlock
def LearnRel (w3 : World) (ba Qa : Nat) (va : Value) (xs ys : List Adv) (i : Value) (wr : World) : Prop := ∃ k : Nat, k ≤ ys.length ∧ i = .int .i64 (k : Int) ∧ Bas wr ba Qa va (apps xs (ys.take k)) ∧ w3.grownBy wr va.ownBlock
set_option maxRecDepth 100000 in
set_option maxHeartbeats 8000000 in
theorem learn_calls (w : World) (ba bo Qa Qo : Nat) (va vo : Value) (xs ys : List Adv) (ha : Bas w ba Qa va xs) (ho : Bas w bo Qo vo ys) (hx : xs.length ≤ 64) (hy : ys.length ≤ 64) (hs : Sound ys) (hne : ∀ g, va.ownBlock = some g → vo.ownBlock ≠ some g) : Calls Try.prog 9 #[.pointer (some ⟨Qa, 0, none⟩), .pointer (some ⟨Qo, 0, none⟩)] w (LearnPost w ba bo Qa Qo va vo xs ys) := by
  have H6 := Lib.hid (All_calls w bo Qo vo ys ho hy)
  have H6 := Lib.hid fun (w' : World) (h : Bas w' bo Qo vo ys) => All_calls w' bo Qo vo ys h hy
  have H21 := Lib.hid fun (w' : World) (A : Option Addr) (c : Nat) (h : Strip w' A ys.length 15 (fun i => advert (nth ys i))) => Encode_calls w' A c ys hy h hs
  have H22 := Lib.hid fun (w' : World) (A : Option Addr) (m c : Nat) (h : BV w' (.slice A m c) (encL ys)) => Decode_calls w' (.slice A m c) ys hy h hs
  have H7 := Lib.hid fun (w' : World) (zs : List Adv) (k : Nat) (hk : k < ys.length) (hz : zs.length ≤ 64) (h : Bas w' ba Qa va zs) => Apply_calls w' ba Qa va zs (nth ys k) h hz (hs k hk).2.2.1 (hs k hk).2.2.2
  have HA := Lib.hid ha
  have HO := Lib.hid ho
  have HNE := Lib.hid hne
  have hlt := ha.row.1.lt
  have HLT := Lib.hid hlt
  have hoq := Bas.apart ho
  have hqo : va.ownBlock ≠ some Qo := own_ne ha.row.1 ho.blk (by decide)
  have HQO := Lib.hid hqo
  clear ha ho hs hne hlt hoq hqo
  go_enter Try.func9, Try.ntmps9
  go_wp2_with (first | (go_at_call 6; (with_reducible refine (H6.out _ HO.out).mono ?_); rintro e w1 ⟨A1, c1, rfl, hs1, _, hb1⟩; have HS1 := Lib.hid hs1; have HB1 := Lib.hid hb1; clear hs1 hb1) | (go_at_call 21; (with_reducible refine (H21.out _ A1 c1 HS1.out).mono ?_); rintro e w2 ⟨A2, m2, c2, rfl, hv2, hb2⟩; have HV2 := Lib.hid hv2; have HB2 := Lib.hid (HB1.out.trans (hb2.mono HB1.out.size)); clear hv2 hb2) | (go_at_call 22; (with_reducible refine (H22.out _ A2 m2 c2 HV2.out).mono ?_); rintro e w3 ⟨A3, c3, rfl, hs3, hd3, hb3⟩; have HS3 := Lib.hid hs3; have HD3 := Lib.hid hd3; have HB3 := Lib.hid (HB2.out.trans (hb3.mono HB2.out.size)); have hz2 := HB2.out.size; have HZ2 := Lib.hid hz2; clear hs3 hd3 hb3 hz2))
  have HI := Lib.hid (show LearnRel w3 ba Qa va xs ys (.int .i64 0) w3 from ⟨0, Nat.zero_le _, rfl, HA.out.later HB3.out, World.grownBy.refl _ _⟩)
  have HSP := Lib.hid (show ∀ wr, w3.grownBy wr va.ownBlock → Strip wr A3 ys.length 15 (fun i => advert (nth ys i)) from fun wr hg => HS3.out.grown hg fun ad e e2 => by
    have h1 := HD3.out ad e
    have h2 := HLT.out _ e2.symm
    have h3 := HZ2.out
    omega)
  clear H6 H21 H22 HS1 HB1 HV2 HB2
  go_loopw [30] (fun i wr => LearnRel w3 ba Qa va xs ys i wr) (fun i _ => ys.length - (intOf i).toNat)
  case atStart => exact HI.out
  case round =>
    clear HI
    obtain ⟨k, hk, rfl, hba, hg⟩ := hrel
    have HBa := Lib.hid hba
    have HG := Lib.hid hg
    have HSr := Lib.hid (HSP.out wr hg)
    clear hba hg
    by_cases hlt : k < ys.length
    · have i0 : (0 : Int) ≤ (k : Int) := by omega
      have i1 : (k : Int) < (ys.length : Int) := by omega
      obtain ⟨ad, rfl, hadb, gg⟩ := HSr.out.adv hlt
      have gg := gg wr (Below.refl _ _)
      have g0 : wr.cell? (ad.add (k * 15)) = some (.int .i64 (nth ys k).src) := gg 0 (by omega); have g1 : wr.cell? ⟨(ad.add (k * 15)).block, (ad.add (k * 15)).off + 1, none⟩ = some (.int .i64 (nth ys k).dst) := gg 1 (by omega); have g2 : wr.cell? ⟨(ad.add (k * 15)).block, (ad.add (k * 15)).off + 2, none⟩ = some (.int .u64 (nth ys k).cap) := gg 2 (by omega); have g3 : wr.cell? ⟨(ad.add (k * 15)).block, (ad.add (k * 15)).off + 3, none⟩ = some (.int .i64 (nth ys k).metric) := gg 3 (by omega); have g4 : wr.cell? ⟨(ad.add (k * 15)).block, (ad.add (k * 15)).off + 4, none⟩ = some (.int .u32 (nth ys k).groups) := gg 4 (by omega); have g5 : wr.cell? ⟨(ad.add (k * 15)).block, (ad.add (k * 15)).off + 5, none⟩ = some (.int .i64 (nth ys k).seq) := gg 5 (by omega); have g6 : wr.cell? ⟨(ad.add (k * 15)).block, (ad.add (k * 15)).off + 6, none⟩ = some (.bool (nth ys k).up) := gg 6 (by omega); have g7 : wr.cell? ⟨(ad.add (k * 15)).block, (ad.add (k * 15)).off + 7, none⟩ = some (.int .u64 ((nth ys k).free 0)) := gg 7 (by omega); have g8 : wr.cell? ⟨(ad.add (k * 15)).block, (ad.add (k * 15)).off + 8, none⟩ = some (.int .u64 ((nth ys k).free 1)) := gg 8 (by omega); have g9 : wr.cell? ⟨(ad.add (k * 15)).block, (ad.add (k * 15)).off + 9, none⟩ = some (.int .u64 ((nth ys k).free 2)) := gg 9 (by omega); have g10 : wr.cell? ⟨(ad.add (k * 15)).block, (ad.add (k * 15)).off + 10, none⟩ = some (.int .u64 ((nth ys k).free 3)) := gg 10 (by omega); have g11 : wr.cell? ⟨(ad.add (k * 15)).block, (ad.add (k * 15)).off + 11, none⟩ = some (.int .u64 ((nth ys k).free 4)) := gg 11 (by omega); have g12 : wr.cell? ⟨(ad.add (k * 15)).block, (ad.add (k * 15)).off + 12, none⟩ = some (.int .u64 ((nth ys k).free 5)) := gg 12 (by omega); have g13 : wr.cell? ⟨(ad.add (k * 15)).block, (ad.add (k * 15)).off + 13, none⟩ = some (.int .u64 ((nth ys k).free 6)) := gg 13 (by omega); have g14 : wr.cell? ⟨(ad.add (k * 15)).block, (ad.add (k * 15)).off + 14, none⟩ = some (.int .u64 ((nth ys k).free 7)) := gg 14 (by omega)
      clear gg
      have H7k := Lib.hid fun (w' : World) (h : Bas w' ba Qa va (apps xs (ys.take k))) => H7.out w' (apps xs (ys.take k)) k hlt (by rw [apps_length]; exact hx) h
      go_wp2_with (go_at_call 7; (with_reducible refine (H7k.out _ (HBa.out.alloc _)).mono ?_); rintro e w4 ⟨b4, r4, rfl, hb4, hg4⟩; have HB4 := Lib.hid hb4; have HG4 := Lib.hid hg4; clear hb4 hg4)
      have hb5 := HB4.out
      rw [← apps_snoc, ← nth_take ys k hlt] at hb5
      have HB5 := Lib.hid hb5
      have HG5 := Lib.hid ((grown_below HG.out (show Below wr.heap.size wr (wr.alloc (.cells (advert (nth ys k)) 41)) from (by repeat (first | (with_reducible exact Below.refl _ _) | (with_reducible assumption) | ((with_reducible refine Below.setCell ?_ ?_ _); rotate_left; (first | omega | (simp <;> omega))) | ((with_reducible refine Below.alloc ?_ ?_ _); rotate_left; (first | omega | (simp <;> omega))) | ((with_reducible refine Below.drew ?_)) | ((with_reducible refine below_drewN ?_ _)) | ((with_reducible refine Below.trans ?_ (Below.mono (by with_reducible assumption) ?_)); rotate_left; (first | omega | (simp <;> omega))))))).trans HG4.out)
      clear hb5 g0 g1 g2 g3 g4 g5 g6 g7 g8 g9 g10 g11 g12 g13 g14
      go_roundw
      case rel => exact ⟨k + 1, by omega, num_step k, HB5.out, HG5.out⟩
      case measure => exact measure_step hlt
    · obtain rfl : k = ys.length := by omega
      go_wp2
      go_ret
      have h1 := HBa.out
      rw [List.take_length] at h1
      exact ⟨rfl, h1, (HO.out.later HB3.out).grown HG.out (Ne.symm HQO.out) (by
        cases hv : vo.ownBlock with
        | none => exact .inl rfl
        | some g => exact .inr (fun e => HNE.out g e.symm hv)), (grown_of_below HB3.out _).trans HG.out⟩
theorem infoRAdv : Info Try.prog 37 (.agg #[.int .i64 0, .int .i64 0, .int .u64 0, .int .i64 0, .int .u32 0, .int .i64 0, .bool false, .int .u64 0, .int .u64 0, .int .u64 0, .int .u64 0, .int .u64 0, .int .u64 0, .int .u64 0, .int .u64 0]) 15 120 := by unfold Info; kernel_rfl
def OursPost (w : World) (n : Nat) (f : Nat → Adv) (e : Ending) (w' : World) : Prop := ∃ A c, e = .returned (.slice A n c) ∧ Strip w' A n 15 (fun i => advert (f i)) ∧ Below w.heap.size w w'
def OursRel (w : World) (n : Nat) (f : Nat → Adv) (v i : Value) (wr : World) : Prop := ∃ k : Nat, k ≤ n ∧ i = .int .i64 (k : Int) ∧ OutRow wr w.heap.size 37 15 v ((List.range k).map fun i => advert (f i)) ∧ Below w.heap.size w wr
set_option maxRecDepth 100000 in
set_option maxHeartbeats 8000000 in
theorem Ours_calls (w : World) (A : Option Addr) (n c : Nat) (f : Nat → Adv) (hn : n ≤ 1000) (hs : Strip w A n 15 (fun i => advert (f i))) : Calls Try.prog 11 #[.slice A n c] w (OursPost w n f) := by
  have HS := Lib.hid hs
  clear hs
  go_enter Try.func11, Try.ntmps11
  go_wp2
  go_loopw [3, 8] (fun v i wr => OursRel w n f v i wr) (fun _ i _ => n - (intOf i).toNat)
  case atStart => exact ⟨0, Nat.zero_le _, rfl, OutRow.nil _ _ _ _, Below.refl _ _⟩
  case round =>
    obtain ⟨k, hk, rfl, ho, hb⟩ := hrel
    obtain ⟨A1, c1, rfl⟩ := ho.form
    have hl : ((List.range k).map fun i => advert (f i)).length = k := by simp
    rw [hl] at ho
    rw [hl]
    have HO := Lib.hid ho
    have HB := Lib.hid hb
    have hws := hb.size
    clear ho hb hl
    by_cases hlt : k < n
    · have i0 : (0 : Int) ≤ (k : Int) := by omega
      have i1 : (k : Int) < (n : Int) := by omega
      obtain ⟨ad, rfl, hadb, gg⟩ := HS.out.adv hlt
      have gg := gg wr HB.out
      have g0 : wr.cell? (ad.add (k * 15)) = some (.int .i64 (f k).src) := gg 0 (by omega); have g1 : wr.cell? ⟨(ad.add (k * 15)).block, (ad.add (k * 15)).off + 1, none⟩ = some (.int .i64 (f k).dst) := gg 1 (by omega); have g2 : wr.cell? ⟨(ad.add (k * 15)).block, (ad.add (k * 15)).off + 2, none⟩ = some (.int .u64 (f k).cap) := gg 2 (by omega); have g3 : wr.cell? ⟨(ad.add (k * 15)).block, (ad.add (k * 15)).off + 3, none⟩ = some (.int .i64 (f k).metric) := gg 3 (by omega); have g4 : wr.cell? ⟨(ad.add (k * 15)).block, (ad.add (k * 15)).off + 4, none⟩ = some (.int .u32 (f k).groups) := gg 4 (by omega); have g5 : wr.cell? ⟨(ad.add (k * 15)).block, (ad.add (k * 15)).off + 5, none⟩ = some (.int .i64 (f k).seq) := gg 5 (by omega); have g6 : wr.cell? ⟨(ad.add (k * 15)).block, (ad.add (k * 15)).off + 6, none⟩ = some (.bool (f k).up) := gg 6 (by omega); have g7 : wr.cell? ⟨(ad.add (k * 15)).block, (ad.add (k * 15)).off + 7, none⟩ = some (.int .u64 ((f k).free 0)) := gg 7 (by omega); have g8 : wr.cell? ⟨(ad.add (k * 15)).block, (ad.add (k * 15)).off + 8, none⟩ = some (.int .u64 ((f k).free 1)) := gg 8 (by omega); have g9 : wr.cell? ⟨(ad.add (k * 15)).block, (ad.add (k * 15)).off + 9, none⟩ = some (.int .u64 ((f k).free 2)) := gg 9 (by omega); have g10 : wr.cell? ⟨(ad.add (k * 15)).block, (ad.add (k * 15)).off + 10, none⟩ = some (.int .u64 ((f k).free 3)) := gg 10 (by omega); have g11 : wr.cell? ⟨(ad.add (k * 15)).block, (ad.add (k * 15)).off + 11, none⟩ = some (.int .u64 ((f k).free 4)) := gg 11 (by omega); have g12 : wr.cell? ⟨(ad.add (k * 15)).block, (ad.add (k * 15)).off + 12, none⟩ = some (.int .u64 ((f k).free 5)) := gg 12 (by omega); have g13 : wr.cell? ⟨(ad.add (k * 15)).block, (ad.add (k * 15)).off + 13, none⟩ = some (.int .u64 ((f k).free 6)) := gg 13 (by omega); have g14 : wr.cell? ⟨(ad.add (k * 15)).block, (ad.add (k * 15)).off + 14, none⟩ = some (.int .u64 ((f k).free 7)) := gg 14 (by omega)
      clear gg
      go_wp2_with (at_builtin; refine wpList_app _ rfl (.tmp 12) (.tmp 22) 25 rfl w.heap.size 37 _ 15 120 Try.underlying25 infoRAdv rfl (by omega) (.slice A1 k c1) ((List.range k).map fun i => advert (f i)) rfl ((HO.out.alloc _).alloc _) (wr.heap.size + 1) 1 (advert (f k)) rfl rfl (new_row' _ _ _ (by simp)) (advert_ones _) (by simp; omega) (by omega) (by simp; omega) ?_; intro v4 w4 ho4 hg4 hb4; have HO4 := Lib.hid ho4; have HB4 := Lib.hid (((HB.out.alloc hws (.cells (advert (f k)) 41)).alloc (by simp; omega) (.cells (advert (f k)) 37)).trans (hb4 _ (Nat.le_refl _))); clear ho4 hg4 hb4)
      have ho5 := HO4.out
      rw [show ((List.range k).map fun i => advert (f i)) ++ [advert (f k)] = (List.range (k + 1)).map fun i => advert (f i) from by rw [List.range_succ, List.map_append]; rfl] at ho5
      have HO5 := Lib.hid ho5
      clear ho5 g0 g1 g2 g3 g4 g5 g6 g7 g8 g9 g10 g11 g12 g13 g14
      go_roundw
      case rel => exact ⟨k + 1, by omega, num_step k, HO5.out, HB4.out⟩
      case measure => exact measure_step hlt
    · obtain rfl : n = k := by omega
      go_wp2
      go_ret
      exact ⟨A1, c1, rfl, HO.out.strip_map.2, HB.out⟩
end Go.Proofs.Yteaipeejhippiaa
