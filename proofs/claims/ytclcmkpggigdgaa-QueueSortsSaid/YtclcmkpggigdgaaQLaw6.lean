/- A queue takes so many items as there may be, and no more till one is popped; one that no call made takes none. The walk of the law. -/
import Derived.Test.YtclcmkpggigdgaaQLaw7
import Derived.Test.YtclcmkpggigdgaaQEq
namespace Go.Proofs.Ytclcmkpggigdgaa
open Go.RowKit
attribute [local go_sem] cell_set_self

theorem wf_u8 {n : Int} (h : (Lit.int .u8 n).wf = true) : 0 ≤ n ∧ n < 256 := by
  simp [Lit.wf, IntKind.min, IntKind.max, IntKind.bits, IntKind.signed] at h
  omega
/-- The pointer leads to no queue that a call made. -/
def Bad (w : World) (p : Value) : Prop := ∀ w', Below w.heap.size w w' → Calls Try.prog 19 #[p] w' fun e w'' => e = .returned (.bool false) ∧ w' = w''
theorem Bad.later {w w' : World} {p : Value} (h : Bad w p) (hb : Below w.heap.size w w') : Bad w' p := fun w2 h2 => h w2 (hb.trans (h2.mono hb.size))
set_option maxHeartbeats 4000000 in
theorem bad_nil (w : World) : Bad w (.pointer none) := by
  intro w' _
  go_enter Try.func19, Try.ntmps19
  go_wp2
  go_ret
  exact ⟨rfl, rfl⟩
set_option maxHeartbeats 4000000 in
theorem bad_zero (w : World) (B : Nat) (v : Value) (hr : Row w B #[.bool false, v]) : Bad w (.pointer (some ⟨B, 0, none⟩)) := by
  intro w' hb
  obtain ⟨c1, f1, s1⟩ := hr.later hb
  clear hr hb
  go_enter Try.func19, Try.ntmps19
  go_wp2
  go_ret
  exact ⟨rfl, rfl⟩
set_option maxHeartbeats 4000000 in
theorem bad_Len (w : World) (p : Value) (hp : Bad w p) : Calls Try.prog 18 #[p] w fun e w' => e = .returned (.int .i64 0) ∧ w = w' := by
  have HP := Lib.hid (hp w (Below.refl _ _))
  clear hp
  go_enter Try.func18, Try.ntmps18
  go_wp2_with (go_at_call 19; (with_reducible refine HP.out.mono ?_); rintro e w1 ⟨rfl, rfl⟩)
  go_ret
  exact ⟨rfl, rfl⟩
set_option maxHeartbeats 4000000 in
theorem bad_Push (w : World) (p : Value) (x : Item) (hp : Bad w p) : Calls Try.prog 17 #[p, .agg #[.int .i64 x.cost, .int .i64 x.hops, .int .i64 x.node]] w fun e w' => e = .returned (.int .i64 1) ∧ Below w.heap.size w w' := by
  have HP := Lib.hid fun (w' : World) (hb : Below w.heap.size w w') => hp w' hb
  clear hp
  go_enter Try.func17, Try.ntmps17
  go_wp2_with (go_at_call 19; (with_reducible refine (HP.out _ (by exact (by repeat (first | (with_reducible exact Below.refl _ _) | (with_reducible assumption) | ((with_reducible refine Below.setCell ?_ ?_ _); rotate_left; (first | omega | (simp <;> omega))) | ((with_reducible refine Below.alloc ?_ ?_ _); rotate_left; (first | omega | (simp <;> omega))) | ((with_reducible refine Below.drew ?_)) | ((with_reducible refine below_drewN ?_ _)) | ((with_reducible refine Below.trans ?_ (Below.mono (by with_reducible assumption) ?_)); rotate_left; (first | omega | (simp <;> omega))))))).mono ?_); rintro e w1 ⟨rfl, rfl⟩)
  go_ret
  exact ⟨rfl, (by repeat (first | (with_reducible exact Below.refl _ _) | (with_reducible assumption) | ((with_reducible refine Below.setCell ?_ ?_ _); rotate_left; (first | omega | (simp <;> omega))) | ((with_reducible refine Below.alloc ?_ ?_ _); rotate_left; (first | omega | (simp <;> omega))) | ((with_reducible refine Below.drew ?_)) | ((with_reducible refine below_drewN ?_ _)) | ((with_reducible refine Below.trans ?_ (Below.mono (by with_reducible assumption) ?_)); rotate_left; (first | omega | (simp <;> omega)))))⟩
set_option maxHeartbeats 4000000 in
theorem bad_Pop (w : World) (p : Value) (hp : Bad w p) : Calls Try.prog 13 #[p] w fun e w' => e = .returned (.tuple #[.agg #[.int .i64 0, .int .i64 0, .int .i64 0], .int .i64 1]) ∧ Below w.heap.size w w' := by
  have HP := Lib.hid fun (w' : World) (hb : Below w.heap.size w w') => hp w' hb
  clear hp
  go_enter Try.func13, Try.ntmps13
  go_wp2_with (go_at_call 19; (with_reducible refine (HP.out _ (by exact (by repeat (first | (with_reducible exact Below.refl _ _) | (with_reducible assumption) | ((with_reducible refine Below.setCell ?_ ?_ _); rotate_left; (first | omega | (simp <;> omega))) | ((with_reducible refine Below.alloc ?_ ?_ _); rotate_left; (first | omega | (simp <;> omega))) | ((with_reducible refine Below.drew ?_)) | ((with_reducible refine below_drewN ?_ _)) | ((with_reducible refine Below.trans ?_ (Below.mono (by with_reducible assumption) ?_)); rotate_left; (first | omega | (simp <;> omega))))))).mono ?_); rintro e w1 ⟨rfl, rfl⟩)
  exact bodyPost_ret (v := .tuple #[.agg #[.int .i64 0, .int .i64 0, .int .i64 0], .int .i64 1]) (by simp [results, Try.results13, go_sem]) rfl ⟨rfl, (by repeat (first | (with_reducible exact Below.refl _ _) | (with_reducible assumption) | ((with_reducible refine Below.setCell ?_ ?_ _); rotate_left; (first | omega | (simp <;> omega))) | ((with_reducible refine Below.alloc ?_ ?_ _); rotate_left; (first | omega | (simp <;> omega))) | ((with_reducible refine Below.drew ?_)) | ((with_reducible refine below_drewN ?_ _)) | ((with_reducible refine Below.trans ?_ (Below.mono (by with_reducible assumption) ?_)); rotate_left; (first | omega | (simp <;> omega)))))⟩
theorem Row.fr {w w' : World} {B Q : Nat} {xs : Array Value} {o : Option Nat} (h : Row w B xs) (hf : Fr w w' Q o) (hQ : B ≠ Q) (ho : some B ≠ o) : Row w' B xs :=
  ⟨fun i => (World.cell?_of_block (a := ⟨B, i, none⟩) (hf.block B h.2.2 hQ ho)).trans (h.1 i), fun i => (World.frozen?_of_block (a := ⟨B, i, none⟩) (hf.block B h.2.2 hQ ho)).trans (h.2.1 i), Nat.lt_of_lt_of_le h.2.2 hf.size⟩
theorem tmod9 {b : Int} (h : 0 ≤ b ∧ b < 256) : ∃ r : Nat, r ≤ 8 ∧ b.tmod 9 = (r : Int) := by
  refine ⟨(b % 9).toNat, by omega, ?_⟩
  rw [Int.tmod_eq_emod_of_nonneg h.1]
  omega
set_option maxRecDepth 1000000 in
set_option maxHeartbeats 32000000 in
theorem QueueFull_walk (w : World) (x : Item) (b : Int) (hb8 : 0 ≤ b ∧ b < 256) :
    Calls Try.prog 6 #[.agg #[.int .i64 x.cost, .int .i64 x.hops, .int .i64 x.node], .int .u8 b] w fun e w' => e = .returned (.bool true) ∧ Below w.heap.size w w' := by
  obtain ⟨r, hr8, hr⟩ := tmod9 hb8
  obtain ⟨hb0, hb1⟩ := hb8
  have HA := Lib.hid alive_calls
  have HN := Lib.hid New_calls
  have TH := Lib.hid fun (w : World) => theirs_calls x w
  have NE := neq_Item ⟨0, 0, 0⟩ ⟨0, 0, 0⟩
  simp only [decide_true, Bool.not_true] at NE
  have BL := Lib.hid bad_Len
  have BP := Lib.hid fun (w : World) (p : Value) (hp : Bad w p) => bad_Push w p x hp
  have BO := Lib.hid bad_Pop
  go_enter Try.func6, Try.ntmps6
  go_wp2_with (first | (go_at_call 11; (with_reducible refine (HA.out _).mono ?_); rintro e w1 ⟨rfl, hb⟩; obtain ⟨hb1, hb2⟩ := bcell hb; have hbz0 : w.heap.size < w1.heap.size := size_lt hb (by first | omega | (simp <;> omega))))
  have R1 := Lib.hid ((Row.new w #[.int .i64 x.cost, .int .i64 x.hops, .int .i64 x.node] 23).later hb)
  have HB := Lib.hid (show Below w.heap.size w w1 from (by repeat (first | (with_reducible exact Below.refl _ _) | (with_reducible assumption) | ((with_reducible refine Below.setCell ?_ ?_ _); rotate_left; (first | omega | (simp <;> omega))) | ((with_reducible refine Below.alloc ?_ ?_ _); rotate_left; (first | omega | (simp <;> omega))) | ((with_reducible refine Below.drew ?_)) | ((with_reducible refine below_drewN ?_ _)) | ((with_reducible refine Below.trans ?_ (Below.mono (by with_reducible assumption) ?_)); rotate_left; (first | omega | (simp <;> omega))))))
  clear hb hb1 hb2 hbz0
  have RL := Lib.hid ((Row.new w1 #[.bool false, .slice none 0 0] 52).alloc (.cells #[.pointer none, .pointer (some ⟨w1.heap.size, 0, none⟩)] 30))
  have RP := Lib.hid (Row.new' (w1.alloc (.cells #[.bool false, .slice none 0 0] 52)) (B := w1.heap.size + 1) #[.pointer none, .pointer (some ⟨w1.heap.size, 0, none⟩)] 30 (by simp))
  have RX := Lib.hid ((R1.out.alloc (.cells #[.bool false, .slice none 0 0] 52)).alloc (.cells #[.pointer none, .pointer (some ⟨w1.heap.size, 0, none⟩)] 30))
  have HW := Lib.hid ((HB.out.alloc HB.out.size (.cells #[.bool false, .slice none 0 0] 52)).alloc (by have := HB.out.size; simp; omega) (.cells #[.pointer none, .pointer (some ⟨w1.heap.size, 0, none⟩)] 30))
  generalize w1.heap.size = Z at *
  go_loopw [19] (fun i wr => ∃ k : Nat, k ≤ 2 ∧ i = .int .i64 (k : Int) ∧ Below w.heap.size w wr ∧ Row wr Z #[.bool false, .slice none 0 0] ∧ Row wr (Z + 1) #[.pointer none, .pointer (some ⟨Z, 0, none⟩)] ∧ Row wr w.heap.size #[.int .i64 x.cost, .int .i64 x.hops, .int .i64 x.node]) (fun i _ => 2 - (intOf i).toNat)
  case atStart => exact ⟨0, by omega, rfl, HW.out, RL.out, RP.out, RX.out⟩
  case round =>
    obtain ⟨k, hk, rfl, hbel, rl, rp, rx⟩ := hrel
    clear R1 HB RL RP RX HW
    have HW := Lib.hid hbel
    have RL := Lib.hid rl
    have RP := Lib.hid rp
    have RX := Lib.hid rx
    clear hbel
    obtain ⟨c1, f1, s1⟩ := rl
    obtain ⟨c2, f2, s2⟩ := rp
    obtain ⟨c3, f3, s3⟩ := rx
    have hkc : k = 0 ∨ k = 1 ∨ k = 2 := by omega
    clear hk
    rcases hkc with rfl | rfl | rfl
    · have HBD := Lib.hid (bad_nil wr)
      go_wp2_with (first | (go_at_call 13; (with_reducible refine (BO.out _ _ HBD.out).mono ?_); rintro e w3 ⟨rfl, h3⟩; obtain ⟨h31, h32⟩ := bcell h3; have hs3 := h3.size; have z3 : w.heap.size < w3.heap.size := Nat.lt_of_lt_of_le s3 h3.size) | (go_at_call 9; (with_reducible refine (TH.out _).mono ?_); rintro e w4 ⟨rfl, h4⟩; obtain ⟨h41, h42⟩ := bcell h4; have hs4 := h4.size; have z4 : w.heap.size < w4.heap.size := (by simp at hs4; omega); have y4 : w3.heap.size < w4.heap.size := (by simp at hs4; omega)) | (go_at_call 17; (with_reducible refine (BP.out _ _ (HBD.out.later (by exact (by repeat (first | (with_reducible exact Below.refl _ _) | (with_reducible assumption) | ((with_reducible refine Below.setCell ?_ ?_ _); rotate_left; (first | omega | (simp <;> omega))) | ((with_reducible refine Below.alloc ?_ ?_ _); rotate_left; (first | omega | (simp <;> omega))) | ((with_reducible refine Below.drew ?_)) | ((with_reducible refine below_drewN ?_ _)) | ((with_reducible refine Below.trans ?_ (Below.mono (by with_reducible assumption) ?_)); rotate_left; (first | omega | (simp <;> omega)))))))).mono ?_); rintro e w5 ⟨rfl, h5⟩; obtain ⟨h51, h52⟩ := bcell h5; have hs5 := h5.size; have z5 : w.heap.size < w5.heap.size := Nat.lt_of_lt_of_le z4 hs5; have y5 : w3.heap.size < w5.heap.size := Nat.lt_of_lt_of_le y4 hs5) | (go_at_call 18; (with_reducible refine (BL.out _ _ (HBD.out.later (by exact (by repeat (first | (with_reducible exact Below.refl _ _) | (with_reducible assumption) | ((with_reducible refine Below.setCell ?_ ?_ _); rotate_left; (first | omega | (simp <;> omega))) | ((with_reducible refine Below.alloc ?_ ?_ _); rotate_left; (first | omega | (simp <;> omega))) | ((with_reducible refine Below.drew ?_)) | ((with_reducible refine below_drewN ?_ _)) | ((with_reducible refine Below.trans ?_ (Below.mono (by with_reducible assumption) ?_)); rotate_left; (first | omega | (simp <;> omega)))))))).mono ?_); rintro e w6 ⟨rfl, rfl⟩))
      have hw5 : Below wr.heap.size wr w5 := (by repeat (first | (with_reducible exact Below.refl _ _) | (with_reducible assumption) | ((with_reducible refine Below.setCell ?_ ?_ _); rotate_left; (first | omega | (simp <;> omega))) | ((with_reducible refine Below.alloc ?_ ?_ _); rotate_left; (first | omega | (simp <;> omega))) | ((with_reducible refine Below.drew ?_)) | ((with_reducible refine below_drewN ?_ _)) | ((with_reducible refine Below.trans ?_ (Below.mono (by with_reducible assumption) ?_)); rotate_left; (first | omega | (simp <;> omega)))))
      exact ⟨⟨1, by omega, rfl, HW.out.trans (hw5.mono HW.out.size), RL.out.later hw5, RP.out.later hw5, RX.out.later hw5⟩, by simp [intOf]⟩
    · have HBD := Lib.hid (bad_zero wr Z _ RL.out)
      go_wp2_with (first | (go_at_call 13; (with_reducible refine (BO.out _ _ HBD.out).mono ?_); rintro e w3 ⟨rfl, h3⟩; obtain ⟨h31, h32⟩ := bcell h3; have hs3 := h3.size; have z3 : w.heap.size < w3.heap.size := Nat.lt_of_lt_of_le s3 h3.size) | (go_at_call 9; (with_reducible refine (TH.out _).mono ?_); rintro e w4 ⟨rfl, h4⟩; obtain ⟨h41, h42⟩ := bcell h4; have hs4 := h4.size; have z4 : w.heap.size < w4.heap.size := (by simp at hs4; omega); have y4 : w3.heap.size < w4.heap.size := (by simp at hs4; omega)) | (go_at_call 17; (with_reducible refine (BP.out _ _ (HBD.out.later (by exact (by repeat (first | (with_reducible exact Below.refl _ _) | (with_reducible assumption) | ((with_reducible refine Below.setCell ?_ ?_ _); rotate_left; (first | omega | (simp <;> omega))) | ((with_reducible refine Below.alloc ?_ ?_ _); rotate_left; (first | omega | (simp <;> omega))) | ((with_reducible refine Below.drew ?_)) | ((with_reducible refine below_drewN ?_ _)) | ((with_reducible refine Below.trans ?_ (Below.mono (by with_reducible assumption) ?_)); rotate_left; (first | omega | (simp <;> omega)))))))).mono ?_); rintro e w5 ⟨rfl, h5⟩; obtain ⟨h51, h52⟩ := bcell h5; have hs5 := h5.size; have z5 : w.heap.size < w5.heap.size := Nat.lt_of_lt_of_le z4 hs5; have y5 : w3.heap.size < w5.heap.size := Nat.lt_of_lt_of_le y4 hs5) | (go_at_call 18; (with_reducible refine (BL.out _ _ (HBD.out.later (by exact (by repeat (first | (with_reducible exact Below.refl _ _) | (with_reducible assumption) | ((with_reducible refine Below.setCell ?_ ?_ _); rotate_left; (first | omega | (simp <;> omega))) | ((with_reducible refine Below.alloc ?_ ?_ _); rotate_left; (first | omega | (simp <;> omega))) | ((with_reducible refine Below.drew ?_)) | ((with_reducible refine below_drewN ?_ _)) | ((with_reducible refine Below.trans ?_ (Below.mono (by with_reducible assumption) ?_)); rotate_left; (first | omega | (simp <;> omega)))))))).mono ?_); rintro e w6 ⟨rfl, rfl⟩))
      have hw5 : Below wr.heap.size wr w5 := (by repeat (first | (with_reducible exact Below.refl _ _) | (with_reducible assumption) | ((with_reducible refine Below.setCell ?_ ?_ _); rotate_left; (first | omega | (simp <;> omega))) | ((with_reducible refine Below.alloc ?_ ?_ _); rotate_left; (first | omega | (simp <;> omega))) | ((with_reducible refine Below.drew ?_)) | ((with_reducible refine below_drewN ?_ _)) | ((with_reducible refine Below.trans ?_ (Below.mono (by with_reducible assumption) ?_)); rotate_left; (first | omega | (simp <;> omega)))))
      exact ⟨⟨2, by omega, rfl, HW.out.trans (hw5.mono HW.out.size), RL.out.later hw5, RP.out.later hw5, RX.out.later hw5⟩, by simp [intOf]⟩
    · clear BO BP BL NE c1 f1 s1 c2 f2 s2 c3 f3 RL RP
      go_wp2_with (go_at_call 12; (with_reducible refine (HN.out _).mono ?_); rintro e w2 ⟨rfl, rfl⟩)
      have hwr := HW.out.size
      have HQ := Lib.hid (Que.new wr w.heap.size (fun _ => ⟨0, 0, 0⟩))
      have HB := Lib.hid (HW.out.alloc hwr (.cells #[.bool true, .slice none 0 0] 52))
      have RX := Lib.hid (RX.out.alloc (.cells #[.bool true, .slice none 0 0] 52))
      have hxQ : w.heap.size < wr.heap.size := s3
      clear HW HN
      generalize wr.heap.size = Q at *
      have hQw2 : w.heap.size ≤ Q := hwr
      have HP := Lib.hid fun (w' : World) (k : Nat) (hk : k < 1024) (v : Value) (d : Nat → Item) (hq : Que w' w.heap.size Q v k d) (hb : w.heap.size ≤ w'.heap.size) (y : Item) => QPush_calls w' w.heap.size Q k v d y hq hk hb
      go_loopw [51] (fun i wr => ∃ (k : Nat) (v : Value) (d : Nat → Item), k ≤ 1024 ∧ i = .int .i64 (k : Int) ∧ Below w.heap.size w wr ∧ Que wr w.heap.size Q v k d ∧ (∀ y, 0 < many d k y → y.cost = x.cost) ∧ Row wr w.heap.size #[.int .i64 x.cost, .int .i64 x.hops, .int .i64 x.node] ∧ v.ownBlock ≠ some w.heap.size) (fun i _ => 1024 - (intOf i).toNat)
      case atStart => exact ⟨0, _, _, by omega, rfl, HB.out, HQ.out, fun y hy => by simp [many] at hy, RX.out, by simp [Value.ownBlock]⟩
      case round =>
        obtain ⟨k, v, d, hk, rfl, hbel, hq, hm, hr, hv⟩ := hrel
        clear HQ HB RX
        have HQ := Lib.hid hq
        have HB := Lib.hid hbel
        have HM := Lib.hid hm
        have HR := Lib.hid hr
        have HV := Lib.hid hv
        have hQr : Q < wr.heap.size := hq.blk.lt
        obtain ⟨c1, f1, s1⟩ := hr
        clear hq hbel hm hv
        by_cases hlt : k < 1024
        · have HP1 := Lib.hid (show Calls Try.prog 17 #[.pointer (some ⟨Q, 0, none⟩), .agg #[.int .i64 x.cost, .int .i64 0, .int .i64 (k : Int)]] wr (PushPost wr w.heap.size Q v k d ⟨x.cost, 0, k⟩) from HP.out wr k hlt v d HQ.out HB.out.size ⟨x.cost, 0, k⟩)
          go_wp2_with (go_at_call 17; (with_reducible refine HP1.out.mono ?_); rintro e w4 ⟨rfl, v4, d4, hq4, hm4, hf4, ho4⟩)
          have hk4 := HQ.out.keeps hf4 HB.out.size hQw2
          go_roundw
          case rel =>
            refine ⟨k + 1, v4, d4, by omega, num_step k, HB.out.trans hk4, hq4, fun y hy => ?_, HR.out.fr hf4 (by omega) (Ne.symm HV.out), fun e => ?_⟩
            · rw [hm4 y] at hy
              by_cases e : (⟨x.cost, 0, (k : Int)⟩ : Item) = y
              · rw [← e]
              · rw [if_neg e] at hy
                exact HM.out y (by omega)
            · rcases ho4 _ e with h | h
              · exact HV.out h
              · exact absurd s1 (by omega)
          case measure => exact measure_step hlt
        · obtain rfl : k = 1024 := by omega
          clear c1 f1
          rw [show ((1024 : Nat) : Int) = 1024 from rfl]
          go_wp2_with fail
          go_loopw [65] (fun i wr => ∃ (k : Nat) (v : Value) (d : Nat → Item), k ≤ r ∧ i = .int .i64 (k : Int) ∧ Below w.heap.size w wr ∧ Que wr w.heap.size Q v 1024 d ∧ (∀ y, 0 < many d 1024 y → y.cost = x.cost) ∧ Row wr w.heap.size #[.int .i64 x.cost, .int .i64 x.hops, .int .i64 x.node] ∧ v.ownBlock ≠ some w.heap.size) (fun i _ => r - (intOf i).toNat)
          case atStart => exact ⟨0, v, d, by omega, rfl, HB.out, HQ.out, HM.out, HR.out, HV.out⟩
          case round =>
            clear HQ HB HM HR HV hQr s1 hk hlt
            obtain ⟨k, v, d, hk, rfl, hbel, hq, hm, hr, hv⟩ := hrel
            have HQ := Lib.hid hq
            have HB := Lib.hid hbel
            have HM := Lib.hid hm
            have HR := Lib.hid hr
            have HV := Lib.hid hv
            have hQr : Q < wr.heap.size := hq.blk.lt
            obtain ⟨c1, f1, s1⟩ := hr
            have hbs := hbel.size
            clear hq hbel hm hv
            by_cases hlt : k < r
            · have hcost : ((d 0).cost != x.cost) = false := by rw [bne_eq_false_iff_eq]; exact HM.out _ (many_zero (by omega))
              have HFu := Lib.hid fun (w' : World) (hb : Below wr.heap.size wr w') => QFull_calls w' w.heap.size Q 1024 v d x (HQ.out.later hb) (by omega) (by omega)
              have HT := Lib.hid fun (w' : World) (hb : Below wr.heap.size wr w') => QPop_calls w' w.heap.size Q 1023 v d (HQ.out.later hb) (by omega)
              go_wp2_with (first | (go_at_call 9; (with_reducible refine (TH.out _).mono ?_); rintro e w3 ⟨rfl, h3⟩; have hs3 := h3.size) | (go_at_call 17; (with_reducible refine (HFu.out _ h3).mono ?_); rintro e w4 ⟨rfl, h4⟩; have h34 := h3.trans (h4.mono hs3); have hs4 := h34.size) | (go_at_call 13; (with_reducible refine (HT.out _ h34).mono ?_); rintro e w5 ⟨rfl, v5, d5, hq5, hm5, hf5, ho5⟩; have hs5 := hf5.size; have hk5 := (HQ.out.later h34).keeps hf5 (by omega) hQw2; have hr5 := (HR.out.later h34).fr hf5 (by omega) (Ne.symm HV.out); obtain ⟨c5, f5, s5⟩ := hr5; have HR5 := Lib.hid (show Row w5 w.heap.size _ from ⟨c5, f5, s5⟩); have HQ5 := Lib.hid hq5; have HM5 := Lib.hid hm5; have HO5 := Lib.hid ho5; clear hq5 hm5 ho5 hf5) | (go_at_call 17; (with_reducible refine (HP.out _ 1023 (by omega) v5 d5 (HQ5.out.later ((Below.refl _ _).alloc (Nat.le_refl _) _)) (by simp; omega) (d 0)).mono ?_); rintro e w6 ⟨rfl, v6, d6, hq6, hm6, hf6, ho6⟩))
              have hk6 := (HQ5.out.later ((Below.refl w5.heap.size w5).alloc (Nat.le_refl _) (.cells #[.int .i64 (d 0).cost, .int .i64 (d 0).hops, .int .i64 (d 0).node] 25))).keeps hf6 (by simp; omega) hQw2
              have hv5 : v5.ownBlock ≠ some w.heap.size := by rw [HO5.out]; exact HV.out
              go_roundw
              case rel =>
                refine ⟨k + 1, v6, d6, by omega, num_step k, (((HB.out.trans (h34.mono (by omega))).trans hk5).alloc (by omega) _).trans hk6, hq6, fun y hy => ?_, (HR5.out.alloc _).fr hf6 (by omega) (Ne.symm hv5), fun e => ?_⟩
                · rw [hm6 y] at hy
                  have h5 := HM5.out y
                  exact HM.out y (show 0 < many d (1023 + 1) y by omega)
                · rcases ho6 _ e with h | h
                  · exact hv5 h
                  · have s9 := HR5.out.2.2
                    exact absurd h (by simp; omega)
              case measure => exact measure_step hlt
            · obtain ⟨A0, c0, rfl⟩ := HQ.out.row.form
              have HL := Lib.hid (show Calls Try.prog 18 #[.pointer (some ⟨Q, 0, none⟩)] wr (fun e w' => e = .returned (.int .i64 1024) ∧ wr = w') from QLen_calls wr Q 1024 A0 c0 HQ.out.blk)
              go_wp2_with (go_at_call 18; (with_reducible refine HL.out.mono ?_); rintro e w5 ⟨rfl, rfl⟩)
              go_ret
              exact ⟨rfl, HB.out⟩
end Go.Proofs.Ytclcmkpggigdgaa
