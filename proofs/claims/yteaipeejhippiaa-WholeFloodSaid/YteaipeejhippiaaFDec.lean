/- The adverts of bytes: tedb.Decode. -/
import Derived.Test.YteaipeejhippiaaFOne
namespace Go.Proofs.Yteaipeejhippiaa
open Go.RowKit
attribute [local go_sem] cell_set_self
set_option linter.unusedVariables false

def DecPost (w : World) (xs : List Adv) (e : Ending) (w' : World) : Prop := ∃ A c, e = .returned (.tuple #[.slice A xs.length c, .int .i64 0]) ∧ Strip w' A xs.length 15 (fun i => advert (nth xs i)) ∧ (∀ ad, A = some ad → w.heap.size ≤ ad.block) ∧ Below w.heap.size w w'
def lenOf : Value → Nat
  | .slice _ n _ => n
  | _ => 0
/-- k adverts are read, the others' bytes stand ahead. -/
def DecRel (w : World) (R B : Nat) (xs : List Adv) (v : Value) (wr : World) : Prop := ∃ k, k ≤ xs.length ∧ RdrL wr R B (encL (xs.drop k)) ∧ OutRow wr B 41 15 v ((xs.take k).map advert) ∧ Below w.heap.size w wr ∧ B ≤ wr.heap.size
theorem drop_nth (xs : List Adv) (k : Nat) (hk : k < xs.length) : xs.drop k = nth xs k :: xs.drop (k + 1) := by
  rw [List.drop_eq_getElem_cons hk]
  unfold nth
  rw [List.getD_eq_getElem?_getD, List.getElem?_eq_getElem hk]
  rfl
set_option maxRecDepth 100000 in
set_option maxHeartbeats 8000000 in
theorem Decode_calls (w : World) (v : Value) (xs : List Adv) (hn : xs.length ≤ 64) (hv : BV w v (encL xs)) (hf : ∀ i, i < xs.length → (nth xs i).Fine ∧ (nth xs i).Wf ∧ I64 (nth xs i).src ∧ I64 (nth xs i).dst) : Calls Try.prog 22 #[v] w (DecPost w xs) := by
  have hlen := encL_length xs
  have HN := Lib.hid fun (w' : World) (h : BV w' v (encL xs)) => New_bytes w' v (encL xs) h (by omega)
  have HV := Lib.hid hv
  have HF := Lib.hid hf
  obtain ⟨A0, c0, rfl, _, _⟩ := hv
  have hl2 : ((encL xs).length : Int) ≤ 5632 := by omega
  generalize (encL xs).length = L0 at *
  clear hf hlen
  go_enter Try.func22, Try.ntmps22
  go_wp2_with (go_at_call 35; (with_reducible refine (HN.out _ HV.out).mono ?_); rintro e w1 ⟨R, rfl, hr, hR, hb⟩; have HR := Lib.hid hr; have HB := Lib.hid hb; have hRw : w.heap.size ≤ R := hR; clear hr hb hR)
  have HI := Lib.hid (show DecRel w R w1.heap.size xs (.slice none 0 0) w1 from ⟨0, Nat.zero_le _, by simpa using HR.out, OutRow.nil _ _ _ _, HB.out, Nat.le_refl _⟩)
  have hBw : w.heap.size ≤ w1.heap.size := HB.out.size
  clear HR HB HN HV
  generalize w1.heap.size = B at *
  go_loopw [4] (fun v wr => DecRel w R B xs v wr) (fun v _ => xs.length - lenOf v)
  case atStart => exact HI.out
  case round =>
    clear HI
    obtain ⟨k, hk, hr, ho, hb, hBr⟩ := hrel
    obtain ⟨A, c, rfl⟩ := ho.form
    have hl : ((xs.take k).map advert).length = k := by simp; omega
    rw [hl] at ho
    rw [hl]
    have HR := Lib.hid hr
    have HO := Lib.hid ho
    have HB := Lib.hid hb
    have hws := hb.size
    have HLF := Lib.hid fun (w' : World) (m : Nat) (hm : (encL (xs.drop k)).length = m) (h : RdrL w' R B (encL (xs.drop k))) => (show Calls Try.prog 36 #[.pointer (some ⟨R, 0, none⟩)] w' fun e w'' => e = .returned (.int .i64 (m : Int)) ∧ w' = w'' from by
      obtain ⟨A1, c1, hbk⟩ := h.blk
      subst hm
      exact Left_calls w' R A1 _ c1 hbk)
    have hne : (Value.slice A k c).ownBlock ≠ some R := by
      obtain ⟨A1, c1, hbk⟩ := hr.blk
      exact own_ne ho.1 hbk (by decide)
    have HNE := Lib.hid hne
    have hlen2 : (encL (xs.drop k)).length = (xs.length - k) * 88 := by rw [encL_length, List.length_drop]
    have HLL := Lib.hid hlen2
    clear hr ho hb hl hne hlen2
    by_cases hlt : k < xs.length
    · obtain ⟨m, hm⟩ : ∃ m, (xs.length - k) * 88 = m := ⟨_, rfl⟩
      have hm0 : (0 : Int) < (m : Int) := by omega
      have HMM := Lib.hid hm
      clear hm
      obtain ⟨f1, f2, f3, f4⟩ := HF.out k hlt
      have HON := Lib.hid fun (w' : World) (hB' : B ≤ w'.heap.size) (h : RdrL w' R B (encL (xs.drop k))) => one_calls w' R B hB' (nth xs k) (encL (xs.drop (k + 1))) f1 f2 f3 f4 (by rw [encL_length, List.length_drop]; omega) (encL_bytes _) (by rw [encR_all]; rw [drop_nth xs k hlt] at h; exact h)
      clear f1 f2 f3 f4
      go_wp2_with (first | (go_at_call 36; (with_reducible refine (HLF.out _ m (by rw [HLL.out, HMM.out]) HR.out).mono ?_); rintro e w2 ⟨rfl, rfl⟩) | (go_at_call 37; (with_reducible refine (HON.out _ hBr HR.out).mono ?_); rintro e w3 ⟨rfl, hr3, hg3⟩; have HR3 := Lib.hid hr3; have HG3 := Lib.hid hg3; have HO3 := Lib.hid (HO.out.grown hg3 (.inr HNE.out)); have hs3 : wr.heap.size ≤ w3.heap.size := hg3.size; have HB3 := Lib.hid (HB.out.grown hg3 hws (fun j hj => by injection hj with hj; omega)); clear hr3 hg3) | (at_builtin; refine wpList_app _ rfl (.tmp 23) (.tmp 25) 29 rfl B 41 _ 15 120 Try.underlying29 infoAdv rfl (by omega) (.slice A k c) ((xs.take k).map advert) rfl ((HO3.out.alloc _).alloc _) (w3.heap.size + 1) 1 (advert (nth xs k)) rfl rfl (new_row' _ _ _ (by simp)) (advert_ones _) (by simp; omega) (by omega) (by simp; omega) ?_; intro v4 w4 ho4 hg4 hb4; obtain ⟨A4, c4, rfl⟩ := ho4.form; have HO4 := Lib.hid ho4; have HG4 := Lib.hid hg4; have HB4 := Lib.hid (((HB3.out.alloc (by omega) (.cells (advert (nth xs k)) 41)).alloc (by simp; omega) (.cells (advert (nth xs k)) 41)).trans (hb4 _ hBw)); have HR4 := Lib.hid ((((HR3.out.later (show Below w3.heap.size w3 ((w3.alloc (.cells (advert (nth xs k)) 41)).alloc (.cells (advert (nth xs k)) 41)) from (by repeat (first | (with_reducible exact Below.refl _ _) | (with_reducible assumption) | ((with_reducible refine Below.setCell ?_ ?_ _); rotate_left; (first | omega | (simp <;> omega))) | ((with_reducible refine Below.alloc ?_ ?_ _); rotate_left; (first | omega | (simp <;> omega))) | ((with_reducible refine Below.drew ?_)) | ((with_reducible refine below_drewN ?_ _)) | ((with_reducible refine Below.trans ?_ (Below.mono (by with_reducible assumption) ?_)); rotate_left; (first | omega | (simp <;> omega)))))))).grown hg4 (fun j hj => (((HO3.out.alloc (.cells (advert (nth xs k)) 41)).alloc (.cells (advert (nth xs k)) 41)).1.lt j hj).1))); have hs4 := hg4.size; clear ho4 hg4 hb4))
      have hl4 : ((xs.take k).map advert ++ [advert (nth xs k)]).length = k + 1 := by simp; omega
      have ho5 := HO4.out
      rw [hl4] at ho5
      have hll : (xs.take k).map advert ++ [advert (nth xs k)] = (xs.take (k + 1)).map advert := by
        rw [List.take_succ_eq_append_getElem hlt, List.map_append]
        unfold nth
        rw [List.getD_eq_getElem?_getD, List.getElem?_eq_getElem hlt]
        rfl
      rw [hll] at ho5
      have HO5 := Lib.hid ho5
      have hBB : B ≤ w4.heap.size := by simp at hs4; omega
      clear ho5 hll hl4
      go_roundw
      case rel => exact ⟨k + 1, by omega, HR4.out, HO5.out, HB4.out, hBB⟩
      case measure => simp [lenOf]; omega
    · obtain rfl : k = xs.length := by omega
      go_wp2_with (go_at_call 36; (with_reducible refine (HLF.out _ 0 (by rw [HLL.out]; omega) HR.out).mono ?_); rintro e w2 ⟨rfl, rfl⟩)
      go_ret2
      refine ⟨A, c, rfl, ?_, fun ad e => ?_, HB.out⟩
      rotate_left
      · rcases HO.out.1.2 with ⟨h3, _⟩ | ⟨g, cap, cur, h3, hbg, _⟩
        · injection h3 with h3
          rw [h3] at e
          cases e
        · injection h3 with h3
          rw [h3] at e
          injection e with e
          rw [← e]
          show w.heap.size ≤ g
          omega
      have h1 := HO.out.strip
      rw [List.length_map, List.take_length] at h1
      have h2 := h1.2
      exact h2.congr fun i hi => by
        unfold nth
        rw [List.getD_eq_getElem?_getD, List.getD_eq_getElem?_getD, List.getElem?_map, List.getElem?_eq_getElem hi]
        rfl
end Go.Proofs.Yteaipeejhippiaa
