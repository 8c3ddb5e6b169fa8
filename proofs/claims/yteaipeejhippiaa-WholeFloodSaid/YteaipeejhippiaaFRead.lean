/- Numbers read back from the bytes of an advert. -/
import Derived.Test.YteaipeejhippiaaFEnc
namespace Go.Proofs.Yteaipeejhippiaa
open Go.RowKit
attribute [local go_sem] cell_set_self
set_option linter.unusedVariables false

def Bytes (bs : List Int) : Prop := ∀ b ∈ bs, 0 ≤ b ∧ b < 256
theorem nth_byte {bs : List Int} (h : Bytes bs) (i : Nat) : 0 ≤ nthI bs i ∧ nthI bs i < 256 := by
  unfold nthI
  rw [List.getD_eq_getElem?_getD]
  by_cases hi : i < bs.length
  · rw [List.getElem?_eq_getElem hi]
    exact h _ (List.getElem_mem hi)
  · rw [List.getElem?_eq_none (by omega)]
    simp
theorem digs_bytes (u : Int) (n : Nat) : Bytes (digs u n) := fun b hb => by
  obtain ⟨i, _, rfl⟩ := List.mem_map.1 hb
  exact dig_lo u n i
theorem Bytes.app {a b : List Int} (h : Bytes a) (k : Bytes b) : Bytes (a ++ b) := fun x hx => (List.mem_append.1 hx).elim (h x) (k x)
/-- The bytes of the last r numbers of an advert. -/
def encR (x : Adv) : Nat → List Int
  | 0 => []
  | r + 1 => digs (val x (15 - r)) (sz (15 - r)) ++ encR x r
theorem encR_all (x : Adv) : encR x 16 = encN x 16 := by simp [encR, encN, List.range_succ]
theorem encR_bytes (x : Adv) : ∀ r, Bytes (encR x r)
  | 0 => fun b hb => by cases hb
  | r + 1 => (digs_bytes _ _).app (encR_bytes x r)
theorem encR_length (x : Adv) : ∀ r, (encR x r).length ≤ 8 * r
  | 0 => by simp [encR]
  | r + 1 => by
    rw [encR, List.length_append, digs_length]
    have := (sz_bounds (15 - r)).2
    have := encR_length x r
    omega
theorem encL_bytes (xs : List Adv) : Bytes (encL xs) := fun b hb => by
  obtain ⟨x, _, hx⟩ := List.mem_flatMap.1 hb
  rw [← encR_all] at hx
  exact encR_bytes x 16 b hx
/-- A reader at R, ahead of which these bytes stand, in memory below B. -/
def RdrL (w : World) (R B : Nat) (bs : List Int) : Prop := ∃ A c, Rdr w R A bs.length c (nthI bs) ∧ c ≤ maxLen ∧ R < B ∧ ∀ ad, A = some ad → ad.block < B
section
variable {w w' : World} {R B : Nat} {bs : List Int}
theorem RdrL.grown {row : Option Nat} (h : RdrL w R B bs) (hg : w.grownBy w' row) (hr : ∀ g, row = some g → B ≤ g) : RdrL w' R B bs := by
  obtain ⟨A, c, h1, h2, h3, h4⟩ := h
  exact ⟨A, c, h1.grown hg (fun e => by have := hr _ e.symm; omega) (fun ad e e2 => by have := hr _ e2.symm; have := h4 ad e; omega), h2, h3, h4⟩
theorem RdrL.later (h : RdrL w R B bs) (hb : Below w.heap.size w w') : RdrL w' R B bs := by
  obtain ⟨A, c, h1, h2⟩ := h
  exact ⟨A, c, h1.later hb, h2⟩
theorem RdrL.far (h : RdrL w R B bs) {g i : Nat} (hg : B ≤ g) (u : Value) : RdrL (w.setCell ⟨g, i, none⟩ u) R B bs := h.grown (grown_setCell (g := g) (p := ⟨g, i, none⟩) (World.grownBy.refl w (some g)) rfl u) fun k e => by injection e with e; omega
theorem RdrL.mono {B' : Nat} (h : RdrL w R B bs) (hb : B ≤ B') : RdrL w R B' bs := by
  obtain ⟨A, c, h1, h2, h3, h4⟩ := h
  exact ⟨A, c, h1, h2, by omega, fun ad e => Nat.lt_of_lt_of_le (h4 ad e) hb⟩
theorem RdrL.blk (h : RdrL w R B bs) : ∃ A c, Blk w R 135 #[.bool true, .slice A bs.length c, .int .i64 0] := by
  obtain ⟨A, c, h1, _⟩ := h
  exact ⟨A, c, h1.blk⟩
end
theorem UintL (w : World) (R B n : Nat) (u : Int) (rest : List Int) (h : RdrL w R B (digs u n ++ rest)) (hn1 : 1 ≤ n) (hn8 : n ≤ 8) (hu : 0 ≤ u) (hu2 : u < 2 ^ (8 * n)) (hl : rest.length ≤ 9000) (hb : Bytes rest) : Calls Try.prog 49 #[.pointer (some ⟨R, 0, none⟩), .int .i64 (n : Int)] w fun e w' => e = .returned (.int .u64 u) ∧ RdrL w' R B rest ∧ w.grownBy w' (some R) := by
  obtain ⟨A, c, h1, h2, h3, h4⟩ := h
  have hlen : (digs u n ++ rest).length = n + rest.length := by rw [List.length_append, digs_length]
  refine (Uint_calls w R A (digs u n ++ rest).length c (nthI (digs u n ++ rest)) n h1 hn1 hn8 (by omega) (by omega) h2 (fun i _ => nth_byte ((digs_bytes u n).app hb) i)).mono fun e w' hp => ?_
  obtain ⟨rfl, ⟨A', hr, hA⟩, hg⟩ := hp
  refine ⟨?_, ⟨A', c - n, ?_, by omega, h3, fun ad e => ?_⟩, hg⟩
  · rw [num_congr (g := dig u n), num_all hu hu2]
    intro i hi
    unfold nthI digs
    rw [List.getD_eq_getElem?_getD, List.getElem?_append_left (by simpa using hi), List.getElem?_map, List.getElem?_range hi]
    rfl
  · have e1 : (digs u n ++ rest).length - n = rest.length := by omega
    have e2 : behind (nthI (digs u n ++ rest)) n = nthI rest := by
      funext i
      unfold behind nthI
      rw [List.getD_eq_getElem?_getD, List.getD_eq_getElem?_getD, List.getElem?_append_right (by rw [digs_length]; omega), digs_length]
      congr 2
      omega
    rw [e1, e2] at hr
    exact hr
  · obtain ⟨a, e2, e3⟩ := hA ad e
    rw [e3]
    exact h4 a e2
/-- The next number of an advert. -/
theorem UintR (w : World) (R B r k : Nat) (x : Adv) (v : Int) (n : Nat) (rest : List Int) (hx : x.Fine) (hw : x.Wf) (hr : r < 16) (hk : k = 15 - r) (hv : val x k = v) (hn : sz k = n) (hl : rest.length ≤ 8000) (hb : Bytes rest) (h : RdrL w R B (encR x (r + 1) ++ rest)) : Calls Try.prog 49 #[.pointer (some ⟨R, 0, none⟩), .int .i64 (n : Int)] w fun e w' => e = .returned (.int .u64 v) ∧ RdrL w' R B (encR x r ++ rest) ∧ w.grownBy w' (some R) := by
  subst hk hv hn
  rw [encR, List.append_assoc] at h
  have hf := val_fits hx hw (15 - r) (by omega)
  exact UintL w R B (sz (15 - r)) (val x (15 - r)) (encR x r ++ rest) h (sz_bounds _).1 (sz_bounds _).2 hf.1 hf.2 (by rw [List.length_append]; have := encR_length x r; omega) ((encR_bytes x r).app hb)
theorem New_bytes (w : World) (v : Value) (bs : List Int) (h : BV w v bs) (hn : bs.length ≤ 6000) : Calls Try.prog 35 #[v] w fun e w' => ∃ R, e = .returned (.pointer (some ⟨R, 0, none⟩)) ∧ RdrL w' R w'.heap.size bs ∧ w.heap.size ≤ R ∧ Below w.heap.size w w' := by
  obtain ⟨A, c, rfl, hs, h0⟩ := h
  rcases A with _ | ad
  · obtain ⟨h1, rfl⟩ := h0 rfl
    rw [h1]
    have hbs : bs = [] := List.eq_nil_of_length_eq_zero h1
    subst hbs
    clear h1 h0 hs hn
    go_enter Try.func35, Try.ntmps35
    go_wp2
    go_ret
    exact ⟨w.heap.size, rfl, ⟨none, 0, ⟨Blk.new w 135 _, fun h => absurd h (by simp), by simp, fun ad e => by cases e⟩, by simp [maxLen], by simp, fun ad e => by cases e⟩, Nat.le_refl _, (by repeat (first | (with_reducible exact Below.refl _ _) | (with_reducible assumption) | ((with_reducible refine Below.setCell ?_ ?_ _); rotate_left; (first | omega | (simp <;> omega))) | ((with_reducible refine Below.alloc ?_ ?_ _); rotate_left; (first | omega | (simp <;> omega))) | ((with_reducible refine Below.drew ?_)) | ((with_reducible refine below_drewN ?_ _)) | ((with_reducible refine Below.trans ?_ (Below.mono (by with_reducible assumption) ?_)); rotate_left; (first | omega | (simp <;> omega)))))⟩
  · have HS := Lib.hid hs
    clear hs h0
    generalize hL : bs.length = L at *
    have HL := Lib.hid hL
    clear hL
    go_enter Try.func35, Try.ntmps35
    go_wp2_with (at_builtin; refine wpList_copyS _ rfl (.const (.slice none 0 0)) (.tmp 3) 67 rfl w.heap.size 5 _ 1 1 Try.underlying67 infoByte rfl (by omega) (.slice none 0 0) rfl (OutRow.nil _ _ _ _) ad L c (byteRow (nthI bs)) rfl HS.out (fun _ => rfl) (fun i u hu => by simp [byteRow] at hu; subst hu; rfl) (by omega) (by omega) (Nat.le_refl _) ?_; intro v1 w1 ho hb; obtain ⟨A1, c1, rfl⟩ := ho.form; have hl2 : ((List.range L).map (byteRow (nthI bs))).length = L := (by simp); rw [hl2] at ho; rw [hl2]; have HO := Lib.hid ho; have HB := Lib.hid hb; clear ho hb hl2)
    go_ret
    have hlt := HO.out.1.lt
    have hcap : L ≤ c1 ∧ c1 ≤ maxLen ∧ ∀ ad, A1 = some ad → ad.block < w1.heap.size := by
      rcases HO.out.1.2 with ⟨h1, h2⟩ | ⟨g, cap, cur, h1, h2, h3, h4, h5, _⟩
      · injection h1 with h1 h2 h3
        subst h1 h2 h3
        exact ⟨Nat.le_refl _, by simp [maxLen], fun ad e => by cases e⟩
      · injection h1 with h1 h2' h3'
        subst h1 h3'
        have hlen : ((List.range L).map (byteRow (nthI bs))).length = L := by simp
        rw [hlen] at h4
        exact ⟨h4, h5, fun ad e => by injection e with e; rw [← e]; exact (hlt g rfl).2⟩
    have e1 := HB.out.size
    refine ⟨w1.heap.size, rfl, ⟨A1, c1, ⟨?_, ?_, by rw [HL.out]; exact hcap.1, fun ad e => by have := hcap.2.2 ad e; omega⟩, hcap.2.1, by simp, fun ad e => by have := hcap.2.2 ad e; simp; omega⟩, e1, HB.out.alloc e1 _⟩
    · rw [HL.out]
      exact Blk.new w1 135 _
    · rw [HL.out]
      exact HO.out.strip_map.2.below ((Below.refl w1.heap.size w1).alloc (Nat.le_refl _) _)
end Go.Proofs.Yteaipeejhippiaa
