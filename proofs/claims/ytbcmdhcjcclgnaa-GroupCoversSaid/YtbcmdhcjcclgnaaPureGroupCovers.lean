/- Which want asks no more than another one is told as the document says: the law over the printed functions, without Go. No condition but that each number is of its kind. -/
import Derived.Test.YtbcmdhcjcclgnaaPGroupCoversx2
import Derived.Test.YtbcmdhcjcclgnaaBits
namespace Go.Proofs.Ytbcmdhcjcclgnaa.PureGroupCovers
open Go.RowKit Go.Proofs.Ytbcmdhcjcclgnaa.PGroupCovers Go.Proofs.Ytbcmdhcjcclgnaa.PBits

theorem alive_true : viaductlaw12_alive.f = some true := by
  decide +kernel

/-- A number of 32 bits. -/
def U (n : Int) : Prop := 0 ≤ n ∧ n < 4294967296

/-- What the program's Covers answers. -/
theorem covers_tells (a0 a1 a2 a3 a4 a5 b0 b1 b2 b3 b4 b5 : Int) (h3 : U a3) (h4 : U a4) (h5 : U a5) (k3 : U b3) (k4 : U b4) (k5 : U b5) :
    ∃ r, group_Covers.f a0 a1 a2 a3 a4 a5 b0 b1 b2 b3 b4 b5 = some r ∧ (r = true ↔ (a3 = 0 ∨ b3 ≠ 0 ∧ Sub b3 a3) ∧ a0 ≤ b0 ∧ Sub a4 b4 ∧ Sub a5 b5) := by
  have c3 := andNot_zero k3.1 k3.2 h3.1 h3.2
  have c4 := andNot_zero h4.1 h4.2 k4.1 k4.2
  have c5 := andNot_zero h5.1 h5.2 k5.1 k5.2
  have rest : ∃ r, (if a0 ≤ b0 then (if (Go.bits .andNot .u32 a4 b4) = 0 then (some ((Go.bits .andNot .u32 a5 b5) == 0)) else (some false)) else (some false)) = some r ∧ (r = true ↔ a0 ≤ b0 ∧ Sub a4 b4 ∧ Sub a5 b5) := by
    by_cases x : a0 ≤ b0
    · rw [if_pos x]
      by_cases y : Go.bits .andNot .u32 a4 b4 = 0
      · rw [if_pos y]
        refine ⟨_, rfl, ?_⟩
        rw [beq_iff_eq, c5]
        exact ⟨fun h => ⟨x, c4.1 y, h⟩, fun h => h.2.2⟩
      · rw [if_neg y]
        exact ⟨false, rfl, fun h => absurd h (by decide), fun h => absurd (c4.2 h.2.1) y⟩
    · rw [if_neg x]
      exact ⟨false, rfl, fun h => absurd h (by decide), fun h => absurd h.1 x⟩
  obtain ⟨r, hr, hs⟩ := rest
  unfold group_Covers.f
  rw [hr]
  by_cases z : a3 = 0
  · rw [if_pos z]
    exact ⟨r, rfl, fun h => ⟨.inl z, hs.1 h⟩, fun h => hs.2 h.2⟩
  · rw [if_neg z]
    by_cases w : b3 = 0
    · rw [if_pos w]
      exact ⟨false, rfl, fun h => absurd h (by decide), fun h => by
        rcases h.1 with h | h
        · exact absurd h z
        · exact absurd w h.1⟩
    · rw [if_neg w]
      by_cases v : Go.bits .andNot .u32 b3 a3 = 0
      · rw [if_pos v]
        exact ⟨r, rfl, fun h => ⟨.inr ⟨w, c3.1 v⟩, hs.1 h⟩, fun h => hs.2 h.2⟩
      · rw [if_neg v]
        exact ⟨false, rfl, fun h => absurd h (by decide), fun h => by
          rcases h.1 with h | h
          · exact absurd h z
          · exact absurd (c3.2 h.2) v⟩

/-- The document's loop, at any number of rounds above 32. -/
theorem within_any (k : Nat) (hk : 32 < k) (a b : Int) (ha : U a) (hb : U b) : ∃ r, viaductref12_within.f k a b = some r ∧ (r = true ↔ Sub a b) := by
  obtain ⟨a, rfl⟩ := Int.eq_ofNat_of_zero_le ha.1
  obtain ⟨b, rfl⟩ := Int.eq_ofNat_of_zero_le hb.1
  unfold U at ha hb
  exact within_tells viaductref12_within.l0 (fun _ _ _ _ => rfl) 32 k a b 0 (by omega) (by omega) (by omega) (by omega) (by omega)

theorem pure (a0_0 a0_1 a0_2 a0_3 a0_4 a0_5 a1_0 a1_1 a1_2 a1_3 a1_4 a1_5 : Int) (h0_3 : 0 ≤ a0_3 ∧ a0_3 < 4294967296) (h0_4 : 0 ≤ a0_4 ∧ a0_4 < 4294967296) (h0_5 : 0 ≤ a0_5 ∧ a0_5 < 4294967296) (h1_3 : 0 ≤ a1_3 ∧ a1_3 < 4294967296) (h1_4 : 0 ≤ a1_4 ∧ a1_4 < 4294967296) (h1_5 : 0 ≤ a1_5 ∧ a1_5 < 4294967296) :
    viaductlaw12_GroupCovers.f 40 a0_0 a0_1 a0_2 a0_3 a0_4 a0_5 a1_0 a1_1 a1_2 a1_3 a1_4 a1_5 = some true := by
  obtain ⟨r, e1, c1⟩ := covers_tells a0_0 a0_1 a0_2 a0_3 a0_4 a0_5 a1_0 a1_1 a1_2 a1_3 a1_4 a1_5 h0_3 h0_4 h0_5 h1_3 h1_4 h1_5
  obtain ⟨r3, e3, c3⟩ := within_any 40 (by omega) a1_3 a0_3 h1_3 h0_3
  obtain ⟨r4, e4, c4⟩ := within_any 39 (by omega) a0_4 a1_4 h0_4 h1_4
  obtain ⟨r5, e5, c5⟩ := within_any 39 (by omega) a0_5 a1_5 h0_5 h1_5
  have ref : viaductref12_Covers.f 40 a0_0 a0_1 a0_2 a0_3 a0_4 a0_5 a1_0 a1_1 a1_2 a1_3 a1_4 a1_5 = some r := by
    have j : ∀ b : Bool, viaductref12_Covers.j0 40 b a0_0 a0_1 a0_2 a0_3 a0_4 a0_5 a1_0 a1_1 a1_2 a1_3 a1_4 a1_5 = some (!b && decide (a0_0 ≤ a1_0) && r4 && r5) := by
      intro b
      show (if b = true then some false else if a0_0 ≤ a1_0 then (viaductref12_within.f 39 a0_4 a1_4).bind fun t113 => if t113 = true then (viaductref12_within.f 39 a0_5 a1_5).bind fun t114 => some t114 else some false else some false) = _
      rw [e4, e5]
      cases b <;> cases r4 <;> cases r5 <;> by_cases x : a0_0 ≤ a1_0 <;> simp [x]
    unfold viaductref12_Covers.f
    rw [e3, j, j]
    simp only [Option.bind_some, j]
    have fin : ∀ x : Bool, (x = true ↔ ((a0_3 = 0 ∨ a1_3 ≠ 0 ∧ Sub a1_3 a0_3) ∧ a0_0 ≤ a1_0 ∧ Sub a0_4 a1_4 ∧ Sub a0_5 a1_5)) → some x = some r := by
      intro x hx
      congr 1
      rw [Bool.eq_iff_iff, hx, c1]
    rw [← c3, ← c4, ← c5] at fin
    by_cases z : a0_3 = 0
    · rw [if_pos z]
      exact fin _ (by simp [z, and_assoc])
    · rw [if_neg z]
      by_cases w : a1_3 = 0
      · rw [if_pos w]
        exact fin _ (by simp [z, w])
      · rw [if_neg w]
        exact fin _ (by simp [z, w, and_assoc])
  unfold viaductlaw12_GroupCovers.f
  rw [alive_true, e1, ref]
  simp
end Go.Proofs.Ytbcmdhcjcclgnaa.PureGroupCovers
