/- A want asks no more than itself; and what asks no more than what asks no more than a third one asks no more than that: the law over the printed functions, without Go. No condition but that each number is of its kind. -/
import Derived.Test.YtbcmdhcjcclgnaaPGroupOrderx1
import Derived.Test.YtbcmdhcjcclgnaaBits
namespace Go.Proofs.Ytbcmdhcjcclgnaa.PureGroupOrder
open Go.RowKit Go.Proofs.Ytbcmdhcjcclgnaa.PGroupOrder Go.Proofs.Ytbcmdhcjcclgnaa.PBits

theorem alive_true : viaductlaw12_alive.f = some true := by
  decide +kernel

/-- A number of 32 bits. -/
def U (n : Int) : Prop := 0 ≤ n ∧ n < 4294967296

/-- What the program's Covers answers. -/
theorem covers_tells (a0 a1 a2 a3 a4 a5 b0 b1 b2 b3 b4 b5 : Int) (h3 : U a3) (h4 : U a4) (h5 : U a5) (k3 : U b3) (k4 : U b4) (k5 : U b5) :
    ∃ r, group_Covers.f a0 a1 a2 a3 a4 a5 b0 b1 b2 b3 b4 b5 = some r ∧ (r = true ↔ (a3 = 0 ∨ b3 ≠ 0 ∧ Sub b3 a3) ∧ a0 ≤ b0 ∧ Sub a4 b4 ∧ Sub a5 b5) := by
  have c3 := andNot_zero k3.1 k3.2 h3.1 h3.2
  have c4 := andNot_zero h4.1 h4.2 k4.1 k4.2
  have c5 := andNot_zero h5.1 h5.2 k5.1 k5.2
  have rest : ∃ r, (if a0 ≤ b0 then (if (Go.bits .andNot .u32 a4 b4) = 0 then (some ((Go.bits .andNot .u32 a5 b5) == 0)) else (some false)) else (some false)) = some r ∧ (r = true ↔ a0 ≤ b0 ∧ Sub a4 b4 ∧ Sub a5 b5) := by
    by_cases x : a0 ≤ b0
    · rw [if_pos x]
      by_cases y : Go.bits .andNot .u32 a4 b4 = 0
      · rw [if_pos y]
        refine ⟨_, rfl, ?_⟩
        rw [beq_iff_eq, c5]
        exact ⟨fun h => ⟨x, c4.1 y, h⟩, fun h => h.2.2⟩
      · rw [if_neg y]
        exact ⟨false, rfl, fun h => absurd h (by decide), fun h => absurd (c4.2 h.2.1) y⟩
    · rw [if_neg x]
      exact ⟨false, rfl, fun h => absurd h (by decide), fun h => absurd h.1 x⟩
  obtain ⟨r, hr, hs⟩ := rest
  unfold group_Covers.f
  rw [hr]
  by_cases z : a3 = 0
  · rw [if_pos z]
    exact ⟨r, rfl, fun h => ⟨.inl z, hs.1 h⟩, fun h => hs.2 h.2⟩
  · rw [if_neg z]
    by_cases w : b3 = 0
    · rw [if_pos w]
      exact ⟨false, rfl, fun h => absurd h (by decide), fun h => by
        rcases h.1 with h | h
        · exact absurd h z
        · exact absurd w h.1⟩
    · rw [if_neg w]
      by_cases v : Go.bits .andNot .u32 b3 a3 = 0
      · rw [if_pos v]
        exact ⟨r, rfl, fun h => ⟨.inr ⟨w, c3.1 v⟩, hs.1 h⟩, fun h => hs.2 h.2⟩
      · rw [if_neg v]
        exact ⟨false, rfl, fun h => absurd h (by decide), fun h => by
          rcases h.1 with h | h
          · exact absurd h z
          · exact absurd (c3.2 h.2) v⟩

theorem pure (a0_0 a0_1 a0_2 a0_3 a0_4 a0_5 a1_0 a1_1 a1_2 a1_3 a1_4 a1_5 a2_0 a2_1 a2_2 a2_3 a2_4 a2_5 : Int) (h0_3 : 0 ≤ a0_3 ∧ a0_3 < 4294967296) (h0_4 : 0 ≤ a0_4 ∧ a0_4 < 4294967296) (h0_5 : 0 ≤ a0_5 ∧ a0_5 < 4294967296) (h1_3 : 0 ≤ a1_3 ∧ a1_3 < 4294967296) (h1_4 : 0 ≤ a1_4 ∧ a1_4 < 4294967296) (h1_5 : 0 ≤ a1_5 ∧ a1_5 < 4294967296) (h2_3 : 0 ≤ a2_3 ∧ a2_3 < 4294967296) (h2_4 : 0 ≤ a2_4 ∧ a2_4 < 4294967296) (h2_5 : 0 ≤ a2_5 ∧ a2_5 < 4294967296) :
    viaductlaw12_GroupOrder.f a0_0 a0_1 a0_2 a0_3 a0_4 a0_5 a1_0 a1_1 a1_2 a1_3 a1_4 a1_5 a2_0 a2_1 a2_2 a2_3 a2_4 a2_5 = some true := by
  obtain ⟨r, e1, c1⟩ := covers_tells a0_0 a0_1 a0_2 a0_3 a0_4 a0_5 a0_0 a0_1 a0_2 a0_3 a0_4 a0_5 h0_3 h0_4 h0_5 h0_3 h0_4 h0_5
  obtain ⟨s, e2, c2⟩ := covers_tells a0_0 a0_1 a0_2 a0_3 a0_4 a0_5 a1_0 a1_1 a1_2 a1_3 a1_4 a1_5 h0_3 h0_4 h0_5 h1_3 h1_4 h1_5
  obtain ⟨t, e3, c3⟩ := covers_tells a1_0 a1_1 a1_2 a1_3 a1_4 a1_5 a2_0 a2_1 a2_2 a2_3 a2_4 a2_5 h1_3 h1_4 h1_5 h2_3 h2_4 h2_5
  obtain ⟨u, e4, c4⟩ := covers_tells a0_0 a0_1 a0_2 a0_3 a0_4 a0_5 a2_0 a2_1 a2_2 a2_3 a2_4 a2_5 h0_3 h0_4 h0_5 h2_3 h2_4 h2_5
  have hr : r = true := c1.2 ⟨by
    by_cases z : a0_3 = 0
    · exact .inl z
    · exact .inr ⟨z, Sub.refl _⟩, Int.le_refl _, Sub.refl _, Sub.refl _⟩
  subst hr
  unfold viaductlaw12_GroupOrder.f
  rw [alive_true, e1, e2, e3, e4]
  cases s with
  | false => rfl
  | true =>
    cases t with
    | false => rfl
    | true =>
      obtain ⟨x1, x2, x3, x4⟩ := c2.1 rfl
      obtain ⟨y1, y2, y3, y4⟩ := c3.1 rfl
      have hu : u = true := c4.2 ⟨by
        rcases x1 with x1 | ⟨x, x'⟩
        · exact .inl x1
        · rcases y1 with y1 | ⟨y, y'⟩
          · exact absurd y1 x
          · exact .inr ⟨y, y'.trans x'⟩, Int.le_trans x2 y2, x3.trans y3, x4.trans y4⟩
      subst hu
      rfl
end Go.Proofs.Ytbcmdhcjcclgnaa.PureGroupOrder
