/- Where what asks more may go, what asks less may: the law over the printed functions, without Go. No condition but that each number is of its kind. -/
import Derived.Test.YtbcmdhcjcclgnaaPGroupLessx1
import Derived.Test.YtbcmdhcjcclgnaaBits
namespace Go.Proofs.Ytbcmdhcjcclgnaa.PureGroupLess
open Go.RowKit Go.Proofs.Ytbcmdhcjcclgnaa.PGroupLess Go.Proofs.Ytbcmdhcjcclgnaa.PBits

theorem alive_true : viaductlaw12_alive.f = some true := by
  decide +kernel

/-- A number of 32 bits. -/
def U (n : Int) : Prop := 0 ≤ n ∧ n < 4294967296

/-- What the program's Allows answers. -/
theorem allows_tells (a0 a1 a2 a3 a4 a5 g : Int) (h3 : U a3) (h4 : U a4) (h5 : U a5) (hg : U g) :
    ∃ r, group_Allows.f a0 a1 a2 a3 a4 a5 g = some r ∧ (r = true ↔ (a3 = 0 ∨ Com a3 g) ∧ Sub a4 g ∧ ¬ Com a5 g) := by
  have b3 := and_zero h3.1 h3.2 hg.1 hg.2
  have b4 := andNot_zero h4.1 h4.2 hg.1 hg.2
  have b5 := and_zero h5.1 h5.2 hg.1 hg.2
  unfold group_Allows.f
  by_cases z : a3 = 0
  · rw [if_pos z]
    by_cases y : Go.bits .andNot .u32 a4 g = 0
    · rw [if_pos y]
      refine ⟨_, rfl, ?_⟩
      rw [beq_iff_eq, b5]
      exact ⟨fun h => ⟨.inl z, b4.1 y, h⟩, fun h => h.2.2⟩
    · rw [if_neg y]
      exact ⟨false, rfl, fun h => absurd h (by decide), fun h => absurd (b4.2 h.2.1) y⟩
  · rw [if_neg z]
    by_cases x : Go.bits .and .u32 a3 g = 0
    · rw [if_pos x]
      exact ⟨false, rfl, fun h => absurd h (by decide), fun h => by
        rcases h.1 with h | h
        · exact absurd h z
        · exact absurd h (b3.1 x)⟩
    · rw [if_neg x]
      have c : Com a3 g := Classical.byContradiction fun h => x (b3.2 h)
      by_cases y : Go.bits .andNot .u32 a4 g = 0
      · rw [if_pos y]
        refine ⟨_, rfl, ?_⟩
        rw [beq_iff_eq, b5]
        exact ⟨fun h => ⟨.inr c, b4.1 y, h⟩, fun h => h.2.2⟩
      · rw [if_neg y]
        exact ⟨false, rfl, fun h => absurd h (by decide), fun h => absurd (b4.2 h.2.1) y⟩

/-- What the program's Covers answers. -/
theorem covers_tells (a0 a1 a2 a3 a4 a5 b0 b1 b2 b3 b4 b5 : Int) (h3 : U a3) (h4 : U a4) (h5 : U a5) (k3 : U b3) (k4 : U b4) (k5 : U b5) :
    ∃ r, group_Covers.f a0 a1 a2 a3 a4 a5 b0 b1 b2 b3 b4 b5 = some r ∧ (r = true ↔ (a3 = 0 ∨ b3 ≠ 0 ∧ Sub b3 a3) ∧ a0 ≤ b0 ∧ Sub a4 b4 ∧ Sub a5 b5) := by
  have c3 := andNot_zero k3.1 k3.2 h3.1 h3.2
  have c4 := andNot_zero h4.1 h4.2 k4.1 k4.2
  have c5 := andNot_zero h5.1 h5.2 k5.1 k5.2
  have rest : ∃ r, (if a0 ≤ b0 then (if (Go.bits .andNot .u32 a4 b4) = 0 then (some ((Go.bits .andNot .u32 a5 b5) == 0)) else (some false)) else (some false)) = some r ∧ (r = true ↔ a0 ≤ b0 ∧ Sub a4 b4 ∧ Sub a5 b5) := by
    by_cases x : a0 ≤ b0
    · rw [if_pos x]
      by_cases y : Go.bits .andNot .u32 a4 b4 = 0
      · rw [if_pos y]
        refine ⟨_, rfl, ?_⟩
        rw [beq_iff_eq, c5]
        exact ⟨fun h => ⟨x, c4.1 y, h⟩, fun h => h.2.2⟩
      · rw [if_neg y]
        exact ⟨false, rfl, fun h => absurd h (by decide), fun h => absurd (c4.2 h.2.1) y⟩
    · rw [if_neg x]
      exact ⟨false, rfl, fun h => absurd h (by decide), fun h => absurd h.1 x⟩
  obtain ⟨r, hr, hs⟩ := rest
  unfold group_Covers.f
  rw [hr]
  by_cases z : a3 = 0
  · rw [if_pos z]
    exact ⟨r, rfl, fun h => ⟨.inl z, hs.1 h⟩, fun h => hs.2 h.2⟩
  · rw [if_neg z]
    by_cases w : b3 = 0
    · rw [if_pos w]
      exact ⟨false, rfl, fun h => absurd h (by decide), fun h => by
        rcases h.1 with h | h
        · exact absurd h z
        · exact absurd w h.1⟩
    · rw [if_neg w]
      by_cases v : Go.bits .andNot .u32 b3 a3 = 0
      · rw [if_pos v]
        exact ⟨r, rfl, fun h => ⟨.inr ⟨w, c3.1 v⟩, hs.1 h⟩, fun h => hs.2 h.2⟩
      · rw [if_neg v]
        exact ⟨false, rfl, fun h => absurd h (by decide), fun h => by
          rcases h.1 with h | h
          · exact absurd h z
          · exact absurd (c3.2 h.2) v⟩

/-- A number above 0 has a bit. -/
theorem com_of_sub {a b g : Int} (h : Com b g) (k : Sub b a) : Com a g := h.left k

theorem pure (a0_0 a0_1 a0_2 a0_3 a0_4 a0_5 a1_0 a1_1 a1_2 a1_3 a1_4 a1_5 g : Int) (h0_3 : 0 ≤ a0_3 ∧ a0_3 < 4294967296) (h0_4 : 0 ≤ a0_4 ∧ a0_4 < 4294967296) (h0_5 : 0 ≤ a0_5 ∧ a0_5 < 4294967296) (h1_3 : 0 ≤ a1_3 ∧ a1_3 < 4294967296) (h1_4 : 0 ≤ a1_4 ∧ a1_4 < 4294967296) (h1_5 : 0 ≤ a1_5 ∧ a1_5 < 4294967296) (hg : 0 ≤ g ∧ g < 4294967296) :
    viaductlaw12_GroupLess.f a0_0 a0_1 a0_2 a0_3 a0_4 a0_5 a1_0 a1_1 a1_2 a1_3 a1_4 a1_5 g = some true := by
  obtain ⟨r, e1, c1⟩ := covers_tells a0_0 a0_1 a0_2 a0_3 a0_4 a0_5 a1_0 a1_1 a1_2 a1_3 a1_4 a1_5 h0_3 h0_4 h0_5 h1_3 h1_4 h1_5
  obtain ⟨s, e2, c2⟩ := allows_tells a1_0 a1_1 a1_2 a1_3 a1_4 a1_5 g h1_3 h1_4 h1_5 hg
  obtain ⟨t, e3, c3⟩ := allows_tells a0_0 a0_1 a0_2 a0_3 a0_4 a0_5 g h0_3 h0_4 h0_5 hg
  unfold viaductlaw12_GroupLess.f
  rw [alive_true, e1, e2, e3]
  cases r with
  | false => rfl
  | true =>
    cases s with
    | false => rfl
    | true =>
      obtain ⟨x, _, y, z⟩ := c1.1 rfl
      obtain ⟨u, v, w⟩ := c2.1 rfl
      have ht : t = true := c3.2 ⟨by
        rcases x with x | ⟨x, x'⟩
        · exact .inl x
        · rcases u with u | u
          · exact absurd u x
          · exact .inr (u.left x'), y.trans v, fun h => w (h.left z)⟩
      subst ht
      rfl
end Go.Proofs.Ytbcmdhcjcclgnaa.PureGroupLess
