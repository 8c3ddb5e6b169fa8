/- A link of more groups is allowed where a want keeps none out; with nothing asked each is allowed: the law over the printed functions, without Go. No condition but that each number is of its kind. -/
import Derived.Test.YtbcmdhcjcclgnaaPGroupMorex1
import Derived.Test.YtbcmdhcjcclgnaaBits
namespace Go.Proofs.Ytbcmdhcjcclgnaa.PureGroupMore
open Go.RowKit Go.Proofs.Ytbcmdhcjcclgnaa.PGroupMore Go.Proofs.Ytbcmdhcjcclgnaa.PBits

theorem alive_true : viaductlaw12_alive.f = some true := by
  decide +kernel

/-- A number of 32 bits. -/
def U (n : Int) : Prop := 0 ≤ n ∧ n < 4294967296

/-- What the program's Allows answers. -/
theorem allows_tells (a0 a1 a2 a3 a4 a5 g : Int) (h3 : U a3) (h4 : U a4) (h5 : U a5) (hg : U g) :
    ∃ r, group_Allows.f a0 a1 a2 a3 a4 a5 g = some r ∧ (r = true ↔ (a3 = 0 ∨ Com a3 g) ∧ Sub a4 g ∧ ¬ Com a5 g) := by
  have b3 := and_zero h3.1 h3.2 hg.1 hg.2
  have b4 := andNot_zero h4.1 h4.2 hg.1 hg.2
  have b5 := and_zero h5.1 h5.2 hg.1 hg.2
  unfold group_Allows.f
  by_cases z : a3 = 0
  · rw [if_pos z]
    by_cases y : Go.bits .andNot .u32 a4 g = 0
    · rw [if_pos y]
      refine ⟨_, rfl, ?_⟩
      rw [beq_iff_eq, b5]
      exact ⟨fun h => ⟨.inl z, b4.1 y, h⟩, fun h => h.2.2⟩
    · rw [if_neg y]
      exact ⟨false, rfl, fun h => absurd h (by decide), fun h => absurd (b4.2 h.2.1) y⟩
  · rw [if_neg z]
    by_cases x : Go.bits .and .u32 a3 g = 0
    · rw [if_pos x]
      exact ⟨false, rfl, fun h => absurd h (by decide), fun h => by
        rcases h.1 with h | h
        · exact absurd h z
        · exact absurd h (b3.1 x)⟩
    · rw [if_neg x]
      have c : Com a3 g := Classical.byContradiction fun h => x (b3.2 h)
      by_cases y : Go.bits .andNot .u32 a4 g = 0
      · rw [if_pos y]
        refine ⟨_, rfl, ?_⟩
        rw [beq_iff_eq, b5]
        exact ⟨fun h => ⟨.inr c, b4.1 y, h⟩, fun h => h.2.2⟩
      · rw [if_neg y]
        exact ⟨false, rfl, fun h => absurd h (by decide), fun h => absurd (b4.2 h.2.1) y⟩

theorem pure (a0_0 a0_1 a0_2 a0_3 a0_4 a0_5 g m : Int) (h0_3 : 0 ≤ a0_3 ∧ a0_3 < 4294967296) (h0_4 : 0 ≤ a0_4 ∧ a0_4 < 4294967296) (_h0_5 : 0 ≤ a0_5 ∧ a0_5 < 4294967296) (hg : 0 ≤ g ∧ g < 4294967296) (hm : 0 ≤ m ∧ m < 4294967296) :
    viaductlaw12_GroupMore.f a0_0 a0_1 a0_2 a0_3 a0_4 a0_5 g m = some true := by
  have z0 : U 0 := ⟨by omega, by omega⟩
  obtain ⟨o1, o2, o3⟩ := or_range hg.1 hg.2 hm.1 hm.2
  obtain ⟨r, e1, c1⟩ := allows_tells a0_0 a0_1 a0_2 0 0 0 g z0 z0 z0 hg
  obtain ⟨s, e2, c2⟩ := allows_tells a0_0 a0_1 a0_2 a0_3 a0_4 0 g h0_3 h0_4 z0 hg
  obtain ⟨t, e3, c3⟩ := allows_tells a0_0 a0_1 a0_2 a0_3 a0_4 0 (Go.bits .or .u32 g m) h0_3 h0_4 z0 ⟨o1, o2⟩
  have hr : r = true := c1.2 ⟨.inl rfl, Sub.zero _, not_Com_zero _⟩
  subst hr
  unfold viaductlaw12_GroupMore.f
  rw [alive_true, e1, e2, e3]
  cases s with
  | false => rfl
  | true =>
    obtain ⟨x, y, _⟩ := c2.1 rfl
    have ht : t = true := c3.2 ⟨by
      rcases x with x | ⟨i, x, x'⟩
      · exact .inl x
      · exact .inr ⟨i, x, o3 i x'⟩, y.trans o3, not_Com_zero _⟩
    subst ht
    rfl
end Go.Proofs.Ytbcmdhcjcclgnaa.PureGroupMore
