/- Which links a want allows, and which wants may be, is told as the document says, for every want and all groups: the law over the printed functions, without Go. No condition but that each number is of its kind. -/
import Derived.Test.YtbcmdhcjcclgnaaPGroupAllowsx2
import Derived.Test.YtbcmdhcjcclgnaaBits
namespace Go.Proofs.Ytbcmdhcjcclgnaa.PureGroupAllows
open Go.RowKit Go.Proofs.Ytbcmdhcjcclgnaa.PGroupAllows Go.Proofs.Ytbcmdhcjcclgnaa.PBits

theorem alive_true : viaductlaw12_alive.f = some true := by
  decide +kernel

/-- The document's two loops, at any number of rounds above 32. -/
theorem within_any (k : Nat) (hk : 32 < k) (a b : Int) (ha : 0 ≤ a ∧ a < 4294967296) (hb : 0 ≤ b ∧ b < 4294967296) : ∃ r, viaductref12_within.f k a b = some r ∧ (r = true ↔ Sub a b) := by
  obtain ⟨a, rfl⟩ := Int.eq_ofNat_of_zero_le ha.1
  obtain ⟨b, rfl⟩ := Int.eq_ofNat_of_zero_le hb.1
  exact within_tells viaductref12_within.l0 (fun _ _ _ _ => rfl) 32 k a b 0 (by omega) (by omega) (by omega) (by omega) (by omega)
theorem common_any (k : Nat) (hk : 32 < k) (a b : Int) (ha : 0 ≤ a ∧ a < 4294967296) (hb : 0 ≤ b ∧ b < 4294967296) : ∃ r, viaductref12_Common.f k a b = some r ∧ (r = true ↔ Com a b) := by
  obtain ⟨a, rfl⟩ := Int.eq_ofNat_of_zero_le ha.1
  obtain ⟨b, rfl⟩ := Int.eq_ofNat_of_zero_le hb.1
  exact common_tells viaductref12_Common.l0 (fun _ _ _ _ => rfl) 32 k a b 0 (by omega) (by omega) (by omega) (by omega) (by omega)

theorem right_eq (a0 a1 a2 a3 a4 a5 : Int) : ∃ r, group_Right.f a0 a1 a2 a3 a4 a5 = some r ∧ viaductref12_Right.f a0 a1 a2 a3 a4 a5 = some r := by
  have h : group_Right.f a0 a1 a2 a3 a4 a5 = viaductref12_Right.f a0 a1 a2 a3 a4 a5 := by
    unfold group_Right.f viaductref12_Right.f
    by_cases x1 : a1 ≤ 7 <;> by_cases x2 : a2 ≤ a1 <;> by_cases x3 : 0 ≤ a2 <;> by_cases x4 : 0 ≤ a1 <;> simp [x1, x2, x3, x4] <;> omega
  have h' : ∃ r, viaductref12_Right.f a0 a1 a2 a3 a4 a5 = some r := by
    unfold viaductref12_Right.f
    repeat' split
    all_goals exact ⟨_, rfl⟩
  obtain ⟨r, hr⟩ := h'
  exact ⟨r, h.trans hr, hr⟩

theorem allows_eq (a0 a1 a2 a3 a4 a5 g : Int) (h3 : 0 ≤ a3 ∧ a3 < 4294967296) (h4 : 0 ≤ a4 ∧ a4 < 4294967296) (h5 : 0 ≤ a5 ∧ a5 < 4294967296) (hg : 0 ≤ g ∧ g < 4294967296) :
    ∃ r, group_Allows.f a0 a1 a2 a3 a4 a5 g = some r ∧ viaductref12_Allows.f 40 a0 a1 a2 a3 a4 a5 g = some r := by
  obtain ⟨r3, e3, c3⟩ := common_any 40 (by omega) a3 g h3 hg
  obtain ⟨r4, e4, c4⟩ := within_any 39 (by omega) a4 g h4 hg
  obtain ⟨r5, e5, c5⟩ := common_any 39 (by omega) a5 g h5 hg
  have b3 := and_zero h3.1 h3.2 hg.1 hg.2
  have b4 := andNot_zero h4.1 h4.2 hg.1 hg.2
  have b5 := and_zero h5.1 h5.2 hg.1 hg.2
  have t5 : (Go.bits .and .u32 a5 g == 0) = !r5 := by
    rw [Bool.eq_iff_iff]
    simp only [beq_iff_eq, b5, ← c5]
    simp
  have rest : (if (Go.bits .andNot .u32 a4 g) = 0 then (some ((Go.bits .and .u32 a5 g) == 0)) else (some false)) = (viaductref12_within.f 39 a4 g).bind fun t112 => (if t112 = true then ((viaductref12_Common.f 39 a5 g).bind fun t113 => (some (!t113))) else (some false)) := by
    rw [e4, e5, t5]
    simp only [Option.bind_some]
    cases r4 with
    | true => rw [if_pos (b4.2 (c4.1 rfl))]; rfl
    | false => rw [if_neg (fun h => by have := c4.2 (b4.1 h); cases this)]; rfl
  have total : ∃ r, (if (Go.bits .andNot .u32 a4 g) = 0 then (some ((Go.bits .and .u32 a5 g) == 0)) else (some false)) = some r := by
    split
    all_goals exact ⟨_, rfl⟩
  obtain ⟨r, hr⟩ := total
  unfold group_Allows.f viaductref12_Allows.f
  by_cases z : a3 = 0
  · rw [if_pos z, if_pos z]
    exact ⟨r, hr, by rw [← hr, rest]; rfl⟩
  · rw [if_neg z, if_neg z, e3]
    simp only [Option.bind_some]
    cases r3 with
    | true =>
      rw [if_neg (fun h => b3.1 h (c3.1 rfl))]
      exact ⟨r, hr, by rw [← hr, rest]; rfl⟩
    | false =>
      rw [if_pos (b3.2 (fun h => by have := c3.2 h; cases this))]
      exact ⟨false, rfl, rfl⟩

theorem pure (a0 a1 a2 a3 a4 a5 g : Int) (h3 : 0 ≤ a3 ∧ a3 < 4294967296) (h4 : 0 ≤ a4 ∧ a4 < 4294967296) (h5 : 0 ≤ a5 ∧ a5 < 4294967296) (hg : 0 ≤ g ∧ g < 4294967296) :
    viaductlaw12_GroupAllows.f 40 a0 a1 a2 a3 a4 a5 g = some true := by
  obtain ⟨r, e1, e2⟩ := allows_eq a0 a1 a2 a3 a4 a5 g h3 h4 h5 hg
  obtain ⟨s, f1, f2⟩ := right_eq a0 a1 a2 a3 a4 a5
  unfold viaductlaw12_GroupAllows.f
  rw [alive_true, e1, e2, f1, f2]
  simp
end Go.Proofs.Ytbcmdhcjcclgnaa.PureGroupAllows
