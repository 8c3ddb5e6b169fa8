/- A region that draws its order, whose operations read or call, and whose last stores stand in one order; no memory is made in it. -/
import Derived.Test.YtokkdjgejeigiaaReg
namespace Go.Proofs.Ytokkdjgejeigiaa
open Go.RowKit
section
variable {P : Program} {W : World} {Q : Exit → Act → World → Prop}
theorem reg0 {id : Nat} {l : List Oper} {a : Act} (ks : List Nat) (hm : P.follows .mixedOrders = true) (s0 : Nat) (h0 : s0 = a.tmps.size) (hchk : regOk l.toArray ks s0 = true) (hn : ks.length ≤ l.length)
    (hfl : ((List.range ks.length).filter fun i => ks[i]? == some 1) = []) (hQ : ∀ c (a : Act) o v w, Q (.panic c) (a.put o v) w → Q (.panic c) a w)
    (h : wpPre P l.toArray W (fun b => ∀ w', Below W.heap.size W w' → wpList P l.toArray Q (l.drop ks.length) b w') l ks a) : (Code.region id l.toArray true).wp P Q a W := by
  have hmem : ∀ i, i < ks.length → ks[i]? ≠ some 1 := fun i hi hk => by
    have : i ∈ (List.range ks.length).filter fun i => ks[i]? == some 1 := List.mem_filter.2 ⟨List.mem_range.2 hi, by rw [hk]; rfl⟩
    rw [hfl] at this
    cases this
  refine reg_region ks (fun _ => #[]) hm s0 h0 hchk hn (fun i o hi ho hk => absurd hk (hmem i hi)) hQ (wpPre_mono (fun b hb w' ptr hw hp _ => ?_) l ks a h)
  rw [hfl]
  exact hb w' hw
end
end Go.Proofs.Ytokkdjgejeigiaa
