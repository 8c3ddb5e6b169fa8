/- May a route go over a link: the code's answer and the document's are one. -/
import Derived.Test.YtmomndeknpochaaRFits
import Derived.Test.YtmomndeknpochaaAdd
namespace Go.Proofs.Ytmomndeknpochaa
open Go.RowKit Plain PBits

theorem rightB_setup {q : Wnt} (h : rightB q = true) : ∃ s : Nat, q.setup = (s : Int) ∧ s < 8 := by
  have := rightB_spec.1 h
  exact ⟨q.setup.toNat, by omega, by omega⟩
structure OwnsOk (b : Nat → Int) (n : Nat) : Prop where
  ok : ∀ i, i < n → 0 ≤ b i ∧ b i < 18446744073709551616
theorem hasN_ok {s d b : Nat → Int} {v u : Int} : ∀ {n}, OwnsOk b n → 0 ≤ hasN s d b v u n ∧ hasN s d b v u n < 18446744073709551616
  | 0, _ => by simp [hasN]
  | n + 1, h => by
    have h1 := hasN_ok (s := s) (d := d) (v := v) (u := u) (n := n) ⟨fun i hi => h.ok i (by omega)⟩
    have h2 := h.ok n (by omega)
    simp only [hasN]
    split
    · split
      · exact h2
      · exact h1
    · exact h1
section
variable (w : World) (x : Adv) (q : Wnt) (A1 A2 A3 : Option Addr) (n1 n2 n3 k1 k2 k3 : Nat) (hops : Int) (f g h s d b : Nat → Int)
theorem PFits_calls (hx : x.Ok) (hq : q.Ok) (hn1 : n1 ≤ 100000) (hn2 : n2 ≤ 100000) (hn3 : n3 ≤ 100000) (hb : OwnsOk b n3)
    (hs1 : Strip w A1 n1 1 (ints f)) (hs2 : Strip w A2 n2 2 (pairs g h)) (hs3 : Strip w A3 n3 3 (owns s d b)) :
    Calls Try.prog 8 #[.agg #[.int .i64 x.src, .int .i64 x.dst, .int .u64 x.cap, .int .i64 x.metric, .int .u32 x.groups, .int .i64 x.seq, .bool x.up, .int .u64 (x.free 0), .int .u64 (x.free 1), .int .u64 (x.free 2), .int .u64 (x.free 3), .int .u64 (x.free 4), .int .u64 (x.free 5), .int .u64 (x.free 6), .int .u64 (x.free 7)], .agg #[.int .u64 q.bw, .int .i64 q.setup, .int .i64 q.hold, .int .u32 q.any, .int .u32 q.all, .int .u32 q.none, .slice A1 n1 k1, .slice A2 n2 k2, .slice A3 n3 k3, .int .i64 hops]] w fun e w' => e = .returned (.bool (fitsB x q (keepsB f g h n1 n2 x) (hasN s d b x.src x.dst n3))) ∧ Below w.heap.size w w' := by
  have H1 := fun w => Right_calls q w
  have H2 := fun w => Allows_calls q hq x.groups hx.groups w
  have H3 := fun w' (hb : Below w.heap.size w w') => Keeps_calls w' q A1 A2 A3 n1 n2 n3 k1 k2 k3 hops f g h x (by omega) (by omega) (hs1.below hb) (hs2.below hb)
  by_cases hc : (rightB q && (x.up && (allowsB q x.groups && !keepsB f g h n1 n2 x))) = false
  · refine (Fits_no w x q A1 A2 A3 n1 n2 n3 k1 k2 k3 hops _ _ _ H1 H2 H3 hc).mono ?_
    rintro e w' ⟨rfl, hb⟩
    refine ⟨?_, hb⟩
    congr 2
    unfold fitsB
    revert hc
    cases rightB q <;> cases x.up <;> cases allowsB q x.groups <;> cases keepsB f g h n1 n2 x <;> simp
  · have h1 : rightB q = true := by revert hc; cases rightB q <;> simp
    have h2 : x.up = true := by revert hc; cases x.up <;> simp
    have h3 : allowsB q x.groups = true := by revert hc; cases allowsB q x.groups <;> simp
    have h4 : keepsB f g h n1 n2 x = false := by revert hc; cases keepsB f g h n1 n2 x <;> simp
    obtain ⟨t, ht, ht8⟩ := rightB_setup h1
    rw [h1] at H1
    rw [h3] at H2
    rw [h4] at H3
    have hf := hx.free t ht8
    have hm := hasN_ok (s := s) (d := d) (v := x.src) (u := x.dst) hb
    refine (Fits_yes w x q A1 A2 A3 n1 n2 n3 k1 k2 k3 hops t ht ht8 h2 (hasN s d b x.src x.dst n3) _ _ H1 H2 H3 (fun w' hb => PHas_calls w' q A1 A2 A3 n1 n2 n3 k1 k2 k3 hops s d b x (by omega) (hs3.below hb)) (fun w' => Add_calls _ _ hf.1 hm.1 hf.2 hm.2 w')).mono ?_
    rintro e w' ⟨rfl, hb⟩
    refine ⟨?_, hb⟩
    congr 2
    unfold fitsB
    rw [h1, h2, h3, h4, ht]
    simp
theorem RFits_calls (hx : x.Ok) (hq : q.Ok) (hn1 : n1 ≤ 100000) (hn2 : n2 ≤ 100000) (hn3 : n3 ≤ 100000) (hb : OwnsOk b n3)
    (hs1 : Strip w A1 n1 1 (ints f)) (hs2 : Strip w A2 n2 2 (pairs g h)) (hs3 : Strip w A3 n3 3 (owns s d b)) :
    Calls Try.prog 11 #[.agg #[.int .i64 x.src, .int .i64 x.dst, .int .u64 x.cap, .int .i64 x.metric, .int .u32 x.groups, .int .i64 x.seq, .bool x.up, .int .u64 (x.free 0), .int .u64 (x.free 1), .int .u64 (x.free 2), .int .u64 (x.free 3), .int .u64 (x.free 4), .int .u64 (x.free 5), .int .u64 (x.free 6), .int .u64 (x.free 7)], .agg #[.int .u64 q.bw, .int .i64 q.setup, .int .i64 q.hold, .int .u32 q.any, .int .u32 q.all, .int .u32 q.none, .slice A1 n1 k1, .slice A2 n2 k2, .slice A3 n3 k3, .int .i64 hops]] w fun e w' => e = .returned (.bool (fitsB x q (keepsB f g h n1 n2 x) (hasN s d b x.src x.dst n3))) ∧ Below w.heap.size w w' := by
  have H1 := fun w => RRight_calls q w
  have H2 := fun w => RAllows_calls q hq x.groups hx.groups w
  have H3 := fun w' (hb : Below w.heap.size w w') => Has_calls w' A1 n1 k1 f x.src (by omega) (hs1.below hb)
  have H4 := fun w' (hb : Below w.heap.size w w') => Has_calls w' A1 n1 k1 f x.dst (by omega) (hs1.below hb)
  by_cases hc : (rightB q && (x.up && (allowsB q x.groups && (!has f x.src n1 && !has f x.dst n1)))) = false
  · refine (RFits_no w x q A1 A2 A3 n1 n2 n3 k1 k2 k3 hops _ _ _ _ H1 H2 H3 H4 hc).mono ?_
    rintro e w' ⟨rfl, hb⟩
    refine ⟨?_, hb⟩
    congr 2
    unfold fitsB keepsB
    revert hc
    cases rightB q <;> cases x.up <;> cases allowsB q x.groups <;> cases has f x.src n1 <;> cases has f x.dst n1 <;> simp
  · have h1 : rightB q = true := by revert hc; cases rightB q <;> simp
    have h2 : x.up = true := by revert hc; cases x.up <;> simp
    have h3 : allowsB q x.groups = true := by revert hc; cases allowsB q x.groups <;> simp
    have h4 : has f x.src n1 = false := by revert hc; cases has f x.src n1 <;> simp
    have h5 : has f x.dst n1 = false := by revert hc; cases has f x.dst n1 <;> simp
    obtain ⟨t, ht, ht8⟩ := rightB_setup h1
    rw [h1] at H1
    rw [h3] at H2
    rw [h4] at H3
    rw [h5] at H4
    have hf := hx.free t ht8
    have hm := hasN_ok (s := s) (d := d) (v := x.src) (u := x.dst) hb
    refine (RFits_yes w x q A1 A2 A3 n1 n2 n3 k1 k2 k3 hops t ht ht8 h2 (hasN s d b x.src x.dst n3) _ _ g h (by omega) hs2 H1 H2 H3 H4 (fun w' hb => RHas_calls w' q A1 A2 A3 n1 n2 n3 k1 k2 k3 hops s d b x.src x.dst (by omega) (hs3.below hb)) (fun w' => RAdd_calls _ _ hf.1 hm.1 hf.2 hm.2 w')).mono ?_
    rintro e w' ⟨rfl, hb⟩
    refine ⟨?_, hb⟩
    congr 2
    unfold fitsB keepsB
    rw [h1, h2, h3, h4, h5, ht]
    simp
end
end Go.Proofs.Ytmomndeknpochaa
