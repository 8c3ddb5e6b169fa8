/- The answers that the document fixes for prune. -/
import Derived.Test.YtmomndeknpochaaLinks
import Derived.Test.YtmomndeknpochaaSame
namespace Go.Proofs.Ytmomndeknpochaa
open Go.RowKit Plain PBits
attribute [local go_sem] cell_set_self

/-- A link of which less is free at the lower priorities. -/
def x0 : Adv := ⟨0, 1, 10, 1, 0, 0, true, fun k => if k < 3 then 10 else 4⟩
def q1 : Wnt := ⟨5, 3, 0, 0, 0, 0⟩
def q0 : Wnt := ⟨0, 0, 0, 0, 0, 0⟩
theorem x0_ok : x0.Ok := ⟨by simp [x0], fun k _ => by unfold x0; simp only; split <;> omega⟩
theorem q1_ok : q1.Ok := ⟨by simp [q1], by simp [q1], by simp [q1], by simp [q1]⟩
theorem q0_ok : q0.Ok := ⟨by simp [q0], by simp [q0], by simp [q0], by simp [q0]⟩
theorem allows_zero {q : Wnt} (h1 : q.any = 0) (h2 : q.all = 0) (h3 : q.none = 0) (g : Int) : allowsB q g = true := by
  rw [allowsB_iff]
  unfold AllowsP
  rw [h1, h2, h3]
  exact ⟨.inl rfl, Sub.zero _, not_Com_zero _⟩
theorem fits_a : fitsB x0 q1 (keepsB (fun _ => 0) (fun _ => 0) (fun _ => 0) 0 0 x0) (hasN (fun _ => 0) (fun _ => 0) (fun _ => 0) x0.src x0.dst 0) = false := by
  unfold fitsB
  rw [allows_zero rfl rfl rfl]
  simp [x0, q1, rightB, keepsB, has, has2, hasN, addOk, addN]
theorem fits_b : fitsB x0 q1 (keepsB (fun _ => 0) (fun _ => 0) (fun _ => 0) 0 0 x0) (hasN (fun _ => 0) (fun _ => 1) (fun _ => 1) x0.src x0.dst 1) = true := by
  unfold fitsB
  rw [allows_zero rfl rfl rfl]
  simp [x0, q1, rightB, keepsB, has, has2, hasN, addOk, addN]
theorem fits_c : fitsB x0 q0 (keepsB (fun _ => 0) (fun _ => 0) (fun _ => 0) 0 0 x0) (hasN (fun _ => 0) (fun _ => 0) (fun _ => 0) x0.src x0.dst 0) = true := by
  unfold fitsB
  rw [allows_zero rfl rfl rfl]
  simp [x0, q0, rightB, keepsB, has, has2, hasN, addOk, addN]
theorem strip_none {w : World} {A : Option Addr} {k : Nat} {f : Nat → Array Value} : Strip w A 0 k f := fun h => absurd h (by omega)
theorem owns_none {b : Nat → Int} : OwnsOk b 0 := ⟨fun i h => absurd h (by omega)⟩
set_option maxRecDepth 100000 in
set_option maxHeartbeats 8000000 in
theorem Alive_calls (w : World) : Calls Try.prog 6 #[] w fun e w' => e = .returned (.bool true) ∧ Below w.heap.size w w' := by
  have H1 := Lib.hid fun w => (show Calls Try.prog 8 #[.agg #[.int .i64 0, .int .i64 1, .int .u64 10, .int .i64 1, .int .u32 0, .int .i64 0, .bool true, .int .u64 10, .int .u64 10, .int .u64 10, .int .u64 4, .int .u64 4, .int .u64 4, .int .u64 4, .int .u64 4], .agg #[.int .u64 5, .int .i64 3, .int .i64 0, .int .u32 0, .int .u32 0, .int .u32 0, .slice none 0 0, .slice none 0 0, .slice none 0 0, .int .i64 0]] w fun e w' => e = .returned (.bool false) ∧ Below w.heap.size w w' from by have h := (PFits_calls w x0 q1 none none none 0 0 0 0 0 0 0 (fun _ => 0) (fun _ => 0) (fun _ => 0) (fun _ => 0) (fun _ => 0) (fun _ => 0) x0_ok q1_ok (by omega) (by omega) (by omega) owns_none strip_none strip_none strip_none); rw [fits_a] at h; exact h)
  have H2 := Lib.hid fun (w : World) (B c : Nat) (hB : B < w.heap.size) (hc : ∀ j, j < 3 → w.cell? ⟨B, j, none⟩ = (#[.int .i64 0, .int .i64 1, .int .u64 1] : Array Value)[j]?) => (show Calls Try.prog 8 #[.agg #[.int .i64 0, .int .i64 1, .int .u64 10, .int .i64 1, .int .u32 0, .int .i64 0, .bool true, .int .u64 10, .int .u64 10, .int .u64 10, .int .u64 4, .int .u64 4, .int .u64 4, .int .u64 4, .int .u64 4], .agg #[.int .u64 5, .int .i64 3, .int .i64 0, .int .u32 0, .int .u32 0, .int .u32 0, .slice none 0 0, .slice none 0 0, .slice (some ⟨B, 0, none⟩) 1 c, .int .i64 0]] w fun e w' => e = .returned (.bool true) ∧ Below w.heap.size w w' from by have h := (PFits_calls w x0 q1 none none (some ⟨B, 0, none⟩) 0 0 1 0 0 c 0 (fun _ => 0) (fun _ => 0) (fun _ => 0) (fun _ => 0) (fun _ => 1) (fun _ => 1) x0_ok q1_ok (by omega) (by omega) (by omega) ⟨fun i _ => by omega⟩ strip_none strip_none (fun _ => ⟨_, rfl, hB, fun i hi j hj => by obtain rfl : i = 0 := (by omega); rw [Nat.zero_mul, addr_add_add, addr_add]; rw [Nat.zero_add, Nat.zero_add]; exact hc j hj⟩)); rw [fits_b] at h; exact h)
  have H3 := Lib.hid fun (w : World) (B c : Nat) (hB : B < w.heap.size) (hc : ∀ j, j < 15 → w.cell? ⟨B, j, none⟩ = (#[.int .i64 0, .int .i64 1, .int .u64 10, .int .i64 1, .int .u32 0, .int .i64 0, .bool true, .int .u64 10, .int .u64 10, .int .u64 10, .int .u64 4, .int .u64 4, .int .u64 4, .int .u64 4, .int .u64 4] : Array Value)[j]?) => (show Calls Try.prog 13 #[.slice (some ⟨B, 0, none⟩) 1 c, .agg #[.int .u64 0, .int .i64 0, .int .i64 0, .int .u32 0, .int .u32 0, .int .u32 0, .slice none 0 0, .slice none 0 0, .slice none 0 0, .int .i64 0]] w fun e w' => (∃ A k, e = .returned (.slice A 1 k)) ∧ Below w.heap.size w w' from by
    have h := Links_calls w (some ⟨B, 0, none⟩) 1 c (fun _ => x0) (fun _ => true) (by omega) (fun _ => ⟨_, rfl, hB, fun i hi j hj => by obtain rfl : i = 0 := (by omega); rw [Nat.zero_mul, addr_add_add, addr_add]; rw [Nat.zero_add, Nat.zero_add]; exact hc j hj⟩) q0 none none none 0 0 0 0 0 0 0 (fun w' _ i _ => by have h := (PFits_calls w' x0 q0 none none none 0 0 0 0 0 0 0 (fun _ => 0) (fun _ => 0) (fun _ => 0) (fun _ => 0) (fun _ => 0) (fun _ => 0) x0_ok q0_ok (by omega) (by omega) (by omega) owns_none strip_none strip_none strip_none); rw [fits_c] at h; exact h)
    exact h.mono fun e w' ⟨A, k, h1, _, h3⟩ => ⟨⟨A, k, h1⟩, h3⟩)
  go_enter Try.func6, Try.ntmps6
  go_wp2_with (first | (go_at_call 8; (with_reducible refine (H1.out _).mono ?_); rintro e w1 ⟨rfl, hb⟩; obtain ⟨hb1, hb2⟩ := bcell hb; have hbz0 : w.heap.size < w1.heap.size := size_lt hb (by first | omega | (simp <;> omega)); have hbz1 : w.heap.size + 1 < w1.heap.size := size_lt hb (by first | omega | (simp <;> omega))) | (go_at_call 8; (with_reducible refine (H2.out _ _ _ (by simp) (fun j _ => World.cell?_alloc_new _ _ _ j)).mono ?_); (rintro e w2 ⟨rfl, hd⟩; obtain ⟨hd1, hd2⟩ := bcell hd; have hdz0 : w.heap.size < w2.heap.size := size_lt hd (by first | omega | (simp <;> omega)); have hdz1 : w.heap.size + 1 < w2.heap.size := size_lt hd (by first | omega | (simp <;> omega)))) | (go_at_call 13; (with_reducible refine (H3.out _ _ _ (by simp) (fun j _ => World.cell?_alloc_new _ _ _ j)).mono ?_); (rintro e w3 ⟨⟨A, k, rfl⟩, hf⟩; have hfz0 : w.heap.size < w3.heap.size := size_lt hf (by first | omega | (simp <;> omega)))))
  go_ret
  exact ⟨rfl, (by repeat (first | (with_reducible exact Below.refl _ _) | (with_reducible assumption) | ((with_reducible refine Below.setCell ?_ ?_ _); rotate_left; (first | omega | (simp <;> omega))) | ((with_reducible refine Below.alloc ?_ ?_ _); rotate_left; (first | omega | (simp <;> omega))) | ((with_reducible refine Below.drew ?_)) | ((with_reducible refine below_drewN ?_ _)) | ((with_reducible refine Below.trans ?_ (Below.mono (by with_reducible assumption) ?_)); rotate_left; (first | omega | (simp <;> omega)))))⟩
end Go.Proofs.Ytmomndeknpochaa
