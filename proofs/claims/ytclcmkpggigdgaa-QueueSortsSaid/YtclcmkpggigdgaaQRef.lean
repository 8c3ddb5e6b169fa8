/- The document's queue: a list in order. Push and Pop. -/
import Derived.Test.YtclcmkpggigdgaaQLaw7
import Derived.Test.YtclcmkpggigdgaaQEq
import Derived.Maps.AppendAt
namespace Go.Proofs.Ytclcmkpggigdgaa
open Go.RowKit
attribute [local go_sem] cell_set_self

/-- Rising. -/
def Sorted (l : List Item) : Prop := l.Pairwise fun a b => ¬ Less b a
/-- A list in order, with one more. -/
def insr (x : Item) : List Item → List Item
  | [] => [x]
  | y :: l => if Less x y then x :: y :: l else y :: insr x l
theorem insr_length (x : Item) : ∀ l, (insr x l).length = l.length + 1
  | [] => rfl
  | y :: l => by unfold insr; split <;> simp [insr_length x l]
theorem insr_count (x y : Item) : ∀ l, (insr x l).count y = l.count y + if x = y then 1 else 0
  | [] => by simp [insr, List.count_cons]
  | z :: l => by
    unfold insr
    split
    · simp [List.count_cons]
    · simp only [List.count_cons, insr_count x y l]
      omega
theorem insr_mem {x a : Item} : ∀ {l}, a ∈ insr x l → a = x ∨ a ∈ l
  | [], h => by simpa [insr] using h
  | y :: l, h => by
    unfold insr at h
    split at h
    · simpa using h
    · rcases List.mem_cons.1 h with h | h
      · exact .inr (by simp [h])
      · rcases insr_mem h with h | h
        · exact .inl h
        · exact .inr (by simp [h])
theorem insr_sorted (x : Item) : ∀ {l}, Sorted l → Sorted (insr x l)
  | [], _ => by simp [insr, Sorted]
  | y :: l, h => by
    obtain ⟨h1, h2⟩ := List.pairwise_cons.1 h
    unfold insr
    split
    · rename_i hl
      refine List.pairwise_cons.2 ⟨fun b hb => ?_, h⟩
      rcases List.mem_cons.1 hb with rfl | hb
      · exact hl.asymm
      · exact fun hc => h1 b hb (hc.trans hl)
    · rename_i hl
      refine List.pairwise_cons.2 ⟨fun b hb => ?_, insr_sorted x h2⟩
      rcases insr_mem hb with rfl | hb
      · exact hl
      · exact h1 b hb
/-- The heap's least is the list's first. -/
theorem first_least {d : Nat → Item} {n : Nat} {y : Item} {l : List Item} (hh : Heap d (n + 1)) (hs : Sorted (y :: l)) (hc : ∀ z, many d (n + 1) z = (y :: l).count z) : d 0 = y := by
  have h1 : ¬ Less y (d 0) := by
    have : 0 < many d (n + 1) y := by rw [hc]; simp
    obtain ⟨k, hk, e⟩ := many_pos.1 this
    rw [← e]
    exact heap_least hh k hk
  have h2 : d 0 ∈ y :: l := by
    rw [← List.count_pos_iff, ← hc]
    exact many_zero (by omega)
  rcases List.mem_cons.1 h2 with h | h
  · exact h
  · exact eq_of_not ((List.pairwise_cons.1 hs).1 _ h) h1
theorem take_insr (x : Item) : ∀ (l : List Item) (k : Nat), k ≤ l.length → (∀ j, j < k → ∀ y, l[j]? = some y → ¬ Less x y) → (∀ y, l[k]? = some y → Less x y) → insr x l = l.take k ++ x :: l.drop k
  | [], k, hk, _, _ => by
    have : k = 0 := by simpa using hk
    subst this
    rfl
  | z :: l, 0, _, _, h2 => by
    unfold insr
    rw [if_pos (h2 z rfl)]
    rfl
  | z :: l, k + 1, hk, h1, h2 => by
    unfold insr
    rw [if_neg (h1 0 (by omega) z rfl), take_insr x l k (by simpa using hk) (fun j hj y hy => h1 (j + 1) (by omega) y hy) (fun y hy => h2 y hy)]
    rfl
end Go.Proofs.Ytclcmkpggigdgaa
