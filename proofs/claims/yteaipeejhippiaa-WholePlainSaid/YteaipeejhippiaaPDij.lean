/- The plain law of a search that goes on from the least: ways, which is better, what each round keeps. -/
import Derived.Test.YteaipeejhippiaaPOuts
namespace Go.Proofs.Yteaipeejhippiaa
open Go.RowKit
set_option linter.unusedVariables false

/-! ### Which way is better -/
def lexL : List Int → List Int → Int
  | a :: l, b :: k => if cmpI a b = 0 then lexL l k else cmpI a b
  | _, _ => 0
def nth (l : List Int) (i : Nat) : Int := l.getD i 0
theorem cmpI_zero {a b : Int} : cmpI a b = 0 ↔ a = b := by
  unfold cmpI
  split
  · omega
  · split <;> omega
theorem cmpI_neg {a b : Int} : cmpI a b < 0 ↔ a < b := by
  unfold cmpI
  split
  · omega
  · split <;> omega
theorem lexI_shift {f g : Nat → Int} : ∀ (n k : Nat), lexI f g (k + 1) n = lexI (fun i => f (i + 1)) (fun i => g (i + 1)) k n
  | 0, _ => rfl
  | n + 1, k => by
    unfold lexI
    rw [lexI_shift n (k + 1)]
theorem lexI_list : ∀ (l k : List Int), l.length = k.length → lexI (nth l) (nth k) 0 l.length = lexL l k
  | [], [], _ => rfl
  | a :: l, b :: k, h => by
    have h2 : l.length = k.length := by simpa using h
    rw [List.length_cons]
    unfold lexI lexL
    have e1 : nth (a :: l) 0 = a := rfl
    have e2 : nth (b :: k) 0 = b := rfl
    rw [e1, e2, lexI_shift]
    have e3 : (fun i => nth (a :: l) (i + 1)) = nth l := rfl
    have e4 : (fun i => nth (b :: k) (i + 1)) = nth k := rfl
    rw [e3, e4, lexI_list l k h2]
  | [], _ :: _, h => by simp at h
  | _ :: _, [], h => by simp at h
theorem lexL_self : ∀ l : List Int, lexL l l = 0
  | [] => rfl
  | a :: l => by
    unfold lexL
    rw [if_pos (cmpI_zero.2 rfl), lexL_self l]
theorem lexL_eq : ∀ (l k : List Int), l.length = k.length → lexL l k = 0 → l = k
  | [], [], _, _ => rfl
  | a :: l, b :: k, h, h0 => by
    unfold lexL at h0
    split at h0
    · rename_i h1
      rw [cmpI_zero.1 h1, lexL_eq l k (by simpa using h) h0]
    · rename_i h1
      exact absurd h0 h1
  | [], _ :: _, h, _ => by simp at h
  | _ :: _, [], h, _ => by simp at h
theorem lexL_neg : ∀ (l k : List Int), l.length = k.length → (lexL l k < 0 ↔ 0 < lexL k l)
  | [], [], _ => by simp [lexL]
  | a :: l, b :: k, h => by
    have ih := lexL_neg l k (by simpa using h)
    unfold lexL cmpI
    by_cases h1 : a < b
    · have h2 : ¬ b < a := by omega
      simp [h1, h2]
    · by_cases h2 : b < a
      · simp [h1, h2]
      · simp [h1, h2, ih]
  | [], _ :: _, h => by simp at h
  | _ :: _, [], h => by simp at h
theorem lexL_trans : ∀ (l k j : List Int), l.length = k.length → k.length = j.length → lexL l k < 0 → lexL k j < 0 → lexL l j < 0
  | [], [], [], _, _, h, _ => by simp [lexL] at h
  | a :: l, b :: k, c :: j, h1, h2, h3, h4 => by
    have ih := lexL_trans l k j (by simpa using h1) (by simpa using h2)
    unfold lexL at h3 h4 ⊢
    by_cases e1 : cmpI a b = 0
    · obtain rfl := cmpI_zero.1 e1
      rw [if_pos e1] at h3
      by_cases e2 : cmpI a c = 0
      · rw [if_pos e2] at h4 ⊢
        exact ih h3 h4
      · rw [if_neg e2] at h4 ⊢
        exact h4
    · rw [if_neg e1] at h3
      have h5 := cmpI_neg.1 h3
      by_cases e2 : cmpI b c = 0
      · obtain rfl := cmpI_zero.1 e2
        rw [if_neg e1]
        exact h3
      · rw [if_neg e2] at h4
        have h6 := cmpI_neg.1 h4
        have h7 : a < c := by omega
        rw [if_neg (fun e => by have := cmpI_zero.1 e; omega)]
        exact cmpI_neg.2 h7
  | [], [], _ :: _, _, h, _, _ => by simp at h
  | [], _ :: _, _, h, _, _, _ => by simp at h
  | _ :: _, [], _, h, _, _, _ => by simp at h
  | _ :: _, _ :: _, [], _, h, _, _ => by simp at h
theorem lexL_app (x : Int) : ∀ (l k : List Int), l.length = k.length → lexL (l ++ [x]) (k ++ [x]) = lexL l k
  | [], [], _ => lexL_self [x]
  | a :: l, b :: k, h => by
    simp only [List.cons_append, lexL]
    rw [lexL_app x l k (by simpa using h)]
  | [], _ :: _, h => by simp at h
  | _ :: _, [], h => by simp at h
/-- A route of cost c is better than another one. -/
def Bet (c : Int) (l : List Int) (d : Int) (k : List Int) : Prop := c < d ∨ (c = d ∧ (l.length < k.length ∨ (l.length = k.length ∧ lexL l k < 0)))
theorem bet_iff (c : Int) (l : List Int) (d : Int) (k : List Int) : betB c l.length (nth l) d k.length (nth k) = true ↔ Bet c l d k := by
  unfold betB Bet
  by_cases h1 : c = d
  · rw [if_pos h1]
    by_cases h2 : l.length = k.length
    · rw [if_pos h2, lexI_list l k h2, decide_eq_true_iff]
      constructor
      · intro h
        exact .inr ⟨h1, .inr ⟨h2, h⟩⟩
      · rintro (h | ⟨_, h | ⟨_, h⟩⟩)
        · omega
        · omega
        · exact h
    · rw [if_neg h2, decide_eq_true_iff]
      constructor
      · intro h
        exact .inr ⟨h1, .inl h⟩
      · rintro (h | ⟨_, h | ⟨h, _⟩⟩)
        · omega
        · exact h
        · omega
  · rw [if_neg h1, decide_eq_true_iff]
    constructor
    · intro h
      exact .inl h
    · rintro (h | ⟨h, _⟩)
      · exact h
      · omega
section
variable {c d e : Int} {l k j : List Int}
theorem Bet.irrefl : ¬ Bet c l c l := by
  unfold Bet
  rw [lexL_self]
  omega
theorem Bet.cost (h : Bet c l d k) : c ≤ d := by
  unfold Bet at h
  omega
theorem Bet.of_cost (h : c < d) : Bet c l d k := .inl h
theorem Bet.trans (h : Bet c l d k) (h' : Bet d k e j) : Bet c l e j := by
  unfold Bet at *
  rcases h with h | ⟨rfl, h⟩
  · rcases h' with h' | ⟨rfl, _⟩
    · exact .inl (by omega)
    · exact .inl h
  · rcases h' with h' | ⟨rfl, h'⟩
    · exact .inl h'
    · refine .inr ⟨rfl, ?_⟩
      rcases h with h | ⟨h1, h⟩
      · rcases h' with h' | ⟨h2, h'⟩
        · exact .inl (by omega)
        · exact .inl (by omega)
      · rcases h' with h' | ⟨h2, h'⟩
        · exact .inl (by omega)
        · exact .inr ⟨by omega, lexL_trans _ _ _ h1 h2 h h'⟩
theorem Bet.tri (h : ¬ Bet c l d k) (h' : ¬ Bet d k c l) : c = d ∧ l = k := by
  unfold Bet at *
  have e1 : c = d := by omega
  subst e1
  have e2 : l.length = k.length := by
    rcases Nat.lt_trichotomy l.length k.length with h1 | h1 | h1
    · exact absurd (.inr ⟨rfl, .inl h1⟩) h
    · exact h1
    · exact absurd (.inr ⟨rfl, .inl h1⟩) h'
  refine ⟨rfl, lexL_eq _ _ e2 ?_⟩
  have h3 : ¬ lexL l k < 0 := fun h1 => h (.inr ⟨rfl, .inr ⟨e2, h1⟩⟩)
  have h4 : ¬ lexL k l < 0 := fun h1 => h' (.inr ⟨rfl, .inr ⟨e2.symm, h1⟩⟩)
  have h5 := lexL_neg k l e2.symm
  omega
theorem Bet.asymm (h : Bet c l d k) : ¬ Bet d k c l := fun h' => Bet.irrefl (h.trans h')
theorem Bet.app (h : Bet c l d k) (m x : Int) : Bet (c + m) (l ++ [x]) (d + m) (k ++ [x]) := by
  unfold Bet at *
  simp only [List.length_append, List.length_cons, List.length_nil]
  rcases h with h | ⟨rfl, h | ⟨h1, h⟩⟩
  · exact .inl (by omega)
  · exact .inr ⟨rfl, .inl (by omega)⟩
  · exact .inr ⟨rfl, .inr ⟨by omega, by rw [lexL_app x _ _ h1]; exact h⟩⟩
/-- What is no worse than y, which is no worse than z. -/
theorem Bet.le_trans (h : ¬ Bet d k c l) (h' : ¬ Bet e j d k) : ¬ Bet e j c l := fun h1 => by
  by_cases h2 : Bet c l d k
  · exact h' (h1.trans h2)
  · obtain ⟨rfl, rfl⟩ := Bet.tri h2 h
    exact h' h1
end

/-! ### Ways -/
inductive Way (m : Nat) (x : Nat → Lnk) (fr : Int) : List Int → Int → Int → Prop
  | start : Way m x fr [fr] fr 0
  | go {l : List Int} {u c : Int} (i : Nat) : Way m x fr l u c → i < m → (x i).src = u → Way m x fr (l ++ [(x i).dst]) (x i).dst (c + (x i).metric)
/-- Which places there are, and which of a queue's items stands for which. -/
structure Mach (P : Type) where
  pl : Int → Int → P
  hl : Nat → Int
def Mach.at_ {P : Type} (M : Mach P) (l : List Int) (v : Int) : P := M.pl (M.hl l.length) v
/-- What each round keeps: r rounds have been, the last one took an item of cost T. -/
structure Keeps {P : Type} (M : Mach P) (ok : P → Prop) (m : Nat) (x : Nat → Lnk) (fr : Int) (B : (P → Option (List Int × Int))) (D : P → Bool) (q : Item → Nat) (T : Int) (r : Nat) (C : P → Nat → Prop) : Prop where
  valid : ∀ p l c, B p = some (l, c) → (∃ v, Way m x fr l v c ∧ p = M.at_ l v) ∧ c ≤ 65535 * (r : Int) ∧ l.length ≤ r + 1
  done : ∀ p, D p = true → ∃ l c, B p = some (l, c) ∧ c ≤ T
  item : ∀ y, 0 < q y → T ≤ y.cost ∧ ∃ l c, B (M.pl y.hops y.node) = some (l, c) ∧ c ≤ y.cost
  cover : ∀ p l c, B p = some (l, c) → D p = false → ok p → ∃ y, 0 < q y ∧ y.cost = c ∧ M.pl y.hops y.node = p
  closed : ∀ p i, C p i → D p = true ∧ ∃ l c, B p = some (l, c) ∧ ∃ k d, B (M.at_ (l ++ [(x i).dst]) (x i).dst) = some (k, d) ∧ ¬ Bet (c + (x i).metric) (l ++ [(x i).dst]) d k
  start : ∃ k d, B (M.at_ [fr] fr) = some (k, d) ∧ ¬ Bet 0 [fr] d k
open Classical in
noncomputable def updT {P : Type} (B : (P → Option (List Int × Int))) (p : P) (y : List Int × Int) : (P → Option (List Int × Int)) := fun p' => if p' = p then some y else B p'
theorem updT_same {P : Type} (B : (P → Option (List Int × Int))) (p : P) (y : List Int × Int) : updT B p y p = some y := by simp [updT]
theorem updT_other {P : Type} (B : (P → Option (List Int × Int))) {p p' : P} (y : List Int × Int) (h : p' ≠ p) : updT B p y p' = B p' := by simp [updT, h]
section
variable {P : Type} {M : Mach P} {ok : P → Prop} {m : Nat} {x : Nat → Lnk} {fr : Int} {B : (P → Option (List Int × Int))} {D : P → Bool} {q q' : Item → Nat} {T : Int} {r : Nat} {C : P → Nat → Prop}
theorem Keeps.count (I : Keeps M ok m x fr B D q T r C) (h : ∀ y, q' y = q y) : Keeps M ok m x fr B D q' T r C := by
  have : q' = q := funext h
  rw [this]
  exact I
/-- What is settled is as good as what costs more. -/
theorem Keeps.low (I : Keeps M ok m x fr B D q T r C) {p : P} (hD : D p = true) {l : List Int} {c : Int} (hT : T < c) : ∃ k d, B p = some (k, d) ∧ ¬ Bet c l d k := by
  obtain ⟨k, d, h1, h2⟩ := I.done p hD
  exact ⟨k, d, h1, fun h => by have := h.cost; omega⟩
/-- A better way is laid, and queued. -/
theorem Keeps.offer (I : Keeps M ok m x fr B D q T r C) {l : List Int} {v c : Int} (hw : Way m x fr l v c) (hT : T < c) (hc : c ≤ 65535 * (r : Int)) (hl : l.length ≤ r + 1) (hb : ∀ k d, B (M.at_ l v) = some (k, d) → Bet c l d k)
    (hq : ∀ y, q' y = q y + if (⟨c, M.hl l.length, v⟩ : Item) = y then 1 else 0) : D (M.at_ l v) = false ∧ Keeps M ok m x fr (updT B (M.at_ l v) (l, c)) D q' T r C := by
  have hD : D (M.at_ l v) = false := by
    cases hD : D (M.at_ l v) with
    | false => rfl
    | true =>
      obtain ⟨k, d, h1, h2⟩ := I.low hD (l := l) hT
      exact absurd (hb k d h1) h2
  have hne : ∀ p, D p = true → p ≠ M.at_ l v := fun p hp e => by rw [e, hD] at hp; cases hp
  have better : ∀ p k d, B p = some (k, d) → ∃ k' d', updT B (M.at_ l v) (l, c) p = some (k', d') ∧ ¬ Bet d k d' k' := fun p k d h => by
    by_cases e : p = M.at_ l v
    · subst e
      exact ⟨l, c, updT_same _ _ _, (hb k d h).asymm⟩
    · exact ⟨k, d, by rw [updT_other _ _ e]; exact h, Bet.irrefl⟩
  refine ⟨hD, ⟨fun p k d h => ?_, fun p hp => ?_, fun y hy => ?_, fun p k d h hp ho => ?_, fun p i hC => ?_, ?_⟩⟩
  · by_cases e : p = M.at_ l v
    · subst e
      rw [updT_same] at h
      injection h with h
      injection h with h1 h2
      subst h1 h2
      exact ⟨⟨v, hw, rfl⟩, hc, hl⟩
    · rw [updT_other _ _ e] at h
      exact I.valid p k d h
  · obtain ⟨k, d, h1, h2⟩ := I.done p hp
    exact ⟨k, d, by rw [updT_other _ _ (hne p hp)]; exact h1, h2⟩
  · rw [hq] at hy
    by_cases e : (⟨c, M.hl l.length, v⟩ : Item) = y
    · subst e
      exact ⟨by simp; omega, l, c, updT_same _ _ _, Int.le_refl _⟩
    · rw [if_neg e] at hy
      obtain ⟨h1, k, d, h2, h3⟩ := I.item y hy
      refine ⟨h1, ?_⟩
      obtain ⟨k', d', h4, h5⟩ := better _ k d h2
      refine ⟨k', d', h4, ?_⟩
      rcases Int.lt_or_le d d' with h6 | h6
      · exact absurd (Bet.of_cost h6) h5
      · omega
  · by_cases e : p = M.at_ l v
    · subst e
      rw [updT_same] at h
      injection h with h
      injection h with h1 h2
      subst h1 h2
      exact ⟨⟨c, M.hl l.length, v⟩, by rw [hq, if_pos rfl]; omega, rfl, rfl⟩
    · rw [updT_other _ _ e] at h
      obtain ⟨y, h1, h2, h3⟩ := I.cover p k d h hp ho
      exact ⟨y, by rw [hq]; omega, h2, h3⟩
  · obtain ⟨h1, k, d, h2, k2, d2, h3, h4⟩ := I.closed p i hC
    obtain ⟨k3, d3, h5, h6⟩ := better _ _ _ h3
    exact ⟨h1, k, d, by rw [updT_other _ _ (hne p h1)]; exact h2, k3, d3, h5, Bet.le_trans h6 h4 |> fun h => h⟩
  · obtain ⟨k, d, h1, h2⟩ := I.start
    obtain ⟨k3, d3, h5, h6⟩ := better _ _ _ h1
    exact ⟨k3, d3, h5, Bet.le_trans h6 h2⟩
end
open Classical in
noncomputable def updD {P : Type} (D : P → Bool) (p : P) : P → Bool := fun p' => if p' = p then true else D p'
theorem updD_same {P : Type} (D : P → Bool) (p : P) : updD D p p = true := by simp [updD]
theorem updD_other {P : Type} (D : P → Bool) {p p' : P} (h : p' ≠ p) : updD D p p' = D p' := by simp [updD, h]
theorem updD_true {P : Type} {D : P → Bool} {p p' : P} (h : updD D p p' = true) : p' = p ∨ D p' = true := by
  by_cases e : p' = p
  · exact .inl e
  · rw [updD_other _ e] at h
    exact .inr h
theorem updD_keep {P : Type} {D : P → Bool} (p : P) {p' : P} (h : D p' = true) : updD D p p' = true := by
  by_cases e : p' = p
  · rw [e]; exact updD_same _ _
  · rw [updD_other _ e]; exact h
section
variable {P : Type} {M : Mach P} {ok : P → Prop} {m : Nat} {x : Nat → Lnk} {fr : Int} {B : (P → Option (List Int × Int))} {D : P → Bool} {q q' : Item → Nat} {T : Int} {r : Nat} {C : P → Nat → Prop}
theorem Keeps.more (I : Keeps M ok m x fr B D q T r C) {r' : Nat} (h : r ≤ r') : Keeps M ok m x fr B D q T r' C :=
  ⟨fun p l c hp => by
    obtain ⟨h1, h2, h3⟩ := I.valid p l c hp
    exact ⟨h1, by omega, by omega⟩, I.done, I.item, I.cover, I.closed, I.start⟩
/-- The least item is taken, whose place is settled already, or is not to be. -/
theorem Keeps.drop (I : Keeps M ok m x fr B D q T r C) (y0 : Item) (h0 : 0 < q y0) (hq : ∀ y, q' y + (if y0 = y then 1 else 0) = q y) (hl : ∀ y, 0 < q y → y0.cost ≤ y.cost) (hp : D (M.pl y0.hops y0.node) = true ∨ ¬ ok (M.pl y0.hops y0.node)) : Keeps M ok m x fr B D q' y0.cost r C := by
  have hT := (I.item y0 h0).1
  have hle : ∀ y, q' y ≤ q y := fun y => by have := hq y; omega
  refine ⟨I.valid, fun p h => ?_, fun y hy => ?_, fun p l c h hD ho => ?_, I.closed, I.start⟩
  · obtain ⟨l, c, h1, h2⟩ := I.done p h
    exact ⟨l, c, h1, by omega⟩
  · have h1 : 0 < q y := Nat.lt_of_lt_of_le hy (hle y)
    exact ⟨hl y h1, (I.item y h1).2⟩
  · obtain ⟨y, h1, h2, h3⟩ := I.cover p l c h hD ho
    refine ⟨y, ?_, h2, h3⟩
    have h4 := hq y
    by_cases e : y0 = y
    · subst e
      subst h3
      rcases hp with hp | hp
      · rw [hD] at hp; cases hp
      · exact absurd ho hp
    · rw [if_neg e] at h4
      omega
/-- The least item is taken, and its place is settled. -/
theorem Keeps.settle (I : Keeps M ok m x fr B D q T r C) (y0 : Item) (h0 : 0 < q y0) (hq : ∀ y, q' y + (if y0 = y then 1 else 0) = q y) (hl : ∀ y, 0 < q y → y0.cost ≤ y.cost) (hD : D (M.pl y0.hops y0.node) = false) (hp : ok (M.pl y0.hops y0.node)) :
    Keeps M ok m x fr B (updD D (M.pl y0.hops y0.node)) q' y0.cost r C ∧ ∃ l, B (M.pl y0.hops y0.node) = some (l, y0.cost) := by
  have hT := (I.item y0 h0).1
  have hle : ∀ y, q' y ≤ q y := fun y => by have := hq y; omega
  obtain ⟨l0, c0, hB, hc⟩ := (I.item y0 h0).2
  have hc2 : c0 = y0.cost := by
    obtain ⟨y, h1, h2, h3⟩ := I.cover _ _ _ hB hD hp
    have := hl y h1
    omega
  subst hc2
  refine ⟨⟨I.valid, fun p h => ?_, fun y hy => ?_, fun p l c h hD' ho => ?_, fun p i hC => ?_, I.start⟩, l0, hB⟩
  · rcases updD_true h with e | h
    · subst e
      exact ⟨l0, _, hB, Int.le_refl _⟩
    · obtain ⟨l, c, h1, h2⟩ := I.done p h
      exact ⟨l, c, h1, by omega⟩
  · have h1 : 0 < q y := Nat.lt_of_lt_of_le hy (hle y)
    exact ⟨hl y h1, (I.item y h1).2⟩
  · have hne : p ≠ M.pl y0.hops y0.node := fun e => by rw [e, updD_same] at hD'; cases hD'
    rw [updD_other _ hne] at hD'
    obtain ⟨y, h1, h2, h3⟩ := I.cover p l c h hD' ho
    refine ⟨y, ?_, h2, h3⟩
    have h4 := hq y
    rw [if_neg (fun e => hne (by rw [← h3, e]))] at h4
    omega
  · obtain ⟨h1, h2⟩ := I.closed p i hC
    exact ⟨updD_keep _ h1, h2⟩
/-- One link more has been followed from a settled place. -/
theorem Keeps.follow (I : Keeps M ok m x fr B D q T r C) {p : P} {i : Nat} {l : List Int} {c : Int} (hD : D p = true) (hB : B p = some (l, c)) (h : ∃ k d, B (M.at_ (l ++ [(x i).dst]) (x i).dst) = some (k, d) ∧ ¬ Bet (c + (x i).metric) (l ++ [(x i).dst]) d k) :
    Keeps M ok m x fr B D q T r (fun p' i' => C p' i' ∨ (p' = p ∧ i' = i)) :=
  ⟨I.valid, I.done, I.item, I.cover, fun p' i' hC => by
    rcases hC with hC | ⟨rfl, rfl⟩
    · exact I.closed p' i' hC
    · exact ⟨hD, l, c, hB, h⟩, I.start⟩
theorem Keeps.weak (I : Keeps M ok m x fr B D q T r C) {C' : P → Nat → Prop} (h : ∀ p i, C' p i → C p i) : Keeps M ok m x fr B D q T r C' :=
  ⟨I.valid, I.done, I.item, I.cover, fun p i hC => I.closed p i (h p i hC), I.start⟩
end
/-- All links of settled places have been followed, but those of the places X; over those that sk tells nobody goes. -/
def Full {P : Type} (m : Nat) (x : Nat → Lnk) (fr : Int) (sk : List Int → Int → Prop) (B : (P → Option (List Int × Int))) (D : P → Bool) (C : P → Nat → Prop) (X : P → Prop) : Prop :=
  ∀ p l v c, ¬ X p → D p = true → B p = some (l, c) → Way m x fr l v c → ∀ i, i < m → (x i).src = v → ¬ sk l (x i).dst → C p i

/-! ### The end of the search -/
section
variable {m : Nat} {x : Nat → Lnk} {fr : Int} {l : List Int} {v c : Int}
theorem Way.last (h : Way m x fr l v c) : ∃ k, l = k ++ [v] := by
  cases h with
  | start => exact ⟨[], rfl⟩
  | go i h1 h2 h3 => exact ⟨_, rfl⟩
theorem Way.uniq (h : Way m x fr l v c) {v' c' : Int} (h' : Way m x fr l v' c') : v = v' := by
  obtain ⟨k, e⟩ := h.last
  obtain ⟨k', e'⟩ := h'.last
  rw [e] at e'
  have := congrArg List.getLast? e'
  simpa using this
theorem Way.range {n : Int} (hN : ∀ i, i < m → (x i).May n) (hf : 0 ≤ fr ∧ fr < n) (h : Way m x fr l v c) : (∀ y ∈ l, 0 ≤ y ∧ y < n) ∧ 0 ≤ c := by
  induction h with
  | start => exact ⟨fun y hy => by rw [List.mem_singleton.1 hy]; exact hf, Int.le_refl _⟩
  | go i h1 h2 h3 ih =>
    refine ⟨fun y hy => ?_, ?_⟩
    · rcases List.mem_append.1 hy with hy | hy
      · exact ih.1 y hy
      · rw [List.mem_singleton.1 hy]
        exact ⟨(hN i h2).d0, (hN i h2).d1⟩
    · have := (hN i h2).m0
      omega
theorem Way.prefix_ (hN : ∀ i, i < m → 1 ≤ (x i).metric) (h : Way m x fr l v c) {y : Int} (hy : y ∈ l) : ∃ k d, Way m x fr k y d ∧ d ≤ c := by
  induction h with
  | start =>
    rw [List.mem_singleton.1 hy]
    exact ⟨_, _, .start, Int.le_refl _⟩
  | go i h1 h2 h3 ih =>
    have h4 := hN i h2
    rcases List.mem_append.1 hy with hy | hy
    · obtain ⟨k, d, h5, h6⟩ := ih hy
      exact ⟨k, d, h5, by omega⟩
    · rw [List.mem_singleton.1 hy]
      exact ⟨_, _, .go i h1 h2 h3, Int.le_refl _⟩
/-- The least way to each node. -/
structure Best (m : Nat) (x : Nat → Lnk) (fr : Int) (E : Int → Option (List Int × Int)) : Prop where
  way : ∀ v l c, E v = some (l, c) → Way m x fr l v c
  least : ∀ v l c, Way m x fr l v c → ∃ k d, E v = some (k, d) ∧ ¬ Bet c l d k
variable {E : Int → Option (List Int × Int)}
theorem bet_le_app {d : Int} {k : List Int} (h : ¬ Bet c l d k) (w y : Int) : ¬ Bet (c + w) (l ++ [y]) (d + w) (k ++ [y]) := fun h1 => by
  by_cases h2 : Bet d k c l
  · exact (h2.app w y).asymm h1
  · obtain ⟨rfl, rfl⟩ := Bet.tri h h2
    exact Bet.irrefl h1
/-- What stands ahead in a least way is least. -/
theorem Best.ahead (hE : Best m x fr E) {u : Int} {i : Nat} (h : E (x i).dst = some (l ++ [(x i).dst], c + (x i).metric)) (hw : Way m x fr l u c) (hi : i < m) (hu : (x i).src = u) : E u = some (l, c) := by
  obtain ⟨k, d, h1, h2⟩ := hE.least u l c hw
  have h3 : ¬ Bet d k c l := fun h3 => by
    obtain ⟨k', d', h4, h5⟩ := hE.least _ _ _ (Way.go i (hE.way u k d h1) hi hu)
    rw [h] at h4
    injection h4 with h4
    injection h4 with h6 h7
    subst h6 h7
    exact h5 (h3.app _ _)
  obtain ⟨rfl, rfl⟩ := Bet.tri h2 h3
  exact h1
theorem Best.nodup (hE : Best m x fr E) (hN : ∀ i, i < m → 1 ≤ (x i).metric) : ∀ (l : List Int) (v c : Int), Way m x fr l v c → E v = some (l, c) → l.Nodup := by
  intro l v c h
  induction h with
  | start => intro _; simp
  | go i h1 h2 h3 ih =>
    intro h
    have h4 := ih (hE.ahead h h1 h2 h3)
    rw [List.nodup_append]
    refine ⟨h4, by simp, fun a ha b hb => ?_⟩
    rw [List.mem_singleton] at hb
    subst hb
    intro e
    subst e
    obtain ⟨k, d, h5, h6⟩ := h1.prefix_ hN ha
    obtain ⟨k', d', h7, h8⟩ := hE.least _ _ _ h5
    rw [h] at h7
    injection h7 with h7
    injection h7 with h9 h10
    have := hN i h2
    exact h8 (Bet.of_cost (by omega))
end
/-- The one search: a place is a node. -/
def M1 : Mach Int := ⟨fun _ v => v, fun n => (n : Int)⟩
/-- The other one: a place is a node that was come to by so many links. -/
def M2 : Mach (Int × Int) := ⟨fun h v => (v, h), fun n => (n : Int) - 1⟩
section
variable {m : Nat} {x : Nat → Lnk} {fr : Int} {T : Int} {r : Nat}
theorem best1 {B : (Int → Option (List Int × Int))} {D : Int → Bool} {C : Int → Nat → Prop} {q : Item → Nat} (I : Keeps M1 (fun _ => True) m x fr B D q T r C) (hF : Full m x fr (fun _ _ => False) B D C (fun _ => False)) (hq : ∀ y, q y = 0) : Best m x fr B := by
  have hD : ∀ p l c, B p = some (l, c) → D p = true := fun p l c h => by
    cases hD : D p with
    | true => rfl
    | false =>
      obtain ⟨y, h1, _⟩ := I.cover p l c h hD trivial
      rw [hq] at h1
      omega
  refine ⟨fun v l c h => ?_, fun v l c h => ?_⟩
  · obtain ⟨⟨u, h1, h2⟩, _⟩ := I.valid v l c h
    rw [show v = u from h2]
    exact h1
  · induction h with
    | start => exact I.start
    | @go l u c i h1 h2 h3 ih =>
      obtain ⟨k, d, h4, h5⟩ := ih
      have hk := hD _ _ _ h4
      obtain ⟨⟨u', h6, h7⟩, _⟩ := I.valid _ _ _ h4
      have h8 : u' = u := h7.symm
      rw [h8] at h6
      obtain ⟨_, k2, d2, h9, k3, d3, h10, h11⟩ := I.closed u i (hF u k u d id hk h4 h6 i h2 h3 id)
      rw [h4] at h9
      injection h9 with h9
      injection h9 with e1 e2
      subst e1 e2
      exact ⟨k3, d3, h10, Bet.le_trans h11 (bet_le_app h5 _ _) |> fun h => h⟩
theorem nodup_len : ∀ (n : Nat) (l : List Int), l.Nodup → (∀ y ∈ l, 0 ≤ y ∧ y < (n : Int)) → l.length ≤ n
  | 0, [], _, _ => Nat.le_refl _
  | 0, a :: l, _, h => by have := h a (List.mem_cons_self ..); omega
  | n + 1, l, h1, h2 => by
    have h3 := nodup_len n (l.erase (n : Int)) (h1.erase _) fun y hy => by
      have h4 := (List.Nodup.mem_erase_iff h1).1 hy
      have h5 := h2 y h4.2
      have h6 := h4.1
      omega
    have h7 := List.length_erase (a := (n : Int)) (l := l)
    split at h7 <;> omega
/-- The other search finds the same. -/
theorem best2 {E : Int → Option (List Int × Int)} (hE : Best m x fr E) {n : Nat} (hN : ∀ i, i < m → (x i).May n) (hf : 0 ≤ fr ∧ fr < (n : Int)) {B : (Int × Int → Option (List Int × Int))} {D : Int × Int → Bool} {C : Int × Int → Nat → Prop} {q : Item → Nat} (I : Keeps M2 (fun p => p.2 < (n : Int) - 1) m x fr B D q T r C)
    (hF : Full m x fr (fun l v => v ∈ l) B D C (fun _ => False)) (hq : ∀ y, q y = 0) : ∀ (l : List Int) (v c : Int), Way m x fr l v c → E v = some (l, c) → B (v, (l.length : Int) - 1) = some (l, c) := by
  have hM : ∀ i, i < m → 1 ≤ (x i).metric := fun i hi => (hN i hi).m0
  have hway : ∀ v h l c, B (v, h) = some (l, c) → Way m x fr l v c ∧ h = (l.length : Int) - 1 := fun v h l c e => by
    obtain ⟨⟨u, h1, h2⟩, _⟩ := I.valid _ _ _ e
    have h3 : (v, h) = (u, (l.length : Int) - 1) := h2
    injection h3 with h4 h5
    subst h4
    exact ⟨h1, h5⟩
  have key : ∀ (l : List Int) (v c : Int), E v = some (l, c) → (∃ k d, B (v, (l.length : Int) - 1) = some (k, d) ∧ ¬ Bet c l d k) → B (v, (l.length : Int) - 1) = some (l, c) := fun l v c h1 ⟨k, d, h2, h3⟩ => by
    obtain ⟨k', d', h4, h5⟩ := hE.least v k d (hway _ _ _ _ h2).1
    rw [h1] at h4
    injection h4 with h4
    injection h4 with e1 e2
    subst e1 e2
    obtain ⟨rfl, rfl⟩ := Bet.tri h3 h5
    exact h2
  intro l v c h
  induction h with
  | start => exact fun h => key _ _ _ h I.start
  | @go l u c i h1 h2 h3 ih =>
    intro h
    have h4 := hE.ahead h h1 h2 h3
    have h5 := ih h4
    have h6 := hE.nodup hM _ _ _ (Way.go i h1 h2 h3) h
    have h7 := nodup_len n _ h6 ((Way.go i h1 h2 h3).range hN hf).1
    rw [List.length_append, List.length_singleton] at h7
    have hok : ((u, (l.length : Int) - 1) : Int × Int).2 < (n : Int) - 1 := by simp only; omega
    have hD : D (u, (l.length : Int) - 1) = true := by
      cases hD : D (u, (l.length : Int) - 1) with
      | true => rfl
      | false =>
        obtain ⟨y, h8, _⟩ := I.cover _ _ _ h5 hD hok
        rw [hq] at h8
        omega
    have hnot : ¬ (x i).dst ∈ l := fun h8 => (List.nodup_append.1 h6).2.2 _ h8 _ (List.mem_singleton.2 rfl) rfl
    obtain ⟨_, k2, d2, h9, k3, d3, h10, h11⟩ := I.closed _ i (hF _ l u c id hD h5 h1 i h2 h3 hnot)
    rw [h5] at h9
    injection h9 with h9
    injection h9 with e1 e2
    subst e1 e2
    refine key _ _ _ h ⟨k3, d3, ?_, h11⟩
    have e3 : M2.at_ (l ++ [(x i).dst]) (x i).dst = ((x i).dst, ((l ++ [(x i).dst]).length : Int) - 1) := rfl
    rw [e3] at h10
    exact h10
open Classical in
noncomputable def better1 (w : List Int × Int) : Option (List Int × Int) → Option (List Int × Int)
  | none => some w
  | some b => if Bet w.2 w.1 b.2 b.1 then some w else some b
/-- The best of the first h. -/
noncomputable def pick (B : (Int × Int → Option (List Int × Int))) (v : Int) : Nat → Option (List Int × Int)
  | 0 => none
  | h + 1 => match B (v, ((h + 1 : Nat) : Int)) with
    | none => pick B v h
    | some w => better1 w (pick B v h)
theorem Way.len {l : List Int} {v c : Int} (h : Way m x fr l v c) : 1 ≤ l.length ∧ (v ≠ fr → 2 ≤ l.length) := by
  cases h with
  | start => exact ⟨by simp, fun h => absurd rfl h⟩
  | go i h1 h2 h3 =>
    obtain ⟨k, rfl⟩ := h1.last
    exact ⟨by simp, fun _ => by simp⟩
theorem pick_some {B : (Int × Int → Option (List Int × Int))} {v : Int} : ∀ {h : Nat} {b : List Int × Int}, pick B v h = some b → ∃ j, j ≤ h ∧ B (v, (j : Int)) = some b
  | 0, _, e => by cases e
  | h + 1, b, e => by
    unfold pick at e
    split at e
    · obtain ⟨j, h1, h2⟩ := pick_some e
      exact ⟨j, by omega, h2⟩
    · rename_i w hw
      unfold better1 at e
      split at e
      · injection e with e
        subst e
        exact ⟨h + 1, Nat.le_refl _, hw⟩
      · rename_i b' hb'
        split at e
        · injection e with e
          subst e
          exact ⟨h + 1, Nat.le_refl _, hw⟩
        · injection e with e
          subst e
          obtain ⟨j, h1, h2⟩ := pick_some hb'
          exact ⟨j, by omega, h2⟩
theorem pick_least {B : (Int × Int → Option (List Int × Int))} {v : Int} {l : List Int} {c : Int} {h0 : Nat} (hB : B (v, (h0 : Int)) = some (l, c)) (h1 : 1 ≤ h0) (hl : ∀ j k d, B (v, (j : Int)) = some (k, d) → ¬ Bet d k c l) : ∀ {h : Nat}, h0 ≤ h → pick B v h = some (l, c)
  | 0, hh => by omega
  | h + 1, hh => by
    unfold pick
    by_cases e : h0 = h + 1
    · subst e
      rw [hB]
      simp only
      cases hp : pick B v h with
      | none => rfl
      | some b =>
        obtain ⟨j, _, h3⟩ := pick_some hp
        have h4 := hl j b.1 b.2 h3
        unfold better1
        simp only
        split
        · rfl
        · rename_i h5
          obtain ⟨h6, h7⟩ := Bet.tri h5 h4
          rw [h6, h7]
    · rw [pick_least hB h1 hl (h := h) (by omega)]
      split
      · rfl
      · rename_i w hw
        unfold better1
        simp only
        rw [if_neg (hl _ w.1 w.2 hw)]
theorem pick_best {v : Int} {E : Int → Option (List Int × Int)} (hE : Best m x fr E) {n : Nat} (hN : ∀ i, i < m → (x i).May n) (hf : 0 ≤ fr ∧ fr < (n : Int)) {B : (Int × Int → Option (List Int × Int))} (hB : ∀ v h l c, B (v, h) = some (l, c) → Way m x fr l v c) (h2 : ∀ (l : List Int) (v c : Int), Way m x fr l v c → E v = some (l, c) → B (v, (l.length : Int) - 1) = some (l, c)) (hv : v ≠ fr) : pick B v (n - 1) = E v := by
  cases h : E v with
  | none =>
    cases hp : pick B v (n - 1) with
    | none => rfl
    | some b =>
      obtain ⟨j, _, h3⟩ := pick_some hp
      obtain ⟨k, d, h4, _⟩ := hE.least _ _ _ (hB v j b.1 b.2 h3)
      rw [h] at h4
      cases h4
  | some b =>
    obtain ⟨l, c⟩ := b
    have hw := hE.way _ _ _ h
    have h3 := hw.len.2 hv
    have h4 := nodup_len n l (hE.nodup (fun i hi => (hN i hi).m0) _ _ _ hw h) (hw.range hN hf).1
    have h5 := h2 l v c hw h
    have e : ((l.length : Int) - 1) = ((l.length - 1 : Nat) : Int) := by omega
    rw [e] at h5
    refine pick_least h5 (by omega) (fun j k d hj => ?_) (by omega)
    obtain ⟨k', d', h6, h7⟩ := hE.least _ _ _ (hB v j k d hj)
    rw [h] at h6
    injection h6 with h6
    injection h6 with e1 e2
    subst e1 e2
    exact h7
end

/-! ### How many links lead from the nodes -/
def sumN (f : Nat → Nat) : Nat → Nat
  | 0 => 0
  | n + 1 => sumN f n + f n
theorem sumN_le {f g : Nat → Nat} : ∀ {n : Nat}, (∀ i, i < n → f i ≤ g i) → sumN f n ≤ sumN g n
  | 0, _ => Nat.le_refl _
  | n + 1, h => by
    have h1 := sumN_le (n := n) fun i hi => h i (by omega)
    have h2 := h n (by omega)
    simp only [sumN]
    omega
theorem sumN_one {f g : Nat → Nat} {k : Nat} : ∀ {n : Nat}, (∀ i, i ≠ k → f i = g i) → k < n → sumN f n + g k = sumN g n + f k
  | 0, _, h => by omega
  | n + 1, h, hk => by
    simp only [sumN]
    by_cases e : k = n
    · subst e
      have : ∀ j, j ≤ k → sumN f j = sumN g j := fun j => by
        induction j with
        | zero => intro _; rfl
        | succ j ih =>
          intro hj
          simp only [sumN]
          rw [ih (by omega), h j (by omega)]
      rw [this k (Nat.le_refl _)]
      omega
    · have h1 := sumN_one (n := n) h (by omega)
      have h2 := h n (fun e' => e e'.symm)
      omega
theorem sumN_const (c : Nat) : ∀ n, sumN (fun _ => c) n = n * c
  | 0 => by simp [sumN]
  | n + 1 => by
    simp only [sumN]
    rw [sumN_const c n, Nat.succ_mul]
theorem sumN_add {f g : Nat → Nat} : ∀ n, sumN (fun i => f i + g i) n = sumN f n + sumN g n
  | 0 => rfl
  | n + 1 => by
    simp only [sumN]
    rw [sumN_add n]
    omega
theorem sumN_ind (v : Int) : ∀ n, sumN (fun i => if v = (i : Int) then 1 else 0) n ≤ 1
  | 0 => by simp [sumN]
  | n + 1 => by
    simp only [sumN]
    have h := sumN_ind v n
    by_cases e : v = (n : Int)
    · rw [if_pos e]
      have : ∀ j, j ≤ n → sumN (fun i => if v = (i : Int) then 1 else 0) j = 0 := fun j => by
        induction j with
        | zero => intro _; rfl
        | succ j ih =>
          intro hj
          simp only [sumN]
          rw [ih (by omega), if_neg (by omega)]
      rw [this n (Nat.le_refl _)]
      omega
    · rw [if_neg e]
      omega
theorem outs_sum (x : Nat → Lnk) (n : Nat) : ∀ m, sumN (fun v => (outL x (v : Int) m).length) n ≤ m
  | 0 => by
    have : ∀ j, sumN (fun v => (outL x (v : Int) 0).length) j = 0 := fun j => by
      induction j with
      | zero => rfl
      | succ j ih => simp only [sumN]; rw [ih]; rfl
    rw [this n]
    omega
  | m + 1 => by
    have e : (fun v : Nat => (outL x (v : Int) (m + 1)).length) = fun v : Nat => (outL x (v : Int) m).length + if (x m).src = (v : Int) then 1 else 0 := funext fun v => by
      rw [outL.eq_def]
      simp only
      split
      · rw [List.length_append, List.length_singleton]
      · rfl
    rw [e, sumN_add]
    have h1 := outs_sum x n m
    have h2 := sumN_ind (x m).src n
    omega
/-- What may still be queued: the links of the nodes that are not settled. -/
def pot1 (x : Nat → Lnk) (m n : Nat) (D : Int → Bool) : Nat := sumN (fun v => if D (v : Int) = true then 0 else (outL x (v : Int) m).length) n
theorem pot1_le (x : Nat → Lnk) (m n : Nat) (D : Int → Bool) : pot1 x m n D ≤ m :=
  Nat.le_trans (sumN_le fun i _ => by split <;> omega) (outs_sum x n m)
theorem pot1_settle (x : Nat → Lnk) (m n : Nat) (D : Int → Bool) {v : Nat} (hv : v < n) (hD : D (v : Int) = false) : pot1 x m n (updD D (v : Int)) + (outL x (v : Int) m).length = pot1 x m n D := by
  have h := sumN_one (f := fun u : Nat => if updD D (v : Int) (u : Int) = true then 0 else (outL x (u : Int) m).length) (g := fun u : Nat => if D (u : Int) = true then 0 else (outL x (u : Int) m).length) (k := v) (n := n) (fun i hi => by
    rw [updD_other D (fun e => hi (by omega))]) hv
  simp only [updD_same, hD, if_true, Bool.false_eq_true, if_false] at h
  unfold pot1
  omega
def pot2 (x : Nat → Lnk) (m n : Nat) (D : Int × Int → Bool) : Nat := sumN (fun v => sumN (fun h => if D ((v : Int), (h : Int)) = true then 0 else (outL x (v : Int) m).length) (n - 1)) n
theorem sumN_mul (f : Nat → Nat) (c : Nat) : ∀ n, sumN (fun i => c * f i) n = c * sumN f n
  | 0 => by simp [sumN]
  | n + 1 => by
    simp only [sumN]
    rw [sumN_mul f c n, Nat.mul_add]
theorem pot2_le (x : Nat → Lnk) (m n : Nat) (D : Int × Int → Bool) : pot2 x m n D ≤ (n - 1) * m := by
  have h1 : pot2 x m n D ≤ sumN (fun v => (n - 1) * (outL x (v : Int) m).length) n := sumN_le fun i _ => by
    have h2 : sumN (fun h => if D ((i : Int), (h : Int)) = true then 0 else (outL x (i : Int) m).length) (n - 1) ≤ sumN (fun _ => (outL x (i : Int) m).length) (n - 1) := sumN_le fun j _ => by split <;> omega
    rw [sumN_const] at h2
    exact h2
  rw [sumN_mul] at h1
  exact Nat.le_trans h1 (Nat.mul_le_mul_left _ (outs_sum x n m))
theorem pot2_settle (x : Nat → Lnk) (m n : Nat) (D : Int × Int → Bool) {v h : Nat} (hv : v < n) (hh : h < n - 1) (hD : D ((v : Int), (h : Int)) = false) : pot2 x m n (updD D ((v : Int), (h : Int))) + (outL x (v : Int) m).length = pot2 x m n D := by
  have h1 := sumN_one (f := fun u : Nat => if updD D ((v : Int), (h : Int)) ((v : Int), (u : Int)) = true then 0 else (outL x (v : Int) m).length) (g := fun u : Nat => if D ((v : Int), (u : Int)) = true then 0 else (outL x (v : Int) m).length) (k := h) (n := n - 1) (fun i hi => by
    rw [updD_other D (fun e => hi (by injection e with _ e; omega))]) hh
  simp only [updD_same, hD, if_true, Bool.false_eq_true, if_false] at h1
  have h2 := sumN_one (f := fun u : Nat => sumN (fun j : Nat => if updD D ((v : Int), (h : Int)) ((u : Int), (j : Int)) = true then 0 else (outL x (u : Int) m).length) (n - 1)) (g := fun u : Nat => sumN (fun j : Nat => if D ((u : Int), (j : Int)) = true then 0 else (outL x (u : Int) m).length) (n - 1)) (k := v) (n := n) (fun i hi => by
    have : ∀ j : Nat, updD D ((v : Int), (h : Int)) ((i : Int), (j : Int)) = D ((i : Int), (j : Int)) := fun j => updD_other D (fun e => hi (by injection e with e _; omega))
    simp only [this]) hv
  unfold pot2
  omega
/-- From one node there lead at most 16 links. -/
theorem outL_nodup (x : Nat → Lnk) (v : Int) : ∀ m, (∀ i j, i < j → j < m → ¬ (x i).Like (x j)) → ((outL x v m).map fun i => (x i).dst).Nodup
  | 0, _ => by simp [outL]
  | m + 1, h => by
    have ih := outL_nodup x v m fun i j h1 h2 => h i j h1 (by omega)
    unfold outL
    split
    · rename_i hv
      rw [List.map_append, List.nodup_append]
      refine ⟨ih, by simp, fun a ha b hb e => ?_⟩
      obtain ⟨i, h1, rfl⟩ := List.mem_map.1 ha
      obtain ⟨j, h2, rfl⟩ := List.mem_map.1 hb
      rw [List.mem_singleton] at h2
      subst h2
      have h3 := outL_mem.1 h1
      exact h i j h3.1 (by omega) ⟨by rw [h3.2, hv], e⟩
    · exact ih
theorem Net.outs {n : Int} {m : Nat} {x : Nat → Lnk} (h : Net n m x) (v : Int) : (outL x v m).length < 20 := by
  have h1 := nodup_len n.toNat _ (outL_nodup x v m h.apart) fun y hy => by
    obtain ⟨i, h2, rfl⟩ := List.mem_map.1 hy
    have h3 := h.may i (outL_mem.1 h2).1
    have := h3.d0
    have := h3.d1
    have := h.n0
    omega
  rw [List.length_map] at h1
  have := h.n1
  omega
end Go.Proofs.Yteaipeejhippiaa
