/- A heap in plain numbers: up, down, the least; how often each item waits. -/
import Derived.Test.YteaipeejhippiaaQSwap
namespace Go.Proofs.Yteaipeejhippiaa

def par (k : Nat) : Nat := (k - 1) / 2
def Heap (d : Nat → Item) (n : Nat) : Prop := ∀ k, 0 < k → k < n → ¬ Less (d k) (d (par k))
structure UpInv (d : Nat → Item) (n j : Nat) : Prop where
  all : ∀ k, 0 < k → k < n → k ≠ j → ¬ Less (d k) (d (par k))
  over : ∀ k, 0 < k → k < n → par k = j → 0 < j → ¬ Less (d k) (d (par j))
structure DownInv (d : Nat → Item) (n i : Nat) : Prop where
  all : ∀ k, 0 < k → k < n → par k ≠ i → ¬ Less (d k) (d (par k))
  over : ∀ k, 0 < k → k < n → par k = i → 0 < i → ¬ Less (d k) (d (par i))
theorem sw_i {d : Nat → Item} {i j : Nat} : sw d i j i = d j := by
  unfold sw upd
  by_cases h : i = j
  · subst h; simp
  · simp [h]
theorem sw_j {d : Nat → Item} {i j : Nat} : sw d i j j = d i := by simp [sw, upd]
theorem sw_o {d : Nat → Item} {i j k : Nat} (h1 : k ≠ i) (h2 : k ≠ j) : sw d i j k = d k := by simp [sw, upd, h1, h2]
theorem not_less_trans {a b c : Item} (h : ¬ Less a b) (k : ¬ Less b c) : ¬ Less a c := by unfold Less at *; omega

theorem up_stop {d : Nat → Item} {n j : Nat} (I : UpInv d n j) (h : j = 0 ∨ ¬ Less (d j) (d (par j))) : Heap d n := by
  intro k h0 hn
  by_cases e : k = j
  · subst e
    rcases h with h | h
    · omega
    · exact h
  · exact I.all k h0 hn e
theorem up_go {d : Nat → Item} {n j : Nat} (I : UpInv d n j) (h0 : 0 < j) (hn : j < n) (h : Less (d j) (d (par j))) : UpInv (sw d (par j) j) n (par j) := by
  have hp : par j < j := by unfold par; omega
  have nl : ∀ k, 0 < k → k < n → par k = j → ¬ Less (d k) (d (par j)) := fun k a b c => I.over k a b c h0
  constructor
  · intro k k0 kn ke
    by_cases e1 : k = j
    · subst e1
      rw [sw_j, sw_i]
      exact h.asymm
    · rw [sw_o ke e1]
      by_cases e2 : par k = par j
      · rw [e2, sw_i]
        have := I.all k k0 kn e1
        rw [e2] at this
        exact fun hl => this (hl.trans h)
      · by_cases e3 : par k = j
        · rw [e3, sw_j]
          exact nl k k0 kn e3
        · rw [sw_o e2 e3]
          exact I.all k k0 kn e1
  · intro k k0 kn hk hpos
    have hpp : par (par j) < par j := by unfold par at *; omega
    rw [sw_o (k := par (par j)) (by omega) (by omega)]
    have h1 := I.all (par j) hpos (by omega) (by omega)
    by_cases e1 : k = j
    · subst e1
      rw [sw_j]
      exact h1
    · by_cases e2 : k = par j
      · subst e2
        omega
      · rw [sw_o e2 e1]
        have h2 := I.all k k0 kn e1
        rw [hk] at h2
        exact not_less_trans h2 h1
theorem up_start {d : Nat → Item} {n : Nat} (h : Heap d n) : UpInv d (n + 1) n := by
  constructor
  · intro k k0 kn ke
    exact h k k0 (by omega)
  · intro k k0 kn hk
    unfold par at hk
    omega

/-- The least of the children of i, below n. -/
theorem down_stop {d : Nat → Item} {n i : Nat} (I : DownInv d n i) (h : ∀ k, 0 < k → k < n → par k = i → ¬ Less (d k) (d i)) : Heap d n := by
  intro k h0 hn
  by_cases e : par k = i
  · rw [e]
    exact h k h0 hn e
  · exact I.all k h0 hn e
theorem par_child {k i : Nat} (h0 : 0 < k) (h : par k = i) : k = 2 * i + 1 ∨ k = 2 * i + 2 := by unfold par at h; omega
theorem down_go {d : Nat → Item} {n i j : Nat} (I : DownInv d n i) (hj0 : 0 < j) (hjn : j < n) (hp : par j = i) (hl : Less (d j) (d i)) (hmin : ∀ k, 0 < k → k < n → par k = i → ¬ Less (d k) (d j)) : DownInv (sw d i j) n j := by
  have hij : i < j := by unfold par at hp; omega
  constructor
  · intro k k0 kn ke
    by_cases e1 : k = j
    · subst e1
      rw [hp, sw_i, sw_j]
      exact hl.asymm
    · by_cases e2 : k = i
      · subst e2
        have hpk : par k < k := by unfold par; omega
        rw [sw_i, sw_o (by omega) (by omega)]
        exact I.over j hj0 hjn hp k0
      · rw [sw_o e2 e1]
        by_cases e3 : par k = i
        · rw [e3, sw_i]
          exact hmin k k0 kn e3
        · rw [sw_o e3 ke]
          exact I.all k k0 kn e3
  · intro k k0 kn hk hpos
    have hjk : j < k := by unfold par at hk; omega
    rw [hp, sw_i, sw_o (by omega) (by omega)]
    have := I.all k k0 kn (by omega)
    rw [hk] at this
    exact this
theorem heap_least {d : Nat → Item} {n : Nat} (h : Heap d n) : ∀ k, k < n → ¬ Less (d k) (d 0) := by
  intro k
  induction k using Nat.strongRecOn with
  | _ k ih =>
    intro hk
    by_cases e : k = 0
    · subst e
      exact Less.irrefl _
    · have hp : par k < k := by unfold par; omega
      exact not_less_trans (h k (by omega) hk) (ih _ hp (by omega))

/-- How often x is one of the first n. -/
def many (d : Nat → Item) : Nat → Item → Nat
  | 0, _ => 0
  | n + 1, x => many d n x + if d n = x then 1 else 0
theorem many_congr {d e : Nat → Item} {x : Item} : ∀ {n}, (∀ k, k < n → d k = e k) → many d n x = many e n x
  | 0, _ => rfl
  | n + 1, h => by simp only [many]; rw [many_congr (fun k hk => h k (by omega)), h n (by omega)]
theorem many_upd (d : Nat → Item) (i : Nat) (y x : Item) : ∀ n, i < n → many (upd d i y) n x + (if d i = x then 1 else 0) = many d n x + (if y = x then 1 else 0)
  | n + 1, h => by
    simp only [many]
    by_cases e : i = n
    · subst e
      have h1 : many (upd d i y) i x = many d i x := many_congr fun k hk => by simp [upd, show k ≠ i by omega]
      have h2 : upd d i y i = y := by simp [upd]
      rw [h1, h2]
      omega
    · have h1 := many_upd d i y x n (by omega)
      have h2 : upd d i y n = d n := by simp [upd, show n ≠ i by omega]
      rw [h2]
      omega
theorem many_sw (d : Nat → Item) (i j : Nat) (x : Item) (n : Nat) (hi : i < n) (hj : j < n) : many (sw d i j) n x = many d n x := by
  have h1 := many_upd d i (d j) x n hi
  have h2 := many_upd (upd d i (d j)) j (d i) x n hj
  have h3 : upd d i (d j) j = d j := by by_cases e : j = i <;> simp [upd, e]
  rw [h3] at h2
  unfold sw
  omega
theorem many_pos {d : Nat → Item} {x : Item} : ∀ {n}, (0 < many d n x ↔ ∃ k, k < n ∧ d k = x)
  | 0 => by simp [many]
  | n + 1 => by
    simp only [many]
    by_cases e : d n = x
    · simp only [e, ↓reduceIte]
      exact ⟨fun _ => ⟨n, by omega, e⟩, fun _ => by omega⟩
    · simp only [e, ↓reduceIte, Nat.add_zero]
      rw [many_pos]
      exact ⟨fun ⟨k, h1, h2⟩ => ⟨k, by omega, h2⟩, fun ⟨k, h1, h2⟩ => ⟨k, by
        rcases Nat.lt_succ_iff_lt_or_eq.1 h1 with h | rfl
        · exact h
        · exact absurd h2 e, h2⟩⟩
/-- What becomes of a heap of which the least is taken. -/
theorem pop_start {d : Nat → Item} {n : Nat} (h : Heap d (n + 1)) : DownInv (sw d 0 n) n 0 := by
  constructor
  · intro k k0 kn ke
    have hpk : par k < k := by unfold par; omega
    rw [sw_o (by omega) (by omega), sw_o (by omega) (by omega)]
    exact h k k0 (by omega)
  · intro k k0 kn hk h0
    omega
end Go.Proofs.Yteaipeejhippiaa
