/- Bases that were told whatever each know the same when each was told what the other one knows: in plain lists. -/
import Derived.Test.YteaipeejhippiaaFLearn
namespace Go.Proofs.Yteaipeejhippiaa
set_option linter.unusedVariables false

theorem likeB_iff {x y : Adv} : likeB x y = true ↔ x.src = y.src ∧ x.dst = y.dst := by simp [likeB]
theorem place_spec (f : Nat → Adv) (x : Adv) : ∀ n k : Nat, (place f x k n = -1 ∧ ∀ j, k ≤ j → j < k + n → likeB (f j) x = false) ∨ ∃ i, k ≤ i ∧ i < k + n ∧ place f x k n = (i : Int) ∧ likeB (f i) x = true
  | 0, k => .inl ⟨rfl, fun j h1 h2 => by omega⟩
  | n + 1, k => by
    unfold place
    cases hl : likeB (f k) x with
    | true =>
      rw [if_pos rfl]
      exact .inr ⟨k, Nat.le_refl _, by omega, rfl, hl⟩
    | false =>
      rw [if_neg (by simp)]
      rcases place_spec f x n (k + 1) with ⟨h, h2⟩ | ⟨i, h1, h2, h3, h4⟩
      · refine .inl ⟨h, fun j h3 h4 => ?_⟩
        by_cases e : j = k
        · subst e; exact hl
        · exact h2 j (by omega) (by omega)
      · exact .inr ⟨i, by omega, by omega, h3, h4⟩
theorem nth_set (xs : List Adv) (i j : Nat) (a : Adv) (hi : i < xs.length) : nth (xs.set i a) j = if i = j then a else nth xs j := by
  unfold nth
  rw [List.getD_eq_getElem?_getD, List.getD_eq_getElem?_getD]
  by_cases e : i = j
  · subst e
    rw [List.getElem?_set_self hi, if_pos rfl]
    rfl
  · rw [List.getElem?_set_ne e, if_neg e]
/-- The links lie apart. -/
def Apart (m : Nat) (x : Nat → Lnk) : Prop := ∀ i j, i < m → j < m → (x i).Like (x j) → i = j
/-- The base has an advert of each link. -/
structure On (m : Nat) (x : Nat → Lnk) (xs : List Adv) : Prop where
  len : xs.length = m
  like : ∀ i, i < m → (nth xs i).src = (x i).src ∧ (nth xs i).dst = (x i).dst
theorem app_at {m : Nat} {x : Nat → Lnk} {xs : List Adv} (h : On m x xs) (hx : Apart m x) (a : Adv) (i : Nat) (hi : i < m) : nth (app xs a) i = if mayB a = true ∧ likeB (nth xs i) a = true ∧ (nth xs i).seq < a.seq then a else nth xs i := by
  unfold app
  rcases place_spec (nth xs) a xs.length 0 with ⟨h1, h2⟩ | ⟨k, _, hk, h3, h4⟩
  · rw [h1, if_neg (by omega), if_neg (by rw [h2 i (by omega) (by have := h.len; omega)]; simp)]
  · rw [Nat.zero_add, h.len] at hk
    rw [h3]
    simp only [Int.toNat_natCast]
    by_cases e : k = i
    · subst e
      by_cases hc : mayB a = true ∧ (nth xs k).seq < a.seq
      · rw [if_pos ⟨hc.1, by omega, hc.2⟩, if_pos ⟨hc.1, h4, hc.2⟩, nth_set _ _ _ _ (by have := h.len; omega), if_pos rfl]
      · rw [if_neg (fun h => hc ⟨h.1, h.2.2⟩), if_neg (fun h => hc ⟨h.1, h.2.2⟩)]
    · have hni : likeB (nth xs i) a = false := by
        cases hl : likeB (nth xs i) a with
        | false => rfl
        | true =>
          have q1 := likeB_iff.1 h4
          have q2 := likeB_iff.1 hl
          have q3 := h.like k hk
          have q4 := h.like i hi
          exact absurd (hx k i hk hi ⟨by rw [← q3.1, ← q4.1, q1.1, q2.1], by rw [← q3.2, ← q4.2, q1.2, q2.2]⟩) e
      rw [if_neg (c := mayB a = true ∧ likeB (nth xs i) a = true ∧ _) (by rw [hni]; simp)]
      split
      · rw [nth_set _ _ _ _ (by have := h.len; omega), if_neg e]
      · rfl
theorem On.app {m : Nat} {x : Nat → Lnk} {xs : List Adv} (h : On m x xs) (hx : Apart m x) (a : Adv) : On m x (app xs a) := by
  refine ⟨by rw [app_length]; exact h.len, fun i hi => ?_⟩
  rw [app_at h hx a i hi]
  split
  · rename_i hc
    have q := likeB_iff.1 hc.2.1
    have q2 := h.like i hi
    exact ⟨by rw [← q.1]; exact q2.1, by rw [← q.2]; exact q2.2⟩
  · exact h.like i hi
theorem On.apps {m : Nat} {x : Nat → Lnk} (hx : Apart m x) : ∀ (ys : List Adv) {xs : List Adv}, On m x xs → On m x (apps xs ys)
  | [], _, h => h
  | y :: ys, _, h => On.apps hx ys (h.app hx y)
/-- What a base knows when it was told all that another one of the same links knows. -/
theorem apps_base {m : Nat} {x : Nat → Lnk} {xs ys : List Adv} (h : On m x xs) (k : On m x ys) (hx : Apart m x) (hf : ∀ i, i < m → mayB (nth ys i) = true) : ∀ j, j ≤ m → ∀ i, i < m → nth (apps xs (ys.take j)) i = if i < j ∧ (nth xs i).seq < (nth ys i).seq then nth ys i else nth xs i
  | 0, _, i, hi => by
    rw [if_neg (by omega)]
    rfl
  | j + 1, hj, i, hi => by
    have hk := k.len
    rw [nth_take ys j (by omega), apps_snoc, app_at (On.apps hx (ys.take j) h) hx _ i hi, apps_base h k hx hf j (by omega) i hi]
    by_cases e : i = j
    · subst e
      rw [if_neg (c := i < i ∧ _) (by omega)]
      have hl : likeB (nth xs i) (nth ys i) = true := by
        have q1 := h.like i hi
        have q2 := k.like i hi
        exact likeB_iff.2 ⟨by rw [q1.1, q2.1], by rw [q1.2, q2.2]⟩
      rw [hl, hf i hi]
      by_cases hs : (nth xs i).seq < (nth ys i).seq
      · rw [if_pos ⟨rfl, rfl, hs⟩, if_pos ⟨by omega, hs⟩]
      · rw [if_neg (fun h => hs h.2.2), if_neg (fun h => hs h.2)]
    · have hn : ∀ z : Adv, z.src = (x i).src → z.dst = (x i).dst → likeB z (nth ys j) = false := fun z h1 h2 => by
        cases hl : likeB z (nth ys j) with
        | false => rfl
        | true =>
          have q1 := likeB_iff.1 hl
          have q2 := k.like j (by omega)
          exact absurd (hx i j hi (by omega) ⟨by rw [← h1, q1.1, q2.1], by rw [← h2, q1.2, q2.2]⟩) e
      have hi2 : (i < j + 1 ∧ (nth xs i).seq < (nth ys i).seq) ↔ (i < j ∧ (nth xs i).seq < (nth ys i).seq) := by omega
      rw [if_neg (c := mayB (nth ys j) = true ∧ _)]
      · by_cases hc : i < j ∧ (nth xs i).seq < (nth ys i).seq
        · rw [if_pos hc, if_pos (hi2.2 hc)]
        · rw [if_neg hc, if_neg (fun h => hc (hi2.1 h))]
      · rintro ⟨_, hl, _⟩
        rw [hn _ (by split; exact (k.like i hi).1; exact (h.like i hi).1) (by split; exact (k.like i hi).2; exact (h.like i hi).2)] at hl
        cases hl
theorem apps_all {m : Nat} {x : Nat → Lnk} {xs ys : List Adv} (h : On m x xs) (k : On m x ys) (hx : Apart m x) (hf : ∀ i, i < m → mayB (nth ys i) = true) (i : Nat) (hi : i < m) : nth (apps xs ys) i = if (nth xs i).seq < (nth ys i).seq then nth ys i else nth xs i := by
  have h1 := apps_base h k hx hf m (Nat.le_refl _) i hi
  rw [← k.len, List.take_length, k.len] at h1
  rw [h1]
  by_cases hs : (nth xs i).seq < (nth ys i).seq
  · rw [if_pos ⟨hi, hs⟩, if_pos hs]
  · rw [if_neg (fun h => hs h.2), if_neg hs]
/-- What a base knows is how the link stood first, or was told. -/
structure Knows (m : Nat) (x : Nat → Lnk) (n : Nat) (l : Nat → Adv) (xs : List Adv) : Prop where
  on : On m x xs
  from_ : ∀ i, i < m → nth xs i = first (x i) ∨ ∃ p, p < n ∧ nth xs i = l p ∧ 0 < (l p).seq ∧ (l p).Fine
theorem Knows.seq {m n : Nat} {x : Nat → Lnk} {l : Nat → Adv} {xs : List Adv} (h : Knows m x n l xs) (i : Nat) (hi : i < m) : 0 ≤ (nth xs i).seq := by
  rcases h.from_ i hi with e | ⟨p, _, e, hp, _⟩
  · rw [e]; exact Int.le_refl _
  · rw [e]; omega
theorem Knows.app {m n : Nat} {x : Nat → Lnk} {l : Nat → Adv} {xs : List Adv} (h : Knows m x n l xs) (hx : Apart m x) (p : Nat) (hp : p < n) : Knows m x n l (app xs (l p)) := by
  refine ⟨h.on.app hx _, fun i hi => ?_⟩
  rw [app_at h.on hx _ i hi]
  split
  · rename_i hc
    refine .inr ⟨p, hp, rfl, by have := h.seq i hi; omega, ?_⟩
    have hm := hc.1
    unfold mayB at hm
    simpa using hm
  · exact h.from_ i hi
theorem Knows.mono {m n n' : Nat} {x : Nat → Lnk} {l : Nat → Adv} {xs : List Adv} (h : Knows m x n l xs) (hn : n ≤ n') : Knows m x n' l xs := ⟨h.on, fun i hi => (h.from_ i hi).imp id fun ⟨p, h1, h2⟩ => ⟨p, by omega, h2⟩⟩
theorem first_fine {l : Lnk} (h : l.May 16) : (first l).Fine := ⟨h, by show (0 : Int) ≤ 0; omega, by show (0 : Int) ≤ _; omega, fun k hk => by cases k <;> exact Int.le_refl _⟩
theorem Knows.fine {m n : Nat} {x : Nat → Lnk} {l : Nat → Adv} {xs : List Adv} (h : Knows m x n l xs) (hx : ∀ i, i < m → (x i).May 16) (i : Nat) (hi : i < m) : (nth xs i).Fine := by
  rcases h.from_ i hi with e | ⟨p, _, e, _, hf⟩
  · rw [e]; exact first_fine (hx i hi)
  · rw [e]; exact hf
/-- No two things that are said of one link have one Seq. -/
def Clear (n : Nat) (l : Nat → Adv) : Prop := ∀ p q, p < n → q < p → (l p).src = (l q).src → (l p).dst = (l q).dst → (l p).seq = (l q).seq → advert (l p) = advert (l q)
theorem flood {m n : Nat} {x : Nat → Lnk} {l : Nat → Adv} {xs ys : List Adv} (h : Knows m x n l xs) (k : Knows m x n l ys) (hx : Apart m x) (hm : ∀ i, i < m → (x i).May 16) (hc : Clear n l) (i : Nat) (hi : i < m) : advert (nth (apps xs ys) i) = advert (nth (apps ys (apps xs ys)) i) := by
  have h1 := apps_all h.on k.on hx (fun i hi => mayB_yes (k.fine hm i hi))
  have hon := On.apps hx ys h.on
  have hf : ∀ i, i < m → mayB (nth (apps xs ys) i) = true := fun i hi => mayB_yes (by
    rw [h1 i hi]
    split
    · exact k.fine hm i hi
    · exact h.fine hm i hi)
  have h2 := apps_all k.on hon hx hf i hi
  rw [h2, h1 i hi]
  by_cases hs : (nth xs i).seq < (nth ys i).seq
  · rw [if_pos hs, if_neg (by omega)]
  · rw [if_neg hs]
    by_cases hs2 : (nth ys i).seq < (nth xs i).seq
    · rw [if_pos hs2]
    · rw [if_neg hs2]
      have he : (nth xs i).seq = (nth ys i).seq := by omega
      have hl1 := h.on.like i hi
      have hl2 := k.on.like i hi
      rcases h.from_ i hi with e1 | ⟨p, hp, e1, hp0, _⟩ <;> rcases k.from_ i hi with e2 | ⟨q, hq, e2, hq0, _⟩
      · rw [e1, e2]
      · rw [e1, e2] at he
        have : (first (x i)).seq = 0 := rfl
        omega
      · rw [e1, e2] at he
        have : (first (x i)).seq = 0 := rfl
        omega
      · rw [e1] at hl1 he ⊢
        rw [e2] at hl2 he ⊢
        rcases Nat.lt_trichotomy p q with hpq | rfl | hpq
        · exact (hc q p hq hpq (by rw [hl1.1, hl2.1]) (by rw [hl1.2, hl2.2]) he.symm).symm
        · rfl
        · exact hc p q hp hpq (by rw [hl1.1, hl2.1]) (by rw [hl1.2, hl2.2]) he
end Go.Proofs.Yteaipeejhippiaa
