/- The layered search settles a place, and goes on from it: settle. -/
import Derived.Test.YteaipeejhippiaaPOffL
namespace Go.Proofs.Yteaipeejhippiaa
open Go.RowKit Go.ChangeMaps Go.MapKept
open Go.Maps (Keyed)
attribute [local go_sem] cell_set_self
set_option linter.unusedVariables false

/-- Places that are gone on from. -/
def okP (n : Nat) : Int × Int → Prop := fun p => p.2 < (n : Int) - 1
/-- Nobody comes to a node twice. -/
def skP : List Int → Int → Prop := fun l v => v ∈ l
theorem hasB_iff (l : List Int) (v : Int) : hasB (nth l) v l.length = true ↔ v ∈ l := by
  unfold hasB
  rw [decide_eq_true_iff]
  constructor
  · rintro ⟨j, h1, h2⟩
    rw [← h2, nth, List.getD_eq_getElem?_getD, List.getElem?_eq_getElem h1]
    exact List.getElem_mem h1
  · intro h
    obtain ⟨j, h1, h2⟩ := List.getElem_of_mem h
    exact ⟨j, h1, by rw [nth, List.getD_eq_getElem?_getD, List.getElem?_eq_getElem h1]; exact h2⟩
theorem at2 (l : List Int) (v u : Int) : M2.at_ (l ++ [v]) u = (u, (l.length : Int)) := by
  show (u, (((l ++ [v]).length : Nat) : Int) - 1) = _
  rw [List.length_append, List.length_singleton]
  congr 1
  omega
/-- One link is followed, in the plain law. -/
theorem lay_step {n m : Nat} {x : Nat → Lnk} {fr : Int} {B B' : (Int × Int → Option (List Int × Int))} {D : Int × Int → Bool} {q q' : Item → Nat} {T : Int} {r : Nat} {C : Int × Int → Nat → Prop} (I : Keeps M2 (okP n) m x fr B D q T r C) {p : Int × Int} {v : Int} {j : Nat} {l : List Int} (hD : D p = true) (hB : B p = some (l, T)) (hw : Way m x fr l v T) (hj : j < m) (hs : (x j).src = v) (hm : 1 ≤ (x j).metric) (hc : T + (x j).metric ≤ 65535 * (r : Int)) (hl : l.length + 1 ≤ r + 1)
    (ho : (B' = B ∧ (∀ z, q' z = q z) ∧ ∃ l' c', B ((x j).dst, (l.length : Int)) = some (l', c') ∧ ¬ Bet (T + (x j).metric) (l ++ [(x j).dst]) c' l') ∨
      (B' = updT B ((x j).dst, (l.length : Int)) (l ++ [(x j).dst], T + (x j).metric) ∧ (∀ l' c', B ((x j).dst, (l.length : Int)) = some (l', c') → Bet (T + (x j).metric) (l ++ [(x j).dst]) c' l') ∧ ∀ z, q' z = q z + if (⟨T + (x j).metric, (l.length : Int), (x j).dst⟩ : Item) = z then 1 else 0)) :
    Keeps M2 (okP n) m x fr B' D q' T r (fun p' i' => C p' i' ∨ (p' = p ∧ i' = j)) ∧ ∀ p, D p = true → B' p = B p := by
  have hT : T < T + (x j).metric := by omega
  have ea := at2 l (x j).dst (x j).dst
  have eh : M2.hl (l ++ [(x j).dst]).length = (l.length : Int) := by
    show (((l ++ [(x j).dst]).length : Nat) : Int) - 1 = _
    rw [List.length_append, List.length_singleton]
    omega
  rcases ho with ⟨rfl, hq, k, d, h1, h2⟩ | ⟨rfl, hb, hq⟩
  · exact ⟨(I.count hq).follow hD hB ⟨k, d, by rw [ea]; exact h1, h2⟩, fun _ _ => rfl⟩
  · obtain ⟨h1, h2⟩ := I.offer (q' := q') (Way.go j hw hj hs) hT hc (by rw [List.length_append, List.length_singleton]; exact hl) (fun k d h => hb k d (by rw [ea] at h; exact h)) (fun z => by rw [eh]; exact hq z)
    rw [ea] at h1 h2
    have hne : ∀ p, D p = true → p ≠ ((x j).dst, (l.length : Int)) := fun p hp e => by
      rw [e, h1] at hp
      cases hp
    refine ⟨h2.follow hD (by rw [updT_other _ _ (hne p hD)]; exact hB) ⟨_, _, by rw [ea]; exact updT_same _ _ _, Bet.irrefl⟩, fun p hp => updT_other _ _ (hne p hp)⟩
def LSettlePost (w : World) (base S Mb Md Q : Nat) (A : Option Addr) (m c : Nat) (x : Nat → Lnk) (n : Nat) (fr : Int) (D : Int × Int → Bool) (qv : Value) (k i h : Nat) (T : Int) (r : Nat) (e : Ending) (w' : World) : Prop :=
  e = .returned (.tuple #[]) ∧ ∃ B' qv' k' d' C', Lay w' base S Mb Md Q A m c x n B' (updD D ((i : Int), (h : Int))) qv' k' d' ∧ Keeps M2 (okP n) m x fr B' (updD D ((i : Int), (h : Int))) (many d' k') T (r + 1) C' ∧ Full m x fr skP B' (updD D ((i : Int), (h : Int))) C' (fun _ => False) ∧ k' ≤ k + (outL x (i : Int) m).length ∧
    Fx w w' (fun j => j = Mb ∨ j = Md ∨ j = Q ∨ some j = qv.ownBlock) ∧ (∀ g, qv'.ownBlock = some g → qv.ownBlock = some g ∨ w.heap.size ≤ g)
structure LLoop (w w3 wr : World) (base S Mb Md Q : Nat) (A : Option Addr) (m c : Nat) (x : Nat → Lnk) (n : Nat) (fr : Int) (B : (Int × Int → Option (List Int × Int))) (D1 : Int × Int → Bool) (qv : Value) (k i h : Nat) (T : Int) (l : List Int) (r : Nat) (C : Int × Int → Nat → Prop) (Ao : Option Addr) (cnt : Nat) (dd : Nat → Int) (b cc p6 t : Nat) (B' : (Int × Int → Option (List Int × Int))) (qv' : Value) (k' : Nat) (d' : Nat → Item) (C' : Int × Int → Nat → Prop) : Prop where
  s : Lay wr base S Mb Md Q A m c x n B' D1 qv' k' d'
  keeps : Keeps M2 (okP n) m x fr B' D1 (many d' k') T (r + 1) C'
  old : ∀ p j, C p j → C' p j
  new : ∀ u, u < t → ∀ j : Nat, dd u = (j : Int) → ¬ (x j).dst ∈ l → C' ((i : Int), (h : Int)) j
  same : ∀ p, D1 p = true → B' p = B p
  le : k' ≤ k + t
  fx : Fx w wr (fun j => j = Mb ∨ j = Md ∨ j = Q ∨ some j = qv.ownBlock)
  own : ∀ g, qv'.ownBlock = some g → qv.ownBlock = some g ∨ w3.heap.size ≤ g
  outs : Strip wr Ao cnt 1 (intRow dd)
  size : w3.heap.size ≤ wr.heap.size
  rt : Rt wr (.slice (some ⟨b, 0, none⟩) l.length cc) l
  box : Row wr p6 #[.slice (some ⟨b, 0, none⟩) l.length cc, .int .i64 T]
section
variable {w w3 wr w9 w10 : World} {base S Mb Md Q : Nat} {A : Option Addr} {m c : Nat} {x : Nat → Lnk} {n : Nat} {fr : Int} {B : (Int × Int → Option (List Int × Int))} {D D1 : Int × Int → Bool} {qv : Value} {k i h : Nat} {T : Int} {r : Nat} {C : Int × Int → Nat → Prop} {Ao : Option Addr} {cnt : Nat} {dd : Nat → Int} {b cc p6 t : Nat} {B' : (Int × Int → Option (List Int × Int))} {qv' : Value} {k' : Nat} {d' : Nat → Item} {C' : Int × Int → Nat → Prop} {j : Nat} {l : List Int} {e : Ending}
theorem LLoop.next (HL : LLoop w w3 wr base S Mb Md Q A m c x n fr B D1 qv k i h T l r C Ao cnt dd b cc p6 t B' qv' k' d' C') (hb : Below wr.heap.size wr w9) (hO : LOfferPost w9 base S Mb Md Q A m c x n B' D1 qv' k' d' (x j).dst l.length (l ++ [(x j).dst]) (T + (x j).metric) e w10) (hj : j < m) (hs : (x j).src = (i : Int)) (hdj : dd t = (j : Int)) (hD : D1 ((i : Int), (h : Int)) = true) (hB : B' ((i : Int), (h : Int)) = some (l, T)) (hw : Way m x fr l (i : Int) T)
    (hm : 1 ≤ (x j).metric) (hc : T + (x j).metric ≤ 65535 * ((r + 1 : Nat) : Int)) (hl : l.length + 1 ≤ r + 1 + 1) (hown : ∀ g, qv.ownBlock = some g → g < w.heap.size) (hAo : ∀ ad, Ao = some ad → w.heap.size ≤ ad.block ∧ ad.block < w3.heap.size) (hp6 : w.heap.size ≤ p6 ∧ p6 < w3.heap.size) (hMl : Mb < w.heap.size) (hQl : Q < w.heap.size) (hw3 : w.heap.size < w3.heap.size) :
    ∃ B'' qv'' k'' d'' C'', LLoop w w3 w10 base S Mb Md Q A m c x n fr B D1 qv k i h T l r C Ao cnt dd b cc p6 (t + 1) B'' qv'' k'' d'' C'' := by
  obtain ⟨_, B'', qv'', k'', d'', o1, o2, o3, o4⟩ := hO
  have st := lay_step (B' := B'') (q' := many d'' k'') HL.keeps hD hB hw hj hs hm hc hl (by
    rcases o4 with ⟨h1, _, h2, h3⟩ | ⟨h1, h2, _, h3⟩
    · exact .inl ⟨h1, h2, h3⟩
    · exact .inr ⟨h1, h2, h3⟩)
  have hkk : k'' ≤ k' + 1 := by
    rcases o4 with ⟨_, h1, _⟩ | ⟨_, _, h1, _⟩ <;> omega
  have hX : ∀ g, w.heap.size ≤ g → g < w3.heap.size → ¬ (g = Mb ∨ g = Q ∨ some g = qv'.ownBlock) := fun g h1 h2 h => by
    rcases h with h | h | h
    · omega
    · omega
    · rcases HL.own _ h.symm with h3 | h3
      · have := hown _ h3
        omega
      · omega
  have hs9 := HL.s.later hb
  refine ⟨B'', qv'', k'', d'', _, ⟨o1, st.1, fun p j' h => .inl (HL.old p j' h), fun u' hu' j' hj' hn => ?_, fun p hp => (st.2 p hp).trans (HL.same p hp), by have := HL.le; omega, (HL.fx.trans (Fx.new hb fun _ => False) fun _ _ h => h.elim).trans o2 fun g hg h => ?_, fun g hg => ?_, (HL.outs.below hb).fx o2 fun ad e' _ => hX _ (hAo ad e').1 (hAo ad e').2, Nat.le_trans HL.size (Nat.le_trans hb.size o2.size), (HL.rt.later hb).fx o2 fun b cs hb h => ?_, (HL.box.later hb).fx o2 (hX _ hp6.1 hp6.2)⟩⟩
  · rcases Nat.lt_or_ge u' t with h | h
    · exact .inl (HL.new u' h j' hj' hn)
    · obtain rfl : u' = t := by omega
      exact .inr ⟨rfl, by omega⟩
  · rcases h with h | h | h
    · exact .inl h
    · exact .inr (.inr (.inl h))
    · rcases HL.own g h.symm with h1 | h1
      · exact .inr (.inr (.inr h1.symm))
      · omega
  · rcases o3 g hg with h | h
    · exact HL.own g h
    · exact .inr (Nat.le_trans HL.size (Nat.le_trans hb.size h))
  · rcases h with h | h | h
    · exact hs9.best.ne_blk hb h
    · exact hb.ne hs9.q.blk (by decide) h
    · exact hs9.q.ne_own hb (by decide) h
theorem LLoop.skip (HL : LLoop w w3 wr base S Mb Md Q A m c x n fr B D1 qv k i h T l r C Ao cnt dd b cc p6 t B' qv' k' d' C') (hb : Below wr.heap.size wr w9) (hdj : dd t = (j : Int)) (hn : (x j).dst ∈ l) : LLoop w w3 w9 base S Mb Md Q A m c x n fr B D1 qv k i h T l r C Ao cnt dd b cc p6 (t + 1) B' qv' k' d' C' :=
  ⟨HL.s.later hb, HL.keeps, HL.old, fun u hu j' hj' hn' => by
    rcases Nat.lt_or_ge u t with h | h
    · exact HL.new u h j' hj' hn'
    · obtain rfl : u = t := by omega
      obtain rfl : j = j' := by omega
      exact absurd hn hn', HL.same, by have := HL.le; omega, (HL.fx.trans (Fx.new hb fun _ => False) fun _ _ h => h.elim), HL.own, HL.outs.below hb, Nat.le_trans HL.size hb.size, HL.rt.later hb, HL.box.later hb⟩
theorem LLoop.end_ (HL : LLoop w w3 wr base S Mb Md Q A m c x n fr B (updD D ((i : Int), (h : Int))) qv k i h T l r C Ao cnt dd b cc p6 cnt B' qv' k' d' C') (hcnt : (outL x (i : Int) m).length = cnt) (hF : Full m x fr skP B D C (fun _ => False)) (hB : B ((i : Int), (h : Int)) = some (l, T)) (h4 : ∀ j : Nat, j < m → (x j).src = (i : Int) → ∃ k, k < cnt ∧ dd k = (j : Int)) (hw3 : w.heap.size < w3.heap.size) :
    LSettlePost w base S Mb Md Q A m c x n fr D qv k i h T r (.returned (.tuple #[])) wr := by
  refine ⟨rfl, B', qv', k', d', C', HL.s, HL.keeps, fun p l' v c' _ hD hp hw j hj hs hsk => ?_, by rw [hcnt]; exact HL.le, HL.fx, fun g hg => (HL.own g hg).imp id fun h => by omega⟩
  by_cases e : p = ((i : Int), (h : Int))
  · subst e
    obtain ⟨⟨v', h1, h2⟩, _⟩ := HL.keeps.valid _ _ _ hp
    have h3 : v = (i : Int) := (hw.uniq h1).trans (by
      have h5 : ((i : Int), (h : Int)) = (v', ((l'.length : Nat) : Int) - 1) := h2
      injection h5 with h5 _
      exact h5.symm)
    rw [HL.same _ (updD_same _ _), hB] at hp
    injection hp with hp
    injection hp with hp _
    obtain ⟨u, h5, h6⟩ := h4 j hj (hs.trans h3)
    exact HL.new u h5 j h6 (fun hn => hsk (by rw [← hp]; exact hn))
  · rw [HL.same p hD] at hp
    rw [updD_other _ e] at hD
    exact HL.old p j (hF p l' v c' id hD hp hw j hj hs hsk)
end
set_option maxRecDepth 100000 in
set_option maxHeartbeats 16000000 in
theorem LSettled_calls (w : World) (base S Mb Md Q : Nat) (A : Option Addr) (m c : Nat) (x : Nat → Lnk) (n : Nat) (B : (Int × Int → Option (List Int × Int))) (D : Int × Int → Bool) (qv : Value) (k : Nat) (d : Nat → Item) (i h : Nat)
    (hy : Lay w base S Mb Md Q A m c x n B D qv k d) (hi : i < 1000) (hh : h < 100000) (hD : D ((i : Int), (h : Int)) = true ∨ ¬ okP n ((i : Int), (h : Int))) : Calls Try.prog 30 #[.pointer (some ⟨S, 0, none⟩), .agg #[.int .i64 (i : Int), .int .i64 (h : Int)]] w fun e w' => e = .returned (.tuple #[]) ∧ Below w.heap.size w w' := by
  have H := Lib.hid hy
  have HKEY := Lib.hid (keyOf94 (show I64 (i : Int) by unfold I64; omega) (show I64 (h : Int) by unfold I64; omega))
  clear hy
  cases hDD : D ((i : Int), (h : Int)) with
  | true =>
    have HD := Lib.hid hDD
    clear hDD hD
    go_enter Try.func30, Try.ntmps30
    go_upto_region 1 with (fail)
    have HX := Lib.hid (Blk.new w 94 #[.int .i64 (i : Int), .int .i64 (h : Int)])
    have HB0 := Lib.hid (show Below w.heap.size w (w.alloc (.cells #[.int .i64 (i : Int), .int .i64 (h : Int)] 94)) from (Below.refl _ _).alloc (Nat.le_refl _) _)
    generalize w.alloc (.cells #[.int .i64 (i : Int), .int .i64 (h : Int)] 94) = W0 at *
    have H0 := Lib.hid (H.out.later HB0.out)
    obtain ⟨xc, xf, xl⟩ := HX.out.row
    obtain ⟨sc, sf, sl⟩ := H0.out.s.row
    obtain ⟨cnt, f, hm, hf⟩ := H0.out.done
    have HM := Lib.hid hm
    have HFF := Lib.hid hf
    have hfk := hf (i : Int) (h : Int)
    rw [HD.out] at hfk
    obtain ⟨_, hfk2, pp, qq, rfl⟩ := hfk
    have HFK := Lib.hid hfk2
    clear hfk2
    clear hm hf
    (refine reg1 [0,0,0,0,0,0,0,0,2,1] 9 4 _ #[.int .i64 0, .int .i64 0] (by kernel_rfl) _ rfl (by kernel_rfl) ?hlen rfl rfl rfl ⟨rfl, fun ρ w => ⟨94, by kernel_rfl⟩⟩ ?hQ ?_; (case hlen => decide); (case hQ => (intro c a o v w h; cases o <;> exact h)); (repeat (first | ((refine p_pure (v := _) ?hw (fun w' hC => look_yes (.tmp 14) (.tmp 15) 80 rfl 94 94 keyed94 Try.underlying80 Md cnt f _ (zero94 w') rfl (HM.out.later hC) (key2 (i : Int) (h : Int)) rfl HKEY.out (.agg #[.int .i64 pp, .int .i64 qq]) HFK.out) ?_); (case hw => rfl); refine p_norm (a' := ?_) ?_ ?_; rotate_left; (simp only [Act.put, List.setIfInBounds_toArray, List.set_cons_zero, List.set_cons_succ]; rfl)) | (with_reducible refine p_fresh ?_) | ((with_reducible refine p_pure (v := ?_) ?hw (fun w' hC => ?hrun) ?_); (case hw => rfl); (case hrun => (obtain ⟨hq1, hq2⟩ := bcell hC; go_simp; with_reducible rfl)); refine p_norm (a' := ?_) ?_ ?_; rotate_left; (simp only [Act.put, List.setIfInBounds_toArray, List.set_cons_zero, List.set_cons_succ]; rfl)) | ((with_reducible refine p_late (v := ?_) ?hw (fun w' => ?hrun) ?_); (case hw => rfl); (case hrun => (go_simp; with_reducible rfl)); refine p_norm (a' := ?_) ?_ ?_; rotate_left; (simp only [Act.put, List.setIfInBounds_toArray, List.set_cons_zero, List.set_cons_succ]; rfl)) | ((with_reducible refine p_skip ?hw ?_); (case hw => rfl); refine p_norm (a' := ?_) ?_ ?_; rotate_left; (simp only [Act.put, List.setIfInBounds_toArray, List.set_cons_zero, List.set_cons_succ]; rfl)) | ((with_reducible refine p_lateskip ?hw ?_); (case hw => rfl); refine p_norm (a' := ?_) ?_ ?_; rotate_left; (simp only [Act.put, List.setIfInBounds_toArray, List.set_cons_zero, List.set_cons_succ]; rfl)) )); with_reducible refine p_nil ?_; intro w1 p1 hb1 hp1 hr1; simp only [List.length_cons, List.length_nil, Nat.reduceAdd, List.drop_succ_cons, List.drop_zero, Act.put, List.setIfInBounds_toArray, List.set_cons_zero, List.set_cons_succ])
    have hp01 : w.heap.size < p1 := Nat.lt_of_lt_of_le HX.out.lt hp1
    have HX1 := Lib.hid (HX.out.later hb1)
    have HB1 := Lib.hid (HB0.out.trans (hb1.mono HB0.out.size))
    clear xc xf xl sc sf sl hb1 hp1
    obtain ⟨qc, qf, ql⟩ := hr1
    go_upto_region 2 with (fail)
    have HW2 := Lib.hid ((HB1.out.setCell (p := ⟨p1, 0, none⟩) (Nat.le_of_lt hp01) (.int .i64 pp)).setCell (p := ⟨p1, 1, none⟩) (Nat.le_of_lt hp01) (.int .i64 qq))
    have HX2 := Lib.hid ((HX1.out.far (p := ⟨p1, 0, none⟩) (by show w.heap.size ≠ p1; omega) (.int .i64 pp)).far (p := ⟨p1, 1, none⟩) (by show w.heap.size ≠ p1; omega) (.int .i64 qq))
    generalize (w1.setCell ⟨p1, 0, none⟩ (.int .i64 pp)).setCell ⟨p1, 1, none⟩ (.int .i64 qq) = W2 at *
    have H2 := Lib.hid (H.out.later HW2.out)
    clear qc qf ql HM HFF HFK
    obtain ⟨xc, xf, xl⟩ := HX2.out.row
    obtain ⟨sc, sf, sl⟩ := H2.out.s.row
    go_quiet (fail)
    have HQ := Lib.hid (below_drewN (Below.refl W2.heap.size W2) nq)
    go_wp2
    exact bodyPost_ret (results_none rfl _ _ _) rfl ⟨rfl, HW2.out.trans (HQ.out.mono HW2.out.size)⟩
  | false =>
    have hge : (n : Int) - 1 ≤ (h : Int) := by
      rcases hD with hD | hD
      · rw [hDD] at hD; cases hD
      · unfold okP at hD; simp only at hD; omega
    have hgd : decide ((n : Int) - 1 ≤ (h : Int)) = true := decide_eq_true hge
    have HD := Lib.hid hDD
    clear hDD hD
    go_enter Try.func30, Try.ntmps30
    go_upto_region 1 with (fail)
    have HX := Lib.hid (Blk.new w 94 #[.int .i64 (i : Int), .int .i64 (h : Int)])
    have HB0 := Lib.hid (show Below w.heap.size w (w.alloc (.cells #[.int .i64 (i : Int), .int .i64 (h : Int)] 94)) from (Below.refl _ _).alloc (Nat.le_refl _) _)
    generalize w.alloc (.cells #[.int .i64 (i : Int), .int .i64 (h : Int)] 94) = W0 at *
    have H0 := Lib.hid (H.out.later HB0.out)
    obtain ⟨xc, xf, xl⟩ := HX.out.row
    obtain ⟨sc, sf, sl⟩ := H0.out.s.row
    obtain ⟨cnt, f, hm, hf⟩ := H0.out.done
    have HM := Lib.hid hm
    have HFF := Lib.hid hf
    have hfk := hf (i : Int) (h : Int)
    rw [HD.out] at hfk
    have HFK := Lib.hid (show f (key2 (i : Int) (h : Int)) = none from hfk)
    clear hm hf hfk
    (refine reg1 [0,0,0,0,0,0,0,0,2,1] 9 4 _ #[.int .i64 0, .int .i64 0] (by kernel_rfl) _ rfl (by kernel_rfl) ?hlen rfl rfl rfl ⟨rfl, fun ρ w => ⟨94, by kernel_rfl⟩⟩ ?hQ ?_; (case hlen => decide); (case hQ => (intro c a o v w h; cases o <;> exact h)); (repeat (first | ((refine p_pure (v := _) ?hw (fun w' hC => look_no (.tmp 14) (.tmp 15) 80 rfl 94 94 keyed94 Try.underlying80 Md cnt f _ (zero94 w') rfl (HM.out.later hC) (key2 (i : Int) (h : Int)) rfl HKEY.out HFK.out) ?_); (case hw => rfl); refine p_norm (a' := ?_) ?_ ?_; rotate_left; (simp only [Act.put, List.setIfInBounds_toArray, List.set_cons_zero, List.set_cons_succ]; rfl)) | (with_reducible refine p_fresh ?_) | ((with_reducible refine p_pure (v := ?_) ?hw (fun w' hC => ?hrun) ?_); (case hw => rfl); (case hrun => (obtain ⟨hq1, hq2⟩ := bcell hC; go_simp; with_reducible rfl)); refine p_norm (a' := ?_) ?_ ?_; rotate_left; (simp only [Act.put, List.setIfInBounds_toArray, List.set_cons_zero, List.set_cons_succ]; rfl)) | ((with_reducible refine p_late (v := ?_) ?hw (fun w' => ?hrun) ?_); (case hw => rfl); (case hrun => (go_simp; with_reducible rfl)); refine p_norm (a' := ?_) ?_ ?_; rotate_left; (simp only [Act.put, List.setIfInBounds_toArray, List.set_cons_zero, List.set_cons_succ]; rfl)) | ((with_reducible refine p_skip ?hw ?_); (case hw => rfl); refine p_norm (a' := ?_) ?_ ?_; rotate_left; (simp only [Act.put, List.setIfInBounds_toArray, List.set_cons_zero, List.set_cons_succ]; rfl)) | ((with_reducible refine p_lateskip ?hw ?_); (case hw => rfl); refine p_norm (a' := ?_) ?_ ?_; rotate_left; (simp only [Act.put, List.setIfInBounds_toArray, List.set_cons_zero, List.set_cons_succ]; rfl)) )); with_reducible refine p_nil ?_; intro w1 p1 hb1 hp1 hr1; simp only [List.length_cons, List.length_nil, Nat.reduceAdd, List.drop_succ_cons, List.drop_zero, Act.put, List.setIfInBounds_toArray, List.set_cons_zero, List.set_cons_succ])
    have hp01 : w.heap.size < p1 := Nat.lt_of_lt_of_le HX.out.lt hp1
    have HX1 := Lib.hid (HX.out.later hb1)
    have HB1 := Lib.hid (HB0.out.trans (hb1.mono HB0.out.size))
    clear xc xf xl sc sf sl hb1 hp1
    obtain ⟨qc, qf, ql⟩ := hr1
    go_upto_region 2 with (fail)
    have HW2 := Lib.hid ((HB1.out.setCell (p := ⟨p1, 0, none⟩) (Nat.le_of_lt hp01) (.int .i64 0)).setCell (p := ⟨p1, 1, none⟩) (Nat.le_of_lt hp01) (.int .i64 0))
    have HX2 := Lib.hid ((HX1.out.far (p := ⟨p1, 0, none⟩) (by show w.heap.size ≠ p1; omega) (.int .i64 0)).far (p := ⟨p1, 1, none⟩) (by show w.heap.size ≠ p1; omega) (.int .i64 0))
    generalize (w1.setCell ⟨p1, 0, none⟩ (.int .i64 0)).setCell ⟨p1, 1, none⟩ (.int .i64 0) = W2 at *
    have H2 := Lib.hid (H.out.later HW2.out)
    clear qc qf ql HM HFF HFK
    obtain ⟨xc, xf, xl⟩ := HX2.out.row
    obtain ⟨sc, sf, sl⟩ := H2.out.s.row
    go_quiet (fail)
    have HQ := Lib.hid (below_drewN (Below.refl W2.heap.size W2) nq)
    go_wp2
    exact bodyPost_ret (results_none rfl _ _ _) rfl ⟨rfl, HW2.out.trans (HQ.out.mono HW2.out.size)⟩
set_option maxRecDepth 100000 in
set_option maxHeartbeats 32000000 in
theorem LSettle_calls (w : World) (base S Mb Md Q : Nat) (A : Option Addr) (m c : Nat) (x : Nat → Lnk) (n : Nat) (fr : Int) (B : (Int × Int → Option (List Int × Int))) (D : Int × Int → Bool) (qv : Value) (k : Nat) (d : Nat → Item) (i h : Nat) (T : Int) (l : List Int) (r : Nat) (C : Int × Int → Nat → Prop)
    (hy : Lay w base S Mb Md Q A m c x n B D qv k d) (N : Net (n : Int) m x) (hi : i < n) (hh : (h : Int) < (n : Int) - 1) (hDD : D ((i : Int), (h : Int)) = false) (hB : B ((i : Int), (h : Int)) = some (l, T)) (hK : Keeps M2 (okP n) m x fr B (updD D ((i : Int), (h : Int))) (many d k) T r C) (hF : Full m x fr skP B D C (fun _ => False)) (hk : k + (outL x (i : Int) m).length ≤ 1024) (hr : r ≤ 1024) (hbase : base ≤ w.heap.size) :
    Calls Try.prog 30 #[.pointer (some ⟨S, 0, none⟩), .agg #[.int .i64 (i : Int), .int .i64 (h : Int)]] w (LSettlePost w base S Mb Md Q A m c x n fr D qv k i h T r) := by
  have H := Lib.hid hy
  have HN := Lib.hid N
  have HK := Lib.hid hK
  have HF := Lib.hid hF
  have HKK := Lib.hid hk
  have HRR := Lib.hid hr
  have HBS := Lib.hid hbase
  have HBB := Lib.hid hB
  have HD := Lib.hid hDD
  have HI := Lib.hid hi
  have hm5 : m ≤ 1000 := by have := N.m1; omega
  have hcn : (outL x (i : Int) m).length < 20 := N.outs _
  have HKEY := Lib.hid (keyOf94 (show I64 (i : Int) by have := N.n1; unfold I64; omega) (show I64 (h : Int) by have := N.n1; unfold I64; omega))
  have hgd : decide ((n : Int) - 1 ≤ (h : Int)) = false := by simp; omega
  clear hy N hK hF hk hr hbase hB hDD hi
  generalize hcnt : (outL x (i : Int) m).length = cnt at *
  have HCNT := Lib.hid hcnt
  clear hcnt
  go_enter Try.func30, Try.ntmps30
  go_upto_region 1 with (fail)
  have HX := Lib.hid (Blk.new w 94 #[.int .i64 (i : Int), .int .i64 (h : Int)])
  have HB0 := Lib.hid (show Below w.heap.size w (w.alloc (.cells #[.int .i64 (i : Int), .int .i64 (h : Int)] 94)) from (Below.refl _ _).alloc (Nat.le_refl _) _)
  generalize w.alloc (.cells #[.int .i64 (i : Int), .int .i64 (h : Int)] 94) = W0 at *
  have H0 := Lib.hid (H.out.later HB0.out)
  obtain ⟨xc, xf, xl⟩ := HX.out.row
  obtain ⟨sc, sf, sl⟩ := H0.out.s.row
  obtain ⟨cntm, f, hm, hf⟩ := H0.out.done
  have HM := Lib.hid hm
  have HFF := Lib.hid hf
  have hfk := hf (i : Int) (h : Int)
  rw [HD.out] at hfk
  have HFK := Lib.hid (show f (key2 (i : Int) (h : Int)) = none from hfk)
  clear hm hf hfk
  (refine reg1 [0,0,0,0,0,0,0,0,2,1] 9 4 _ #[.int .i64 0, .int .i64 0] (by kernel_rfl) _ rfl (by kernel_rfl) ?hlen rfl rfl rfl ⟨rfl, fun ρ w => ⟨94, by kernel_rfl⟩⟩ ?hQ ?_; (case hlen => decide); (case hQ => (intro c a o v w h; cases o <;> exact h)); (repeat (first | ((refine p_pure (v := _) ?hw (fun w' hC => look_no (.tmp 14) (.tmp 15) 80 rfl 94 94 keyed94 Try.underlying80 Md cntm f _ (zero94 w') rfl (HM.out.later hC) (key2 (i : Int) (h : Int)) rfl HKEY.out HFK.out) ?_); (case hw => rfl); refine p_norm (a' := ?_) ?_ ?_; rotate_left; (simp only [Act.put, List.setIfInBounds_toArray, List.set_cons_zero, List.set_cons_succ]; rfl)) | (with_reducible refine p_fresh ?_) | ((with_reducible refine p_pure (v := ?_) ?hw (fun w' hC => ?hrun) ?_); (case hw => rfl); (case hrun => (obtain ⟨hq1, hq2⟩ := bcell hC; go_simp; with_reducible rfl)); refine p_norm (a' := ?_) ?_ ?_; rotate_left; (simp only [Act.put, List.setIfInBounds_toArray, List.set_cons_zero, List.set_cons_succ]; rfl)) | ((with_reducible refine p_late (v := ?_) ?hw (fun w' => ?hrun) ?_); (case hw => rfl); (case hrun => (go_simp; with_reducible rfl)); refine p_norm (a' := ?_) ?_ ?_; rotate_left; (simp only [Act.put, List.setIfInBounds_toArray, List.set_cons_zero, List.set_cons_succ]; rfl)) | ((with_reducible refine p_skip ?hw ?_); (case hw => rfl); refine p_norm (a' := ?_) ?_ ?_; rotate_left; (simp only [Act.put, List.setIfInBounds_toArray, List.set_cons_zero, List.set_cons_succ]; rfl)) | ((with_reducible refine p_lateskip ?hw ?_); (case hw => rfl); refine p_norm (a' := ?_) ?_ ?_; rotate_left; (simp only [Act.put, List.setIfInBounds_toArray, List.set_cons_zero, List.set_cons_succ]; rfl)) )); with_reducible refine p_nil ?_; intro w1 p1 hb1 hp1 hr1; simp only [List.length_cons, List.length_nil, Nat.reduceAdd, List.drop_succ_cons, List.drop_zero, Act.put, List.setIfInBounds_toArray, List.set_cons_zero, List.set_cons_succ])
  have hp01 : w.heap.size < p1 := Nat.lt_of_lt_of_le HX.out.lt hp1
  have HX1 := Lib.hid (HX.out.later hb1)
  have HB1 := Lib.hid (HB0.out.trans (hb1.mono HB0.out.size))
  clear xc xf xl sc sf sl hb1 hp1
  obtain ⟨qc, qf, ql⟩ := hr1
  go_upto_region 2 with (fail)
  have HW2 := Lib.hid ((HB1.out.setCell (p := ⟨p1, 0, none⟩) (Nat.le_of_lt hp01) (.int .i64 0)).setCell (p := ⟨p1, 1, none⟩) (Nat.le_of_lt hp01) (.int .i64 0))
  have HX2 := Lib.hid ((HX1.out.far (p := ⟨p1, 0, none⟩) (by show w.heap.size ≠ p1; omega) (.int .i64 0)).far (p := ⟨p1, 1, none⟩) (by show w.heap.size ≠ p1; omega) (.int .i64 0))
  generalize (w1.setCell ⟨p1, 0, none⟩ (.int .i64 0)).setCell ⟨p1, 1, none⟩ (.int .i64 0) = W2 at *
  have H2 := Lib.hid (H.out.later HW2.out)
  clear qc qf ql HM HFF HFK
  obtain ⟨xc, xf, xl⟩ := HX2.out.row
  obtain ⟨sc, sf, sl⟩ := H2.out.s.row
  go_quiet (fail)
  have HQ := Lib.hid (below_drewN (Below.refl W2.heap.size W2) nq)
  have HW3 := Lib.hid (HW2.out.trans (HQ.out.mono HW2.out.size))
  have HX3 := Lib.hid (HX2.out.later HQ.out)
  have H3 := Lib.hid (H2.out.later HQ.out)
  go_upto_region 3 with (fail)
  generalize W2.drewN nq = W3 at *
  clear xc xf xl sc sf sl HQ
  obtain ⟨xc, xf, xl⟩ := HX3.out.row
  obtain ⟨sc, sf, sl⟩ := H3.out.s.row
  obtain ⟨cnt5, f5, hm5', hf5⟩ := H3.out.done
  have HM5 := Lib.hid hm5'
  have HF5 := Lib.hid hf5
  clear hm5' hf5
  refine seq_reg [0, 1, 2, 3, 4, 5, 6] [0, 0, 0, 0, 0, 0, 2] (by kernel_rfl) _ rfl (by kernel_rfl) ?_
  intro wd hwd hwh; clear hwh
  have HWd := Lib.hid hwd
  clear xc xf xl sc sf sl
  obtain ⟨xc, xf, xl⟩ := (HX3.out.later hwd).row
  obtain ⟨sc, sf, sl⟩ := (H3.out.later hwd).s.row
  (first | ((with_reducible refine s_read (v := ?_) rfl rfl ?hw (fun w' hC => ?hrun) ?_); (case hw => rfl); (case hrun => (obtain ⟨hq1, hq2⟩ := bcell hC; go_simp; with_reducible rfl)); refine s_norm (a' := ?_) ?_ ?_; rotate_left; (simp only [Act.put, List.getElem_toArray, List.getElem_cons_zero, List.setIfInBounds_toArray, List.set_cons_zero, List.set_cons_succ]; rfl)) | ((with_reducible refine s_skip rfl rfl ?hw ?_); (case hw => rfl); refine s_norm (a' := ?_) ?_ ?_; rotate_left; (simp only [Act.put, List.getElem_toArray, List.getElem_cons_zero, List.setIfInBounds_toArray, List.set_cons_zero, List.set_cons_succ]; rfl)))
  (first | ((with_reducible refine s_read (v := ?_) rfl rfl ?hw (fun w' hC => ?hrun) ?_); (case hw => rfl); (case hrun => (obtain ⟨hq1, hq2⟩ := bcell hC; go_simp; with_reducible rfl)); refine s_norm (a' := ?_) ?_ ?_; rotate_left; (simp only [Act.put, List.getElem_toArray, List.getElem_cons_succ, List.getElem_cons_zero, List.setIfInBounds_toArray, List.set_cons_zero, List.set_cons_succ]; rfl)) | ((with_reducible refine s_skip rfl rfl ?hw ?_); (case hw => rfl); refine s_norm (a' := ?_) ?_ ?_; rotate_left; (simp only [Act.put, List.getElem_toArray, List.getElem_cons_succ, List.getElem_cons_zero, List.setIfInBounds_toArray, List.set_cons_zero, List.set_cons_succ]; rfl)))
  (first | ((with_reducible refine s_read (v := ?_) rfl rfl ?hw (fun w' hC => ?hrun) ?_); (case hw => rfl); (case hrun => (obtain ⟨hq1, hq2⟩ := bcell hC; go_simp; with_reducible rfl)); refine s_norm (a' := ?_) ?_ ?_; rotate_left; (simp only [Act.put, List.getElem_toArray, List.getElem_cons_succ, List.getElem_cons_zero, List.setIfInBounds_toArray, List.set_cons_zero, List.set_cons_succ]; rfl)) | ((with_reducible refine s_skip rfl rfl ?hw ?_); (case hw => rfl); refine s_norm (a' := ?_) ?_ ?_; rotate_left; (simp only [Act.put, List.getElem_toArray, List.getElem_cons_succ, List.getElem_cons_zero, List.setIfInBounds_toArray, List.set_cons_zero, List.set_cons_succ]; rfl)))
  (first | ((with_reducible refine s_read (v := ?_) rfl rfl ?hw (fun w' hC => ?hrun) ?_); (case hw => rfl); (case hrun => (obtain ⟨hq1, hq2⟩ := bcell hC; go_simp; with_reducible rfl)); refine s_norm (a' := ?_) ?_ ?_; rotate_left; (simp only [Act.put, List.getElem_toArray, List.getElem_cons_succ, List.getElem_cons_zero, List.setIfInBounds_toArray, List.set_cons_zero, List.set_cons_succ]; rfl)) | ((with_reducible refine s_skip rfl rfl ?hw ?_); (case hw => rfl); refine s_norm (a' := ?_) ?_ ?_; rotate_left; (simp only [Act.put, List.getElem_toArray, List.getElem_cons_succ, List.getElem_cons_zero, List.setIfInBounds_toArray, List.set_cons_zero, List.set_cons_succ]; rfl)))
  (first | ((with_reducible refine s_read (v := ?_) rfl rfl ?hw (fun w' hC => ?hrun) ?_); (case hw => rfl); (case hrun => (obtain ⟨hq1, hq2⟩ := bcell hC; go_simp; with_reducible rfl)); refine s_norm (a' := ?_) ?_ ?_; rotate_left; (simp only [Act.put, List.getElem_toArray, List.getElem_cons_succ, List.getElem_cons_zero, List.setIfInBounds_toArray, List.set_cons_zero, List.set_cons_succ]; rfl)) | ((with_reducible refine s_skip rfl rfl ?hw ?_); (case hw => rfl); refine s_norm (a' := ?_) ?_ ?_; rotate_left; (simp only [Act.put, List.getElem_toArray, List.getElem_cons_succ, List.getElem_cons_zero, List.setIfInBounds_toArray, List.set_cons_zero, List.set_cons_succ]; rfl)))
  (first | ((with_reducible refine s_read (v := ?_) rfl rfl ?hw (fun w' hC => ?hrun) ?_); (case hw => rfl); (case hrun => (obtain ⟨hq1, hq2⟩ := bcell hC; go_simp; with_reducible rfl)); refine s_norm (a' := ?_) ?_ ?_; rotate_left; (simp only [Act.put, List.getElem_toArray, List.getElem_cons_succ, List.getElem_cons_zero, List.setIfInBounds_toArray, List.set_cons_zero, List.set_cons_succ]; rfl)) | ((with_reducible refine s_skip rfl rfl ?hw ?_); (case hw => rfl); refine s_norm (a' := ?_) ?_ ?_; rotate_left; (simp only [Act.put, List.getElem_toArray, List.getElem_cons_succ, List.getElem_cons_zero, List.setIfInBounds_toArray, List.set_cons_zero, List.set_cons_succ]; rfl)))
  (refine s_map rfl rfl rfl rfl (.tmp 32) (.tmp 33) (.tmp 34) 80 rfl 94 94 keyed94 Try.underlying80 Md cnt5 f5 rfl (HM5.out.later hwd) (key2 (i : Int) (h : Int)) (.agg #[.int .i64 (i : Int), .int .i64 (h : Int)]) rfl rfl HKEY.out ?_; intro w4 hmap4 hgr4)
  refine s_nil ?_
  have H4 := Lib.hid ((H3.out.later HWd.out).mark (hh := (h : Int)) (v := (i : Int)) (p := (i : Int)) (q := (h : Int)) HF5.out hmap4 hgr4)
  have hfx4 := Fx.grown hgr4
  have HX4 := Lib.hid ((HX3.out.later HWd.out).fx hfx4 ((H3.out.later HWd.out).done.ne_blk (HX3.out.later HWd.out)))
  have HF4 := Lib.hid ((Fx.new (HW3.out.trans (HWd.out.mono HW3.out.size)) (fun j => j = Md)).trans hfx4 (fun _ _ e => e))
  have HS4 := Lib.hid (show w.heap.size < w4.heap.size from Nat.lt_of_lt_of_le HX3.out.lt (Nat.le_trans HWd.out.size hfx4.size))
  clear hmap4 hgr4 hfx4 xc xf xl sc sf sl hwd
  obtain ⟨xc, xf, xl⟩ := HX4.out.row
  obtain ⟨sc, sf, sl⟩ := H4.out.s.row
  obtain ⟨cnt6, f6, hm6, hf6⟩ := H4.out.best
  have hfk6 := hf6 (i : Int) (h : Int)
  rw [HBB.out] at hfk6
  obtain ⟨sv, hfk7, hrt4⟩ := hfk6
  obtain ⟨b, cc, cs, rfl, hlc, hb4, hcs4⟩ := hrt4
  have HM6 := Lib.hid hm6
  obtain ⟨L, hL⟩ : ∃ L, l.length = L := ⟨_, rfl⟩
  have HRT4 := Lib.hid (show Rt w4 (.slice (some ⟨b, 0, none⟩) l.length cc) l from ⟨b, cc, cs, rfl, hlc, hb4, hcs4⟩)
  simp only [hL] at hfk7 hlc
  have HFK6 := Lib.hid hfk7
  have HLL := Lib.hid hL
  have HLC := Lib.hid hlc
  clear hm6 hf6 hfk7 hlc hb4 hcs4 hL
  go_upto_region 4 with (fail)
  (refine reg1 [0,0,0,0,0,0,1] 6 6 _ #[.slice none 0 0, .int .i64 0] (by kernel_rfl) _ rfl (by kernel_rfl) ?hlen rfl rfl rfl ⟨rfl, fun ρ w => ⟨87, by kernel_rfl⟩⟩ ?hQ ?_; (case hlen => decide); (case hQ => (intro c a o v w h; cases o <;> exact h)); (repeat (first | ((refine p_pure (v := _) ?hw (fun w' hC => look_at (.tmp 38) (.tmp 39) 79 rfl 94 87 keyed94 Try.underlying79 Mb cnt6 f6 _ (zero87 w') rfl (HM6.out.later hC) (key2 (i : Int) (h : Int)) rfl HKEY.out (.agg #[.slice (some ⟨b, 0, none⟩) L cc, .int .i64 T]) HFK6.out) ?_); (case hw => rfl); refine p_norm (a' := ?_) ?_ ?_; rotate_left; (simp only [Act.put, List.setIfInBounds_toArray, List.set_cons_zero, List.set_cons_succ]; rfl)) | (with_reducible refine p_fresh ?_) | ((with_reducible refine p_pure (v := ?_) ?hw (fun w' hC => ?hrun) ?_); (case hw => rfl); (case hrun => (obtain ⟨hq1, hq2⟩ := bcell hC; go_simp; with_reducible rfl)); refine p_norm (a' := ?_) ?_ ?_; rotate_left; (simp only [Act.put, List.setIfInBounds_toArray, List.set_cons_zero, List.set_cons_succ]; rfl)) | ((with_reducible refine p_late (v := ?_) ?hw (fun w' => ?hrun) ?_); (case hw => rfl); (case hrun => (go_simp; with_reducible rfl)); refine p_norm (a' := ?_) ?_ ?_; rotate_left; (simp only [Act.put, List.setIfInBounds_toArray, List.set_cons_zero, List.set_cons_succ]; rfl)) | ((with_reducible refine p_skip ?hw ?_); (case hw => rfl); refine p_norm (a' := ?_) ?_ ?_; rotate_left; (simp only [Act.put, List.setIfInBounds_toArray, List.set_cons_zero, List.set_cons_succ]; rfl)) | ((with_reducible refine p_lateskip ?hw ?_); (case hw => rfl); refine p_norm (a' := ?_) ?_ ?_; rotate_left; (simp only [Act.put, List.setIfInBounds_toArray, List.set_cons_zero, List.set_cons_succ]; rfl)) )); with_reducible refine p_nil ?_; intro w5 p6 hb5 hp6 hr6; simp only [List.length_cons, List.length_nil, Nat.reduceAdd, List.drop_succ_cons, List.drop_zero, Act.put, List.setIfInBounds_toArray, List.set_cons_zero, List.set_cons_succ])
  have HP6 := Lib.hid hp6
  have HR6 := Lib.hid hr6
  have HX5 := Lib.hid (HX4.out.later hb5)
  have HB5 := Lib.hid hb5
  have hxp6 : w.heap.size < p6 := Nat.lt_of_lt_of_le HS4.out hp6
  clear xc xf xl sc sf sl hb5
  obtain ⟨qc, qf, ql⟩ := hr6
  go_upto_region 5 with (fail)
  have HW6 := Lib.hid ((HB5.out.setCell (p := ⟨p6, 0, none⟩) hp6 (.slice (some ⟨b, 0, none⟩) L cc)).setCell (p := ⟨p6, 1, none⟩) hp6 (.int .i64 T))
  have HX6 := Lib.hid ((HX5.out.far (p := ⟨p6, 0, none⟩) (by show w.heap.size ≠ p6; omega) (.slice (some ⟨b, 0, none⟩) L cc)).far (p := ⟨p6, 1, none⟩) (by show w.heap.size ≠ p6; omega) (.int .i64 T))
  have HQ6 := Lib.hid (show Row ((w5.setCell ⟨p6, 0, none⟩ (.slice (some ⟨b, 0, none⟩) L cc)).setCell ⟨p6, 1, none⟩ (.int .i64 T)) p6 #[.slice (some ⟨b, 0, none⟩) L cc, .int .i64 T] by simpa using (HR6.out.set 0 (.slice (some ⟨b, 0, none⟩) L cc)).set 1 (.int .i64 T))
  generalize (w5.setCell ⟨p6, 0, none⟩ (.slice (some ⟨b, 0, none⟩) L cc)).setCell ⟨p6, 1, none⟩ (.int .i64 T) = W6 at *
  have H6 := Lib.hid (H4.out.later HW6.out)
  clear qc qf ql
  obtain ⟨xc, xf, xl⟩ := HX6.out.row
  obtain ⟨sc, sf, sl⟩ := H6.out.s.row
  refine seq_reg [0, 1, 2, 3, 4, 5, 8, 6, 7] [0, 0, 0, 0, 0, 0, 1, 0, 0] (by kernel_rfl) _ rfl (by kernel_rfl) ?_
  intro wd hwd hwh; clear hwh
  clear sc sf sl xc xf xl
  obtain ⟨sc, sf, sl⟩ := (H6.out.later hwd).s.row
  obtain ⟨xc, xf, xl⟩ := (HX6.out.later hwd).row
  (first | ((with_reducible refine s_read (v := ?_) rfl rfl ?hw (fun w' hC => ?hrun) ?_); (case hw => rfl); (case hrun => (obtain ⟨hq1, hq2⟩ := bcell hC; go_simp; with_reducible rfl)); refine s_norm (a' := ?_) ?_ ?_; rotate_left; (simp only [Act.put, List.getElem_toArray, List.getElem_cons_zero, List.setIfInBounds_toArray, List.set_cons_zero, List.set_cons_succ]; rfl)) | ((with_reducible refine s_skip rfl rfl ?hw ?_); (case hw => rfl); refine s_norm (a' := ?_) ?_ ?_; rotate_left; (simp only [Act.put, List.getElem_toArray, List.getElem_cons_zero, List.setIfInBounds_toArray, List.set_cons_zero, List.set_cons_succ]; rfl)))
  (first | ((with_reducible refine s_read (v := ?_) rfl rfl ?hw (fun w' hC => ?hrun) ?_); (case hw => rfl); (case hrun => (obtain ⟨hq1, hq2⟩ := bcell hC; go_simp; with_reducible rfl)); refine s_norm (a' := ?_) ?_ ?_; rotate_left; (simp only [Act.put, List.getElem_toArray, List.getElem_cons_succ, List.getElem_cons_zero, List.setIfInBounds_toArray, List.set_cons_zero, List.set_cons_succ]; rfl)) | ((with_reducible refine s_skip rfl rfl ?hw ?_); (case hw => rfl); refine s_norm (a' := ?_) ?_ ?_; rotate_left; (simp only [Act.put, List.getElem_toArray, List.getElem_cons_succ, List.getElem_cons_zero, List.setIfInBounds_toArray, List.set_cons_zero, List.set_cons_succ]; rfl)))
  (first | ((with_reducible refine s_read (v := ?_) rfl rfl ?hw (fun w' hC => ?hrun) ?_); (case hw => rfl); (case hrun => (obtain ⟨hq1, hq2⟩ := bcell hC; go_simp; with_reducible rfl)); refine s_norm (a' := ?_) ?_ ?_; rotate_left; (simp only [Act.put, List.getElem_toArray, List.getElem_cons_succ, List.getElem_cons_zero, List.setIfInBounds_toArray, List.set_cons_zero, List.set_cons_succ]; rfl)) | ((with_reducible refine s_skip rfl rfl ?hw ?_); (case hw => rfl); refine s_norm (a' := ?_) ?_ ?_; rotate_left; (simp only [Act.put, List.getElem_toArray, List.getElem_cons_succ, List.getElem_cons_zero, List.setIfInBounds_toArray, List.set_cons_zero, List.set_cons_succ]; rfl)))
  (first | ((with_reducible refine s_read (v := ?_) rfl rfl ?hw (fun w' hC => ?hrun) ?_); (case hw => rfl); (case hrun => (obtain ⟨hq1, hq2⟩ := bcell hC; go_simp; with_reducible rfl)); refine s_norm (a' := ?_) ?_ ?_; rotate_left; (simp only [Act.put, List.getElem_toArray, List.getElem_cons_succ, List.getElem_cons_zero, List.setIfInBounds_toArray, List.set_cons_zero, List.set_cons_succ]; rfl)) | ((with_reducible refine s_skip rfl rfl ?hw ?_); (case hw => rfl); refine s_norm (a' := ?_) ?_ ?_; rotate_left; (simp only [Act.put, List.getElem_toArray, List.getElem_cons_succ, List.getElem_cons_zero, List.setIfInBounds_toArray, List.set_cons_zero, List.set_cons_succ]; rfl)))
  (first | ((with_reducible refine s_read (v := ?_) rfl rfl ?hw (fun w' hC => ?hrun) ?_); (case hw => rfl); (case hrun => (obtain ⟨hq1, hq2⟩ := bcell hC; go_simp; with_reducible rfl)); refine s_norm (a' := ?_) ?_ ?_; rotate_left; (simp only [Act.put, List.getElem_toArray, List.getElem_cons_succ, List.getElem_cons_zero, List.setIfInBounds_toArray, List.set_cons_zero, List.set_cons_succ]; rfl)) | ((with_reducible refine s_skip rfl rfl ?hw ?_); (case hw => rfl); refine s_norm (a' := ?_) ?_ ?_; rotate_left; (simp only [Act.put, List.getElem_toArray, List.getElem_cons_succ, List.getElem_cons_zero, List.setIfInBounds_toArray, List.set_cons_zero, List.set_cons_succ]; rfl)))
  (first | ((with_reducible refine s_read (v := ?_) rfl rfl ?hw (fun w' hC => ?hrun) ?_); (case hw => rfl); (case hrun => (obtain ⟨hq1, hq2⟩ := bcell hC; go_simp; with_reducible rfl)); refine s_norm (a' := ?_) ?_ ?_; rotate_left; (simp only [Act.put, List.getElem_toArray, List.getElem_cons_succ, List.getElem_cons_zero, List.setIfInBounds_toArray, List.set_cons_zero, List.set_cons_succ]; rfl)) | ((with_reducible refine s_skip rfl rfl ?hw ?_); (case hw => rfl); refine s_norm (a' := ?_) ?_ ?_; rotate_left; (simp only [Act.put, List.getElem_toArray, List.getElem_cons_succ, List.getElem_cons_zero, List.setIfInBounds_toArray, List.set_cons_zero, List.set_cons_succ]; rfl)))
  (first | ((with_reducible refine s_read (v := ?_) rfl rfl ?hw (fun w' hC => ?hrun) ?_); (case hw => rfl); (case hrun => (obtain ⟨hq1, hq2⟩ := bcell hC; go_simp; with_reducible rfl)); refine s_norm (a' := ?_) ?_ ?_; rotate_left; (simp only [Act.put, List.getElem_toArray, List.getElem_cons_succ, List.getElem_cons_zero, List.setIfInBounds_toArray, List.set_cons_zero, List.set_cons_succ]; rfl)) | ((with_reducible refine s_skip rfl rfl ?hw ?_); (case hw => rfl); refine s_norm (a' := ?_) ?_ ?_; rotate_left; (simp only [Act.put, List.getElem_toArray, List.getElem_cons_succ, List.getElem_cons_zero, List.setIfInBounds_toArray, List.set_cons_zero, List.set_cons_succ]; rfl)))
  (refine s_call (f := 46) (R := fun v w' => ∃ A' c' dd, v = .slice A' cnt c' ∧ Strip w' A' cnt 1 (intRow dd) ∧ (∀ ad, A' = some ad → wd.heap.size ≤ ad.block) ∧ (∀ k, k < cnt → ∃ j, j < m ∧ dd k = ((j : Nat) : Int) ∧ (x j).src = (i : Int)) ∧ ∀ j : Nat, j < m → (x j).src = (i : Int) → ∃ k, k < cnt ∧ dd k = (j : Int)) ((Outs_calls _ A m c x (i : Int) hm5 (H6.out.links.below hwd) (by rw [HCNT.out]; exact hcn)).mono fun e w' hh => (by obtain ⟨A', c', dd, h1, h2, h3, h4, h5, h6⟩ := hh; rw [HCNT.out] at h1 h2 h5 h6; exact ⟨_, h1, h4, A', c', dd, rfl, h2, h3, h5, h6⟩)) (fn := _) Try.func46 (by kernel_rfl) rfl rfl rfl rfl ?hw ?hargs ?_; (case hw => rfl); (case hargs => (simp only [List.map_toArray, List.map_cons, List.map_nil]; rfl)); (intro v3 w3 hb3 hv); obtain ⟨Ao, co, dd, rfl, ho1, ho2, ho3, ho4⟩ := hv; refine s_norm (a' := ?_) ?_ ?_; rotate_left; (simp only [Act.put, List.getElem_toArray, List.getElem_cons_succ, List.getElem_cons_zero, List.setIfInBounds_toArray, List.set_cons_zero, List.set_cons_succ]; rfl))
  (first | ((with_reducible refine s_read (v := ?_) rfl rfl ?hw (fun w' hC => ?hrun) ?_); (case hw => rfl); (case hrun => (obtain ⟨hq1, hq2⟩ := bcell hC; go_simp; with_reducible rfl)); refine s_norm (a' := ?_) ?_ ?_; rotate_left; (simp only [Act.put, List.getElem_toArray, List.getElem_cons_succ, List.getElem_cons_zero, List.setIfInBounds_toArray, List.set_cons_zero, List.set_cons_succ]; rfl)) | ((with_reducible refine s_skip rfl rfl ?hw ?_); (case hw => rfl); refine s_norm (a' := ?_) ?_ ?_; rotate_left; (simp only [Act.put, List.getElem_toArray, List.getElem_cons_succ, List.getElem_cons_zero, List.setIfInBounds_toArray, List.set_cons_zero, List.set_cons_succ]; rfl)))
  refine s_nil ?_
  have hb63 : Below W6.heap.size W6 w3 := hwd.trans (hb3.mono hwd.size)
  have h46 : w4.heap.size ≤ W6.heap.size := HW6.out.size
  have hw3 : w.heap.size < w3.heap.size := by have := HS4.out; have := hb63.size; omega
  have HL0 := Lib.hid (show LLoop w w3 w3 base S Mb Md Q A m c x n fr B (updD D ((i : Int), (h : Int))) qv k i h T l r C Ao cnt dd b cc p6 0 B qv k d C from ⟨H6.out.later hb63, HK.out.more (Nat.le_succ r), fun _ _ h => h, fun u hu => by omega, fun _ _ => rfl, Nat.le_refl _, (HF4.out.mono fun _ _ e => .inr (.inl e)).trans (Fx.new (HW6.out.trans (hb63.mono HW6.out.size)) fun _ => False) fun _ _ e => e.elim, fun g hg => .inl hg, ho1, Nat.le_refl _, (HRT4.out.later HW6.out).later hb63, by rw [HLL.out]; exact HQ6.out.later hb63⟩)
  have HO2 := Lib.hid (fun ad e => Nat.le_trans (show w.heap.size ≤ wd.heap.size by have := HS4.out; have := hwd.size; omega) (ho2 ad e))
  have HP63 := Lib.hid (And.intro (Nat.le_of_lt hxp6) (Nat.lt_of_lt_of_le HQ6.out.2.2 hb63.size))
  have HO1 := Lib.hid ho1
  have HO3 := Lib.hid ho3
  have HO4 := Lib.hid ho4
  have HQO := Lib.hid (fun g (hg : qv.ownBlock = some g) => (H.out.q.row.lt g hg).2)
  clear ho1 ho2 ho3 ho4 hb63 sc sf sl xc xf xl hwd hb3 h46 hp6
  go_wp2
  go_loopw [49] (fun tv wr => ∃ (t : Nat) (B' : (Int × Int → Option (List Int × Int))) (qv' : Value) (k' : Nat) (d' : Nat → Item) (C' : Int × Int → Nat → Prop), t ≤ cnt ∧ tv = .int .i64 (t : Int) ∧ LLoop w w3 wr base S Mb Md Q A m c x n fr B (updD D ((i : Int), (h : Int))) qv k i h T l r C Ao cnt dd b cc p6 t B' qv' k' d' C') (fun tv _ => cnt - (intOf tv).toNat)
  case atStart => exact ⟨0, B, qv, k, d, C, Nat.zero_le _, rfl, HL0.out⟩
  case round =>
    obtain ⟨t, B', qv', k', d', C', htc, rfl, hl⟩ := hrel
    clear HL0
    have HL := Lib.hid hl
    clear hl
    by_cases hlt : t < cnt
    · obtain ⟨j, hj, hdj, hsj⟩ := HO3.out t hlt
      have t0 : (0 : Int) ≤ (t : Int) := by omega
      have t1 : (t : Int) < (cnt : Int) := by omega
      have j0 : (0 : Int) ≤ (j : Int) := by omega
      have j1 : (j : Int) < (m : Int) := by omega
      obtain ⟨oad, rfl, hoad, hoc⟩ := HL.out.outs.num hlt
      have oc := hoc wr (Below.refl _ _)
      rw [hdj] at oc
      obtain ⟨ad, hAe, hadb, hlc⟩ := HL.out.s.links (by omega)
      have g0 : wr.cell? (ad.add (j * 5)) = some (.int .i64 (x j).src) := hlc j hj 0 (by omega)
      have g1 : wr.cell? ⟨(ad.add (j * 5)).block, (ad.add (j * 5)).off + 1, none⟩ = some (.int .i64 (x j).dst) := hlc j hj 1 (by omega)
      have g2 : wr.cell? ⟨(ad.add (j * 5)).block, (ad.add (j * 5)).off + 2, none⟩ = some (.int .u64 (x j).cap) := hlc j hj 2 (by omega)
      have g3 : wr.cell? ⟨(ad.add (j * 5)).block, (ad.add (j * 5)).off + 3, none⟩ = some (.int .i64 (x j).metric) := hlc j hj 3 (by omega)
      have g4 : wr.cell? ⟨(ad.add (j * 5)).block, (ad.add (j * 5)).off + 4, none⟩ = some (.int .u32 (x j).groups) := hlc j hj 4 (by omega)
      obtain ⟨sc, sf, sl⟩ := HL.out.s.s.row
      have hbx := HL.out.box
      rw [HLL.out] at hbx
      have HBX := Lib.hid hbx
      obtain ⟨qc, qf, ql⟩ := hbx
      have HSJ := Lib.hid hsj
      have HDJ := Lib.hid hdj
      have HAE := Lib.hid hAe
      rw [hAe] at sc
      have HHAS := Lib.hid fun (w' : World) (hb : Below wr.heap.size wr w') => (show Calls Try.prog 47 #[.slice (some ⟨b, 0, none⟩) L cc, .int .i64 (x j).dst] w' fun e w'' => e = .returned (.bool (hasB (nth l) (x j).dst l.length)) ∧ Below w'.heap.size w' w'' from by
        obtain ⟨A', c', e1, hs1⟩ := (HL.out.rt.later hb).strip
        injection e1 with e1 e2 e3
        subst e1
        have h := has_calls w' _ l.length cc (nth l) (x j).dst (by have := (HK.out.valid _ _ _ HBB.out).2.2; have := HRR.out; omega) hs1
        rw [HLL.out] at h ⊢
        exact h)
      have HA8 := Lib.hid (show Below wr.heap.size wr (wr.alloc (.cells #[.int .i64 (x j).src, .int .i64 (x j).dst, .int .u64 (x j).cap, .int .i64 (x j).metric, .int .u32 (x j).groups] 34)) from (Below.refl _ _).alloc (Nat.le_refl _) _)
      have HX8 := Lib.hid (Blk.new wr 34 #[.int .i64 (x j).src, .int .i64 (x j).dst, .int .u64 (x j).cap, .int .i64 (x j).metric, .int .u32 (x j).groups])
      clear hlc hoc hsj hdj hAe
      by_cases hmem : (x j).dst ∈ l
      · rw [(hasB_iff l (x j).dst).2 hmem] at HHAS
        have HMEM := Lib.hid hmem
        clear hmem
        go_wp2_with (go_at_call 47; (with_reducible refine (HHAS.out _ HA8.out).mono ?_); rintro e w8 ⟨rfl, hb8⟩; have HB8 := Lib.hid hb8; clear hb8)
        go_roundw
        case rel => exact ⟨t + 1, B', qv', k', d', C', by omega, num_step t, HL.out.skip (j := j) (HA8.out.trans (HB8.out.mono HA8.out.size)) HDJ.out HMEM.out⟩
        case measure => exact measure_step hlt
      · rw [Bool.eq_false_iff.2 (fun e => hmem ((hasB_iff l (x j).dst).1 e))] at HHAS
        clear hmem
        go_upto_region 10 with (go_at_call 47; (with_reducible refine (HHAS.out _ HA8.out).mono ?_); rintro e w8 ⟨rfl, hb8⟩; have HB8 := Lib.hid hb8; have HX9 := Lib.hid (HX8.out.later hb8); clear hb8)
        have HA9 := Lib.hid (HA8.out.trans (HB8.out.mono HA8.out.size))
        have HQ9 := Lib.hid (HBX.out.later HA9.out)
        clear sc sf sl qc qf ql g0 g1 g2 g3 g4 oc
        have hbi : B' ((i : Int), (h : Int)) = some (l, T) := (HL.out.same _ (updD_same _ _)).trans HBB.out
        have HBI := Lib.hid hbi
        have hm1 : (x j).metric ≤ 65535 := (HN.out.may j hj).m1
        have hm0 : 1 ≤ (x j).metric := (HN.out.may j hj).m0
        have hT0 : 0 ≤ T := HL.out.s.pos _ _ _ hbi
        have hT1 : T ≤ 65535 * (r : Int) := (HK.out.valid _ _ _ HBB.out).2.1
        have hLr : l.length ≤ r + 1 := (HK.out.valid _ _ _ HBB.out).2.2
        have hr5 : r ≤ 1024 := HRR.out
        have hwr : IntKind.i64.wrap (T + (x j).metric) = T + (x j).metric := by simp [IntKind.wrap, IntKind.bits, IntKind.signed]; omega
        have hv5 : I64 (x j).dst := by have h1 := (HN.out.may j hj).d0; have h2 := (HN.out.may j hj).d1; have h3 := HN.out.n1; unfold I64; omega
        have HV5 := Lib.hid hv5
        have HM := Lib.hid (And.intro hm0 (And.intro hm1 (And.intro hT0 (And.intro hT1 hLr))))
        have l0 : (0 : Int) ≤ (L : Int) := by omega
        have l1 : (L : Int) ≤ (cc : Int) := by have := HLC.out; omega
        clear hbi hm1 hm0 hT0 hT1 hv5
        refine seq_reg [0, 1, 2, 3, 4, 5, 6, 7, 8, 9, 10, 11, 14, 15, 16, 17, 18, 12, 13, 19, 20] [0, 0, 0, 0, 0, 0, 0, 0, 0, 0, 0, 0, 1, 1, 0, 0, 0, 0, 0, 0, 2] (by kernel_rfl) _ rfl (by kernel_rfl) ?_
        intro wd hwd hwh; clear hwh
        have HSd := Lib.hid (HL.out.s.later (HA9.out.trans (hwd.mono HA9.out.size)))
        have HRt := Lib.hid (HL.out.rt.later (HA9.out.trans (hwd.mono HA9.out.size)))
        obtain ⟨qc, qf, ql⟩ := HQ9.out.later hwd
        obtain ⟨xc, xf, xl⟩ := (HX9.out.later hwd).row
        (first | ((with_reducible refine s_read (v := ?_) rfl rfl ?hw (fun w' hC => ?hrun) ?_); (case hw => rfl); (case hrun => (obtain ⟨hq1, hq2⟩ := bcell hC; go_simp; with_reducible rfl)); refine s_norm (a' := ?_) ?_ ?_; rotate_left; (simp only [Act.put, List.getElem_toArray, List.getElem_cons_zero, List.setIfInBounds_toArray, List.set_cons_zero, List.set_cons_succ]; rfl)) | ((with_reducible refine s_skip rfl rfl ?hw ?_); (case hw => rfl); refine s_norm (a' := ?_) ?_ ?_; rotate_left; (simp only [Act.put, List.getElem_toArray, List.getElem_cons_zero, List.setIfInBounds_toArray, List.set_cons_zero, List.set_cons_succ]; rfl)))
        (first | ((with_reducible refine s_read (v := ?_) rfl rfl ?hw (fun w' hC => ?hrun) ?_); (case hw => rfl); (case hrun => (obtain ⟨hq1, hq2⟩ := bcell hC; go_simp; with_reducible rfl)); refine s_norm (a' := ?_) ?_ ?_; rotate_left; (simp only [Act.put, List.getElem_toArray, List.getElem_cons_succ, List.getElem_cons_zero, List.setIfInBounds_toArray, List.set_cons_zero, List.set_cons_succ]; rfl)) | ((with_reducible refine s_skip rfl rfl ?hw ?_); (case hw => rfl); refine s_norm (a' := ?_) ?_ ?_; rotate_left; (simp only [Act.put, List.getElem_toArray, List.getElem_cons_succ, List.getElem_cons_zero, List.setIfInBounds_toArray, List.set_cons_zero, List.set_cons_succ]; rfl)))
        (first | ((with_reducible refine s_read (v := ?_) rfl rfl ?hw (fun w' hC => ?hrun) ?_); (case hw => rfl); (case hrun => (obtain ⟨hq1, hq2⟩ := bcell hC; go_simp; with_reducible rfl)); refine s_norm (a' := ?_) ?_ ?_; rotate_left; (simp only [Act.put, List.getElem_toArray, List.getElem_cons_succ, List.getElem_cons_zero, List.setIfInBounds_toArray, List.set_cons_zero, List.set_cons_succ]; rfl)) | ((with_reducible refine s_skip rfl rfl ?hw ?_); (case hw => rfl); refine s_norm (a' := ?_) ?_ ?_; rotate_left; (simp only [Act.put, List.getElem_toArray, List.getElem_cons_succ, List.getElem_cons_zero, List.setIfInBounds_toArray, List.set_cons_zero, List.set_cons_succ]; rfl)))
        (first | ((with_reducible refine s_read (v := ?_) rfl rfl ?hw (fun w' hC => ?hrun) ?_); (case hw => rfl); (case hrun => (obtain ⟨hq1, hq2⟩ := bcell hC; go_simp; with_reducible rfl)); refine s_norm (a' := ?_) ?_ ?_; rotate_left; (simp only [Act.put, List.getElem_toArray, List.getElem_cons_succ, List.getElem_cons_zero, List.setIfInBounds_toArray, List.set_cons_zero, List.set_cons_succ]; rfl)) | ((with_reducible refine s_skip rfl rfl ?hw ?_); (case hw => rfl); refine s_norm (a' := ?_) ?_ ?_; rotate_left; (simp only [Act.put, List.getElem_toArray, List.getElem_cons_succ, List.getElem_cons_zero, List.setIfInBounds_toArray, List.set_cons_zero, List.set_cons_succ]; rfl)))
        (first | ((with_reducible refine s_read (v := ?_) rfl rfl ?hw (fun w' hC => ?hrun) ?_); (case hw => rfl); (case hrun => (obtain ⟨hq1, hq2⟩ := bcell hC; go_simp; with_reducible rfl)); refine s_norm (a' := ?_) ?_ ?_; rotate_left; (simp only [Act.put, List.getElem_toArray, List.getElem_cons_succ, List.getElem_cons_zero, List.setIfInBounds_toArray, List.set_cons_zero, List.set_cons_succ]; rfl)) | ((with_reducible refine s_skip rfl rfl ?hw ?_); (case hw => rfl); refine s_norm (a' := ?_) ?_ ?_; rotate_left; (simp only [Act.put, List.getElem_toArray, List.getElem_cons_succ, List.getElem_cons_zero, List.setIfInBounds_toArray, List.set_cons_zero, List.set_cons_succ]; rfl)))
        (first | ((with_reducible refine s_read (v := ?_) rfl rfl ?hw (fun w' hC => ?hrun) ?_); (case hw => rfl); (case hrun => (obtain ⟨hq1, hq2⟩ := bcell hC; go_simp; with_reducible rfl)); refine s_norm (a' := ?_) ?_ ?_; rotate_left; (simp only [Act.put, List.getElem_toArray, List.getElem_cons_succ, List.getElem_cons_zero, List.setIfInBounds_toArray, List.set_cons_zero, List.set_cons_succ]; rfl)) | ((with_reducible refine s_skip rfl rfl ?hw ?_); (case hw => rfl); refine s_norm (a' := ?_) ?_ ?_; rotate_left; (simp only [Act.put, List.getElem_toArray, List.getElem_cons_succ, List.getElem_cons_zero, List.setIfInBounds_toArray, List.set_cons_zero, List.set_cons_succ]; rfl)))
        (first | ((with_reducible refine s_read (v := ?_) rfl rfl ?hw (fun w' hC => ?hrun) ?_); (case hw => rfl); (case hrun => (obtain ⟨hq1, hq2⟩ := bcell hC; go_simp; with_reducible rfl)); refine s_norm (a' := ?_) ?_ ?_; rotate_left; (simp only [Act.put, List.getElem_toArray, List.getElem_cons_succ, List.getElem_cons_zero, List.setIfInBounds_toArray, List.set_cons_zero, List.set_cons_succ]; rfl)) | ((with_reducible refine s_skip rfl rfl ?hw ?_); (case hw => rfl); refine s_norm (a' := ?_) ?_ ?_; rotate_left; (simp only [Act.put, List.getElem_toArray, List.getElem_cons_succ, List.getElem_cons_zero, List.setIfInBounds_toArray, List.set_cons_zero, List.set_cons_succ]; rfl)))
        (first | ((with_reducible refine s_read (v := ?_) rfl rfl ?hw (fun w' hC => ?hrun) ?_); (case hw => rfl); (case hrun => (obtain ⟨hq1, hq2⟩ := bcell hC; go_simp; with_reducible rfl)); refine s_norm (a' := ?_) ?_ ?_; rotate_left; (simp only [Act.put, List.getElem_toArray, List.getElem_cons_succ, List.getElem_cons_zero, List.setIfInBounds_toArray, List.set_cons_zero, List.set_cons_succ]; rfl)) | ((with_reducible refine s_skip rfl rfl ?hw ?_); (case hw => rfl); refine s_norm (a' := ?_) ?_ ?_; rotate_left; (simp only [Act.put, List.getElem_toArray, List.getElem_cons_succ, List.getElem_cons_zero, List.setIfInBounds_toArray, List.set_cons_zero, List.set_cons_succ]; rfl)))
        (first | ((with_reducible refine s_read (v := ?_) rfl rfl ?hw (fun w' hC => ?hrun) ?_); (case hw => rfl); (case hrun => (obtain ⟨hq1, hq2⟩ := bcell hC; go_simp; with_reducible rfl)); refine s_norm (a' := ?_) ?_ ?_; rotate_left; (simp only [Act.put, List.getElem_toArray, List.getElem_cons_succ, List.getElem_cons_zero, List.setIfInBounds_toArray, List.set_cons_zero, List.set_cons_succ]; rfl)) | ((with_reducible refine s_skip rfl rfl ?hw ?_); (case hw => rfl); refine s_norm (a' := ?_) ?_ ?_; rotate_left; (simp only [Act.put, List.getElem_toArray, List.getElem_cons_succ, List.getElem_cons_zero, List.setIfInBounds_toArray, List.set_cons_zero, List.set_cons_succ]; rfl)))
        (first | ((with_reducible refine s_read (v := ?_) rfl rfl ?hw (fun w' hC => ?hrun) ?_); (case hw => rfl); (case hrun => (obtain ⟨hq1, hq2⟩ := bcell hC; go_simp; with_reducible rfl)); refine s_norm (a' := ?_) ?_ ?_; rotate_left; (simp only [Act.put, List.getElem_toArray, List.getElem_cons_succ, List.getElem_cons_zero, List.setIfInBounds_toArray, List.set_cons_zero, List.set_cons_succ]; rfl)) | ((with_reducible refine s_skip rfl rfl ?hw ?_); (case hw => rfl); refine s_norm (a' := ?_) ?_ ?_; rotate_left; (simp only [Act.put, List.getElem_toArray, List.getElem_cons_succ, List.getElem_cons_zero, List.setIfInBounds_toArray, List.set_cons_zero, List.set_cons_succ]; rfl)))
        (first | ((with_reducible refine s_read (v := ?_) rfl rfl ?hw (fun w' hC => ?hrun) ?_); (case hw => rfl); (case hrun => (obtain ⟨hq1, hq2⟩ := bcell hC; go_simp; with_reducible rfl)); refine s_norm (a' := ?_) ?_ ?_; rotate_left; (simp only [Act.put, List.getElem_toArray, List.getElem_cons_succ, List.getElem_cons_zero, List.setIfInBounds_toArray, List.set_cons_zero, List.set_cons_succ]; rfl)) | ((with_reducible refine s_skip rfl rfl ?hw ?_); (case hw => rfl); refine s_norm (a' := ?_) ?_ ?_; rotate_left; (simp only [Act.put, List.getElem_toArray, List.getElem_cons_succ, List.getElem_cons_zero, List.setIfInBounds_toArray, List.set_cons_zero, List.set_cons_succ]; rfl)))
        (first | ((with_reducible refine s_read (v := ?_) rfl rfl ?hw (fun w' hC => ?hrun) ?_); (case hw => rfl); (case hrun => (obtain ⟨hq1, hq2⟩ := bcell hC; go_simp; with_reducible rfl)); refine s_norm (a' := ?_) ?_ ?_; rotate_left; (simp only [Act.put, List.getElem_toArray, List.getElem_cons_succ, List.getElem_cons_zero, List.setIfInBounds_toArray, List.set_cons_zero, List.set_cons_succ]; rfl)) | ((with_reducible refine s_skip rfl rfl ?hw ?_); (case hw => rfl); refine s_norm (a' := ?_) ?_ ?_; rotate_left; (simp only [Act.put, List.getElem_toArray, List.getElem_cons_succ, List.getElem_cons_zero, List.setIfInBounds_toArray, List.set_cons_zero, List.set_cons_succ]; rfl)))
        (first | ((with_reducible refine s_read (v := ?_) rfl rfl ?hw (fun w' hC => ?hrun) ?_); (case hw => rfl); (case hrun => (obtain ⟨hq1, hq2⟩ := bcell hC; go_simp; with_reducible rfl)); refine s_norm (a' := ?_) ?_ ?_; rotate_left; (simp only [Act.put, List.getElem_toArray, List.getElem_cons_succ, List.getElem_cons_zero, List.setIfInBounds_toArray, List.set_cons_zero, List.set_cons_succ]; rfl)) | ((with_reducible refine s_skip rfl rfl ?hw ?_); (case hw => rfl); refine s_norm (a' := ?_) ?_ ?_; rotate_left; (simp only [Act.put, List.getElem_toArray, List.getElem_cons_succ, List.getElem_cons_zero, List.setIfInBounds_toArray, List.set_cons_zero, List.set_cons_succ]; rfl)))
        (first | ((with_reducible refine s_read (v := ?_) rfl rfl ?hw (fun w' hC => ?hrun) ?_); (case hw => rfl); (case hrun => (obtain ⟨hq1, hq2⟩ := bcell hC; go_simp; with_reducible rfl)); refine s_norm (a' := ?_) ?_ ?_; rotate_left; (simp only [Act.put, List.getElem_toArray, List.getElem_cons_succ, List.getElem_cons_zero, List.setIfInBounds_toArray, List.set_cons_zero, List.set_cons_succ]; rfl)) | ((with_reducible refine s_skip rfl rfl ?hw ?_); (case hw => rfl); refine s_norm (a' := ?_) ?_ ?_; rotate_left; (simp only [Act.put, List.getElem_toArray, List.getElem_cons_succ, List.getElem_cons_zero, List.setIfInBounds_toArray, List.set_cons_zero, List.set_cons_succ]; rfl)))
        (first | ((with_reducible refine s_read (v := ?_) rfl rfl ?hw (fun w' hC => ?hrun) ?_); (case hw => rfl); (case hrun => (obtain ⟨hq1, hq2⟩ := bcell hC; go_simp; with_reducible rfl)); refine s_norm (a' := ?_) ?_ ?_; rotate_left; (simp only [Act.put, List.getElem_toArray, List.getElem_cons_succ, List.getElem_cons_zero, List.setIfInBounds_toArray, List.set_cons_zero, List.set_cons_succ]; rfl)) | ((with_reducible refine s_skip rfl rfl ?hw ?_); (case hw => rfl); refine s_norm (a' := ?_) ?_ ?_; rotate_left; (simp only [Act.put, List.getElem_toArray, List.getElem_cons_succ, List.getElem_cons_zero, List.setIfInBounds_toArray, List.set_cons_zero, List.set_cons_succ]; rfl)))
        (first | ((with_reducible refine s_read (v := ?_) rfl rfl ?hw (fun w' hC => ?hrun) ?_); (case hw => rfl); (case hrun => (obtain ⟨hq1, hq2⟩ := bcell hC; go_simp; with_reducible rfl)); refine s_norm (a' := ?_) ?_ ?_; rotate_left; (simp only [Act.put, List.getElem_toArray, List.getElem_cons_succ, List.getElem_cons_zero, List.setIfInBounds_toArray, List.set_cons_zero, List.set_cons_succ]; rfl)) | ((with_reducible refine s_skip rfl rfl ?hw ?_); (case hw => rfl); refine s_norm (a' := ?_) ?_ ?_; rotate_left; (simp only [Act.put, List.getElem_toArray, List.getElem_cons_succ, List.getElem_cons_zero, List.setIfInBounds_toArray, List.set_cons_zero, List.set_cons_succ]; rfl)))
        (first | ((with_reducible refine s_read (v := ?_) rfl rfl ?hw (fun w' hC => ?hrun) ?_); (case hw => rfl); (case hrun => (obtain ⟨hq1, hq2⟩ := bcell hC; go_simp; with_reducible rfl)); refine s_norm (a' := ?_) ?_ ?_; rotate_left; (simp only [Act.put, List.getElem_toArray, List.getElem_cons_succ, List.getElem_cons_zero, List.setIfInBounds_toArray, List.set_cons_zero, List.set_cons_succ]; rfl)) | ((with_reducible refine s_skip rfl rfl ?hw ?_); (case hw => rfl); refine s_norm (a' := ?_) ?_ ?_; rotate_left; (simp only [Act.put, List.getElem_toArray, List.getElem_cons_succ, List.getElem_cons_zero, List.setIfInBounds_toArray, List.set_cons_zero, List.set_cons_succ]; rfl)))
        (refine s_fresh (v := .slice (some ⟨wd.heap.size, 0, none⟩) 1 1) (w' := wd.alloc (.cells #[.int .i64 (x j).dst] 3)) rfl rfl ?hw ?hrun ?hb ?_; (case hw => rfl); (case hrun => (go_simp; try rfl)); (case hb => exact (Below.refl _ _).alloc (Nat.le_refl _) _); refine s_norm (a' := ?_) ?_ ?_; rotate_left; (simp only [Act.put, List.getElem_toArray, List.getElem_cons_succ, List.getElem_cons_zero, List.setIfInBounds_toArray, List.set_cons_zero, List.set_cons_succ]; rfl))
        (obtain ⟨v9, w9, hrun9, hrt9, hb9⟩ := Rt.append (ty := 48) (y := (x j).dst) (c2 := 1) (HRt.out.later ((Below.refl wd.heap.size wd).alloc (Nat.le_refl _) (.cells #[.int .i64 (x j).dst] 3))) (Blk.new wd 3 #[.int .i64 (x j).dst]) (by have := HM.out.2.2.2.2; omega); obtain ⟨b9, c9, cs9, rfl, hl9, hbk9, hcs9⟩ := hrt9; obtain ⟨K9, hK9⟩ : ∃ K9, (l ++ [(x j).dst]).length = K9 := ⟨_, rfl⟩; have HRT9 := Lib.hid (show Rt w9 (.slice (some ⟨b9, 0, none⟩) (l ++ [(x j).dst]).length c9) (l ++ [(x j).dst]) from ⟨b9, c9, cs9, rfl, hl9, hbk9, hcs9⟩); rw [hK9, HLL.out] at hrun9; have HK9 := Lib.hid hK9; clear hl9 hbk9 hcs9 hK9; refine s_fresh (v := .slice (some ⟨b9, 0, none⟩) K9 c9) (w' := w9) rfl rfl ?hw ?hrun ?hb ?_; (case hw => rfl); (case hrun => (simp [execOp, resolve, invoke, builtin, Act.eval, hrun9, Result.andThen])); (case hb => exact hb9); refine s_norm (a' := ?_) ?_ ?_; rotate_left; (simp only [Act.put, List.getElem_toArray, List.getElem_cons_succ, List.getElem_cons_zero, List.setIfInBounds_toArray, List.set_cons_zero, List.set_cons_succ]; rfl))
        (first | ((with_reducible refine s_read (v := ?_) rfl rfl ?hw (fun w' hC => ?hrun) ?_); (case hw => rfl); (case hrun => (obtain ⟨hq1, hq2⟩ := bcell hC; go_simp; with_reducible rfl)); refine s_norm (a' := ?_) ?_ ?_; rotate_left; (simp only [Act.put, List.getElem_toArray, List.getElem_cons_succ, List.getElem_cons_zero, List.setIfInBounds_toArray, List.set_cons_zero, List.set_cons_succ]; rfl)) | ((with_reducible refine s_skip rfl rfl ?hw ?_); (case hw => rfl); refine s_norm (a' := ?_) ?_ ?_; rotate_left; (simp only [Act.put, List.getElem_toArray, List.getElem_cons_succ, List.getElem_cons_zero, List.setIfInBounds_toArray, List.set_cons_zero, List.set_cons_succ]; rfl)))
        (have hb89 : Below wd.heap.size wd w9 := ((Below.refl wd.heap.size wd).alloc (Nat.le_refl _) (.cells #[.int .i64 (x j).dst] 3)).trans (hb9.mono (by simp)); have hy9 : 0 ≤ T + (x j).metric := (by have := HM.out; omega); have hk9 : k' < 1024 := (by have := HL.out.le; have := HKK.out; omega); have hl9 : l.length ≤ 100000 := (by have := HM.out.2.2.2.2; omega); have hle9 : (l ++ [(x j).dst]).length = l.length + 1 := (by rw [List.length_append, List.length_singleton]); have hnt9 : nth (l ++ [(x j).dst]) l.length = (x j).dst := (by rw [nth, List.getD_eq_getElem?_getD, List.getElem?_append_right (Nat.le_refl _), Nat.sub_self]; rfl); have hbs9 : base ≤ w9.heap.size := (by have := HBS.out; have := HL.out.size; have := HA9.out.size; have := hwd.size; have := hb89.size; omega)); (refine s_do_call (f := 28) (R := fun v w' => LOfferPost w9 base S Mb Md Q A m c x n B' (updD D ((i : Int), (h : Int))) qv' k' d' (x j).dst l.length (l ++ [(x j).dst]) (T + (x j).metric) (.returned v) w') ((show Calls Try.prog 28 #[.pointer (some ⟨S, 0, none⟩), .agg #[.slice (some ⟨b9, 0, none⟩) K9 c9, .int .i64 (T + (x j).metric)]] w9 (LOfferPost w9 base S Mb Md Q A m c x n B' (updD D ((i : Int), (h : Int))) qv' k' d' (x j).dst l.length (l ++ [(x j).dst]) (T + (x j).metric)) from (by rw [← HK9.out]; exact LOffer_calls w9 base S Mb Md Q A m c x n B' (updD D ((i : Int), (h : Int))) qv' k' d' (x j).dst l.length _ _ _ (HSd.out.later hb89) HRT9.out hle9 hnt9 HV5.out hl9 hy9 hk9 hbs9)).mono fun e w' h => ⟨.tuple #[], h.1, by have h1 := h.1; subst h1; exact h⟩) (fn := _) Try.func28 (by kernel_rfl) rfl rfl rfl rfl ?hw ?hargs ?_; (case hw => rfl); (case hargs => (simp only [List.map_toArray, List.map_cons, List.map_nil]; rfl)); (intro v10 w10 hO); refine s_norm (a' := ?_) ?_ ?_; rotate_left; (simp only [Act.put, List.getElem_toArray, List.getElem_cons_succ, List.getElem_cons_zero, List.setIfInBounds_toArray, List.set_cons_zero, List.set_cons_succ]; rfl))
        refine s_nil ?_
        have hfin := HL.out.next (j := j) (l := l) (w9 := w9) (w10 := w10) (HA9.out.trans ((hwd.mono HA9.out.size).trans (hb89.mono (Nat.le_trans HA9.out.size hwd.size)))) hO hj HSJ.out HDJ.out (updD_same _ _) HBI.out (by
          obtain ⟨⟨v', h1, h2⟩, _⟩ := HK.out.valid _ _ _ HBB.out
          have h5 : ((i : Int), (h : Int)) = (v', ((l.length : Nat) : Int) - 1) := h2
          injection h5 with h5 _
          rw [← h5] at h1
          exact h1) HM.out.1 (by have := HM.out; omega) (by have := HM.out.2.2.2.2; omega) HQO.out (fun ad e => ⟨HO2.out ad e, by
          obtain ⟨ad', e', h1, _⟩ := HO1.out (by omega)
          rw [e] at e'
          injection e' with e'
          rw [e']
          exact h1⟩) HP63.out H.out.best.lt H.out.q.blk.lt hw3
        have HFIN := Lib.hid hfin
        clear hfin hO qc qf ql xc xf xl
        go_wp2
        go_roundw
        case rel =>
          obtain ⟨B2, qv2, k2, d2, C2, h2⟩ := HFIN.out
          exact ⟨t + 1, B2, qv2, k2, d2, C2, by omega, num_step t, h2⟩
        case measure => exact measure_step hlt
    · obtain rfl : t = cnt := by omega
      go_wp2
      go_end0
      exact HL.out.end_ HCNT.out HF.out HBB.out HO4.out hw3
end Go.Proofs.Yteaipeejhippiaa
