/- The search settles a node, and goes on from it: settle. -/
import Derived.Test.YteaipeejhippiaaPOff
import Derived.ArgAppend
namespace Go.Proofs.Yteaipeejhippiaa
open Go.RowKit
attribute [local go_sem] cell_set_self
set_option linter.unusedVariables false

theorem Rt.of_own {w : World} {base : Nat} {v : Value} {l : List Int} {xs : List Value} (h : w.ownsRow base 3 1 v l.length xs) (h0 : 0 < l.length) (hx : ∀ i, i < l.length → xs[i]? = some (.int .i64 (nth l i))) : Rt w v l := by
  rcases h.2 with ⟨_, e⟩ | ⟨g, cap, cur, rfl, _, hg, hn, hc, hs, ht⟩
  · omega
  · refine ⟨g, cap, cur, rfl, hn, hg, fun i hi => ?_⟩
    rw [← hx i hi, ← ht, List.getElem?_take_of_lt (by omega), Array.getElem?_toList]
/-- append of one number to a route that has no room. -/
theorem Rt.append {w : World} {b c : Nat} {l : List Int} {ty : TypeId} (h : Rt w (.slice (some ⟨b, 0, none⟩) l.length c) l) {g c2 : Nat} {y : Int} (hg : Blk w g 3 #[.int .i64 y]) (hl : l.length ≤ 100000) :
    ∃ v' w', (Builtin.append_ #[48, 48] ty #[.slice (some ⟨b, 0, none⟩) l.length l.length, .slice (some ⟨g, 0, none⟩) 1 c2]).run Try.prog w = .ok v' w' ∧ Rt w' v' (l ++ [y]) ∧ Below w.heap.size w w' := by
  obtain ⟨b', c', cs, h1, h2, h3, h4⟩ := h
  injection h1 with h1 _ h5
  injection h1 with h1
  injection h1 with h1
  subst h1
  obtain ⟨i, hi1, hi2, hi3, hi4⟩ := info_parts infoI
  obtain ⟨v', w', r1, r2, r3⟩ := run_append_arg_grows (P := Try.prog) w 48 ty 3 i (.int .i64 0) 1 8 Try.underlying48 hi1 hi2 hi3 hi4 rfl (by omega) ⟨b, 0, none⟩ l.length l.length (l.map fun y => .int .i64 y) (by simp) (fun j u hj => by
    rw [List.getElem?_map] at hj
    have hlt : j < l.length := by
      rcases Nat.lt_or_ge j l.length with h | h
      · exact h
      · rw [List.getElem?_eq_none h] at hj; cases hj
    rw [addr_add, Nat.zero_add]
    refine (h3.cell j).trans ((h4 j hlt).trans ?_)
    rw [← hj, List.getElem?_eq_getElem hlt, nth, List.getD_eq_getElem?_getD, List.getElem?_eq_getElem hlt]
    rfl) ⟨g, 0, none⟩ 1 c2 [.int .i64 y] rfl (fun j u hj => by
    rw [addr_add, Nat.zero_add]
    refine (hg.cell j).trans ?_
    rw [← hj]
    simp) (by omega) (by unfold maxLen; omega) (by omega)
  refine ⟨v', w', r1, Rt.of_own (l := l ++ [y]) (xs := (l.map fun y => .int .i64 y) ++ [.int .i64 y]) (by simpa using r2) (by simp) (fun i hi => ?_), (Below.refl _ w).grown r3 (Nat.le_refl _) fun k hk => by cases hk⟩
  have e : (l.map fun y => Value.int .i64 y) ++ [.int .i64 y] = (l ++ [y]).map fun y => .int .i64 y := by simp
  rw [e, List.getElem?_map, List.getElem?_eq_getElem hi, nth, List.getD_eq_getElem?_getD, List.getElem?_eq_getElem hi]
  rfl
/-- One link is followed, in the plain law. -/
theorem spf_step {m : Nat} {x : Nat → Lnk} {fr : Int} {B B' : (Int → Option (List Int × Int))} {D : Int → Bool} {q q' : Item → Nat} {T : Int} {r : Nat} {C : Int → Nat → Prop} (I : Keeps M1 (fun _ => True) m x fr B D q T r C) {v : Int} {j : Nat} {l : List Int} (hD : D v = true) (hB : B v = some (l, T)) (hw : Way m x fr l v T) (hj : j < m) (hs : (x j).src = v) (hm : 1 ≤ (x j).metric) (hc : T + (x j).metric ≤ 65535 * (r : Int)) (hl : l.length + 1 ≤ r + 1)
    (ho : (B' = B ∧ (∀ z, q' z = q z) ∧ (D (x j).dst = true ∨ ∃ l' c', B (x j).dst = some (l', c') ∧ ¬ Bet (T + (x j).metric) (l ++ [(x j).dst]) c' l')) ∨
      (B' = updT B (x j).dst (l ++ [(x j).dst], T + (x j).metric) ∧ (∀ l' c', B (x j).dst = some (l', c') → Bet (T + (x j).metric) (l ++ [(x j).dst]) c' l') ∧ ∀ z, q' z = q z + if (⟨T + (x j).metric, ((l ++ [(x j).dst]).length : Int), (x j).dst⟩ : Item) = z then 1 else 0)) :
    Keeps M1 (fun _ => True) m x fr B' D q' T r (fun p' i' => C p' i' ∨ (p' = v ∧ i' = j)) ∧ ∀ p, D p = true → B' p = B p := by
  have hT : T < T + (x j).metric := by omega
  rcases ho with ⟨rfl, hq, hs2⟩ | ⟨rfl, hb, hq⟩
  · have hn : ∃ k d, B' (M1.at_ (l ++ [(x j).dst]) (x j).dst) = some (k, d) ∧ ¬ Bet (T + (x j).metric) (l ++ [(x j).dst]) d k := by
      rcases hs2 with h | ⟨k, d, h1, h2⟩
      · exact I.low h hT
      · exact ⟨k, d, h1, h2⟩
    exact ⟨(I.count hq).follow hD hB hn, fun _ _ => rfl⟩
  · obtain ⟨h1, h2⟩ := I.offer (Way.go j hw hj hs) hT hc (by rw [List.length_append, List.length_singleton]; exact hl) hb hq
    have hne : ∀ p, D p = true → p ≠ (x j).dst := fun p hp e => by
      have h3 : D (x j).dst = false := h1
      rw [e, h3] at hp
      cases hp
    refine ⟨h2.follow hD (by
      rw [show M1.at_ (l ++ [(x j).dst]) (x j).dst = (x j).dst from rfl, updT_other _ _ (hne v hD)]
      exact hB) ⟨_, _, updT_same _ _ _, Bet.irrefl⟩, fun p hp => updT_other _ _ (hne p hp)⟩
def SettlePost (w : World) (base S W Q : Nat) (A : Option Addr) (m c : Nat) (x : Nat → Lnk) (n : Nat) (fr : Int) (D : Int → Bool) (qv : Value) (k i : Nat) (T : Int) (r : Nat) (e : Ending) (w' : World) : Prop :=
  e = .returned (.tuple #[]) ∧ ∃ B' qv' k' d' C', Srch w' base S W Q A m c x n B' (updD D (i : Int)) qv' k' d' ∧ Keeps M1 (fun _ => True) m x fr B' (updD D (i : Int)) (many d' k') T (r + 1) C' ∧ Full m x fr (fun _ _ => False) B' (updD D (i : Int)) C' (fun _ => False) ∧ k' ≤ k + (outL x (i : Int) m).length ∧
    Fx w w' (fun j => j = W ∨ j = Q ∨ some j = qv.ownBlock) ∧ (∀ g, qv'.ownBlock = some g → qv.ownBlock = some g ∨ w.heap.size ≤ g)
structure SetLoop (w w3 wr : World) (base S W Q : Nat) (A : Option Addr) (m c : Nat) (x : Nat → Lnk) (n : Nat) (fr : Int) (B : (Int → Option (List Int × Int))) (D1 : Int → Bool) (qv : Value) (k i : Nat) (T : Int) (r : Nat) (C : Int → Nat → Prop) (Ao : Option Addr) (cnt : Nat) (dd : Nat → Int) (t : Nat) (B' : (Int → Option (List Int × Int))) (qv' : Value) (k' : Nat) (d' : Nat → Item) (C' : Int → Nat → Prop) : Prop where
  s : Srch wr base S W Q A m c x n B' D1 qv' k' d'
  keeps : Keeps M1 (fun _ => True) m x fr B' D1 (many d' k') T (r + 1) C'
  old : ∀ p j, C p j → C' p j
  new : ∀ u, u < t → ∀ j : Nat, dd u = (j : Int) → C' (i : Int) j
  same : ∀ p, D1 p = true → B' p = B p
  le : k' ≤ k + t
  fx : Fx w wr (fun j => j = W ∨ j = Q ∨ some j = qv.ownBlock)
  own : ∀ g, qv'.ownBlock = some g → qv.ownBlock = some g ∨ w3.heap.size ≤ g
  outs : Strip wr Ao cnt 1 (intRow dd)
  size : w3.heap.size ≤ wr.heap.size
theorem SetLoop.next {w w3 wr w9 w10 : World} {base S W Q : Nat} {A : Option Addr} {m c : Nat} {x : Nat → Lnk} {n : Nat} {fr : Int} {B : (Int → Option (List Int × Int))} {D1 : Int → Bool} {qv : Value} {k i : Nat} {T : Int} {r : Nat} {C : Int → Nat → Prop} {Ao : Option Addr} {cnt : Nat} {dd : Nat → Int} {t : Nat} {B' : (Int → Option (List Int × Int))} {qv' : Value} {k' : Nat} {d' : Nat → Item} {C' : Int → Nat → Prop} {u j : Nat} {l : List Int} {e : Ending}
    (HL : SetLoop w w3 wr base S W Q A m c x n fr B D1 qv k i T r C Ao cnt dd t B' qv' k' d' C') (hb : Below wr.heap.size wr w9) (hO : OfferPost w9 base S W Q A m c x n B' D1 qv' k' d' u (l ++ [(x j).dst]) (T + (x j).metric) e w10) (hu : (x j).dst = (u : Int)) (hj : j < m) (hs : (x j).src = (i : Int)) (hdj : dd t = (j : Int)) (hD : D1 (i : Int) = true) (hB : B' (i : Int) = some (l, T)) (hw : Way m x fr l (i : Int) T)
    (hm : 1 ≤ (x j).metric) (hc : T + (x j).metric ≤ 65535 * ((r + 1 : Nat) : Int)) (hl : l.length + 1 ≤ r + 1 + 1) (hown : ∀ g, qv.ownBlock = some g → g < w.heap.size) (hAo : ∀ ad, Ao = some ad → w.heap.size ≤ ad.block ∧ ad.block < w3.heap.size) (hWl : W < w.heap.size) (hQl : Q < w.heap.size) (hw3 : w.heap.size < w3.heap.size) :
    ∃ B'' qv'' k'' d'' C'', SetLoop w w3 w10 base S W Q A m c x n fr B D1 qv k i T r C Ao cnt dd (t + 1) B'' qv'' k'' d'' C'' := by
  obtain ⟨_, B'', qv'', k'', d'', o1, o2, o3, o4⟩ := hO
  have st := spf_step (B' := B'') (q' := many d'' k'') HL.keeps hD hB hw hj hs hm hc hl (by
    rw [hu] at o4 ⊢
    rcases o4 with ⟨h1, _, h2, h3⟩ | ⟨h1, _, h2, _, h3⟩
    · exact .inl ⟨h1, h2, h3⟩
    · exact .inr ⟨h1, h2, h3⟩)
  have hkk : k'' ≤ k' + 1 := by
    rcases o4 with ⟨_, h1, _⟩ | ⟨_, _, _, h1, _⟩ <;> omega
  refine ⟨B'', qv'', k'', d'', _, ⟨o1, st.1, fun p j' h => .inl (HL.old p j' h), fun u' hu' j' hj' => ?_, fun p hp => (st.2 p hp).trans (HL.same p hp), by have := HL.le; omega, (HL.fx.trans (Fx.new hb fun _ => False) fun _ _ h => h.elim).trans o2 fun g hg h => ?_, fun g hg => ?_, (HL.outs.below hb).fx o2 fun ad e' _ h => ?_, Nat.le_trans HL.size (Nat.le_trans hb.size o2.size)⟩⟩
  · rcases Nat.lt_or_ge u' t with h | h
    · exact .inl (HL.new u' h j' hj')
    · obtain rfl : u' = t := by omega
      exact .inr ⟨rfl, by omega⟩
  · rcases h with h | h | h
    · exact .inl h
    · exact .inr (.inl h)
    · rcases HL.own g h.symm with h1 | h1
      · exact .inr (.inr h1.symm)
      · omega
  · rcases o3 g hg with h | h
    · exact HL.own g h
    · exact .inr (Nat.le_trans HL.size (Nat.le_trans hb.size h))
  · obtain ⟨h1, h2⟩ := hAo ad e'
    rcases h with h | h | h
    · omega
    · omega
    · rcases HL.own _ h.symm with h3 | h3
      · have := hown _ h3
        omega
      · omega
theorem SetLoop.end_ {w w3 wr : World} {base S W Q : Nat} {A : Option Addr} {m c : Nat} {x : Nat → Lnk} {n : Nat} {fr : Int} {B : (Int → Option (List Int × Int))} {D : Int → Bool} {qv : Value} {k i : Nat} {T : Int} {r : Nat} {C : Int → Nat → Prop} {Ao : Option Addr} {cnt : Nat} {dd : Nat → Int} {B' : (Int → Option (List Int × Int))} {qv' : Value} {k' : Nat} {d' : Nat → Item} {C' : Int → Nat → Prop} {l : List Int}
    (HL : SetLoop w w3 wr base S W Q A m c x n fr B (updD D (i : Int)) qv k i T r C Ao cnt dd cnt B' qv' k' d' C') (hcnt : (outL x (i : Int) m).length = cnt) (hF : Full m x fr (fun _ _ => False) B D C (fun _ => False)) (hB : B (i : Int) = some (l, T)) (h4 : ∀ j : Nat, j < m → (x j).src = (i : Int) → ∃ k, k < cnt ∧ dd k = (j : Int)) (hw3 : w.heap.size < w3.heap.size) :
    SettlePost w base S W Q A m c x n fr D qv k i T r (.returned (.tuple #[])) wr := by
  refine ⟨rfl, B', qv', k', d', C', HL.s, HL.keeps, fun p l' v c' _ hD hp hw j hj hs hsk => ?_, by rw [hcnt]; exact HL.le, HL.fx, fun g hg => (HL.own g hg).imp id fun h => by omega⟩
  by_cases e : p = (i : Int)
  · subst e
    obtain ⟨⟨v', h1, h2⟩, _⟩ := HL.keeps.valid _ _ _ hp
    have h3 : v = (i : Int) := (hw.uniq h1).trans (show v' = (i : Int) from h2.symm)
    obtain ⟨u, h5, h6⟩ := h4 j hj (hs.trans h3)
    exact HL.new u h5 j h6
  · rw [HL.same p hD] at hp
    rw [updD_other _ e] at hD
    exact HL.old p j (hF p l' v c' id hD hp hw j hj hs hsk)
set_option maxRecDepth 100000 in
theorem Settled_calls (w : World) (base S W Q : Nat) (A : Option Addr) (m c : Nat) (x : Nat → Lnk) (n : Nat) (B : (Int → Option (List Int × Int))) (D : Int → Bool) (qv : Value) (k : Nat) (d : Nat → Item) (i : Nat) (y z : Int)
    (h : Srch w base S W Q A m c x n B D qv k d) (hi : i < n) (hD : D (i : Int) = true) : Calls Try.prog 39 #[.pointer (some ⟨S, 0, none⟩), .agg #[.int .i64 y, .int .i64 z, .int .i64 (i : Int)]] w fun e w' => e = .returned (.tuple #[]) ∧ Below w.heap.size w w' := by
  have hn0 : (0 : Int) ≤ (i : Int) := by omega
  have hn1 : (i : Int) < (n : Int) := by omega
  obtain ⟨V, ⟨cs, hW, hcs⟩, hV⟩ := h.ways
  obtain ⟨e0, e1, e2⟩ := hcs i hi
  have w2 : w.cell? ⟨W, i * 3 + 2, none⟩ = some (.bool true) := by rw [← hD]; exact (hW.cell _).trans e2
  have wl := hW.lt
  obtain ⟨sc, sf, sl⟩ := h.s.row
  clear h hcs e0 e1 e2 hV hW hD
  go_enter Try.func39, Try.ntmps39
  go_wp2
  go_quiet (fail)
  have HQ := Lib.hid (below_drewN ((Below.refl w.heap.size w).alloc (Nat.le_refl _) (.cells #[.int .i64 y, .int .i64 z, .int .i64 (i : Int)] 89)) nq)
  go_wp2
  exact bodyPost_ret (results_none rfl _ _ _) rfl ⟨rfl, HQ.out⟩
set_option maxRecDepth 100000 in
set_option maxHeartbeats 16000000 in
theorem Settle_calls (w : World) (base S W Q : Nat) (A : Option Addr) (m c : Nat) (x : Nat → Lnk) (n : Nat) (fr : Int) (B : (Int → Option (List Int × Int))) (D : Int → Bool) (qv : Value) (k : Nat) (d : Nat → Item) (i : Nat) (y z T : Int) (l : List Int) (r : Nat) (C : Int → Nat → Prop)
    (h : Srch w base S W Q A m c x n B D qv k d) (N : Net (n : Int) m x) (hi : i < n) (hD : D (i : Int) = false) (hB : B (i : Int) = some (l, T)) (hK : Keeps M1 (fun _ => True) m x fr B (updD D (i : Int)) (many d k) T r C) (hF : Full m x fr (fun _ _ => False) B D C (fun _ => False)) (hk : k + (outL x (i : Int) m).length ≤ 1024) (hr : r ≤ 1024) (hbase : base ≤ w.heap.size) :
    Calls Try.prog 39 #[.pointer (some ⟨S, 0, none⟩), .agg #[.int .i64 y, .int .i64 z, .int .i64 (i : Int)]] w (SettlePost w base S W Q A m c x n fr D qv k i T r) := by
  have H := Lib.hid h
  have HN := Lib.hid N
  have HK := Lib.hid hK
  have HF := Lib.hid hF
  have HKK := Lib.hid hk
  have HRR := Lib.hid hr
  have HBS := Lib.hid hbase
  have HDD := Lib.hid hD
  have HBB := Lib.hid hB
  have HI := Lib.hid hi
  have hn0 : (0 : Int) ≤ (i : Int) := by omega
  have hn1 : (i : Int) < (n : Int) := by omega
  have hm5 : m ≤ 1000 := by have := N.m1; omega
  have hcn : (outL x (i : Int) m).length < 20 := N.outs _
  obtain ⟨V, ⟨cs, hW, hcs⟩, hV⟩ := h.ways
  obtain ⟨e0, e1, e2⟩ := hcs i hi
  have w2 : w.cell? ⟨W, i * 3 + 2, none⟩ = some (.bool false) := by rw [← hD]; exact (hW.cell _).trans e2
  have wf := hW.frozen
  have wl := hW.lt
  have HWB := Lib.hid hW
  obtain ⟨sc, sf, sl⟩ := h.s.row
  clear h hcs e0 e1 e2 hV hW hD N hK hF hk hr hbase hB
  generalize hcnt : (outL x (i : Int) m).length = cnt at *
  have HCNT := Lib.hid hcnt
  clear hcnt
  go_enter Try.func39, Try.ntmps39
  go_wp2
  go_quiet (fail)
  have HQ := Lib.hid (below_drewN ((Below.refl w.heap.size w).alloc (Nat.le_refl _) (.cells #[.int .i64 y, .int .i64 z, .int .i64 (i : Int)] 89)) nq)
  have HX := Lib.hid ((Blk.new w 89 #[.int .i64 y, .int .i64 z, .int .i64 (i : Int)]).drewN nq)
  go_upto_region 4 with (fail)
  have H2 := Lib.hid ((H.out.later HQ.out).mark HI.out)
  have HX2 := Lib.hid (HX.out.far (p := ⟨W, i * 3 + 2, none⟩) (by show w.heap.size ≠ W; omega) (.bool true))
  have HF2 := Lib.hid ((Fx.new HQ.out (fun j => j = W)).trans (Fx.set ((w.alloc (.cells #[.int .i64 y, .int .i64 z, .int .i64 (i : Int)] 89)).drewN nq) ⟨W, i * 3 + 2, none⟩ (.bool true)) (fun _ _ e => e))
  have HSZ := Lib.hid (show w.heap.size < (((w.alloc (.cells #[.int .i64 y, .int .i64 z, .int .i64 (i : Int)] 89)).drewN nq).setCell ⟨W, i * 3 + 2, none⟩ (.bool true)).heap.size from HX2.out.lt)
  generalize (((w.alloc (.cells #[.int .i64 y, .int .i64 z, .int .i64 (i : Int)] 89)).drewN nq).setCell ⟨W, i * 3 + 2, none⟩ (.bool true)) = W2 at *
  clear sc sf sl wf wl w2 HQ HX
  obtain ⟨sc, sf, sl⟩ := H2.out.s.row
  obtain ⟨xc, xf, xl⟩ := HX2.out.row
  refine seq_reg [0, 1, 2, 3, 4, 5, 8, 6, 7] [0, 0, 0, 0, 0, 0, 1, 0, 0] (by kernel_rfl) _ rfl (by kernel_rfl) ?_
  intro wd hwd hwh; clear hwh
  clear sc sf sl xc xf xl
  obtain ⟨sc, sf, sl⟩ := (H2.out.s.later hwd).row
  obtain ⟨xc, xf, xl⟩ := (HX2.out.later hwd).row
  (first | ((with_reducible refine s_read (v := ?_) rfl rfl ?hw (fun w' hC => ?hrun) ?_); (case hw => rfl); (case hrun => (obtain ⟨hq1, hq2⟩ := bcell hC; go_simp; with_reducible rfl)); refine s_norm (a' := ?_) ?_ ?_; rotate_left; (simp only [Act.put, List.getElem_toArray, List.getElem_cons_zero, List.setIfInBounds_toArray, List.set_cons_zero, List.set_cons_succ]; rfl)) | ((with_reducible refine s_skip rfl rfl ?hw ?_); (case hw => rfl); refine s_norm (a' := ?_) ?_ ?_; rotate_left; (simp only [Act.put, List.getElem_toArray, List.getElem_cons_zero, List.setIfInBounds_toArray, List.set_cons_zero, List.set_cons_succ]; rfl)))
  (first | ((with_reducible refine s_read (v := ?_) rfl rfl ?hw (fun w' hC => ?hrun) ?_); (case hw => rfl); (case hrun => (obtain ⟨hq1, hq2⟩ := bcell hC; go_simp; with_reducible rfl)); refine s_norm (a' := ?_) ?_ ?_; rotate_left; (simp only [Act.put, List.getElem_toArray, List.getElem_cons_succ, List.getElem_cons_zero, List.setIfInBounds_toArray, List.set_cons_zero, List.set_cons_succ]; rfl)) | ((with_reducible refine s_skip rfl rfl ?hw ?_); (case hw => rfl); refine s_norm (a' := ?_) ?_ ?_; rotate_left; (simp only [Act.put, List.getElem_toArray, List.getElem_cons_succ, List.getElem_cons_zero, List.setIfInBounds_toArray, List.set_cons_zero, List.set_cons_succ]; rfl)))
  (first | ((with_reducible refine s_read (v := ?_) rfl rfl ?hw (fun w' hC => ?hrun) ?_); (case hw => rfl); (case hrun => (obtain ⟨hq1, hq2⟩ := bcell hC; go_simp; with_reducible rfl)); refine s_norm (a' := ?_) ?_ ?_; rotate_left; (simp only [Act.put, List.getElem_toArray, List.getElem_cons_succ, List.getElem_cons_zero, List.setIfInBounds_toArray, List.set_cons_zero, List.set_cons_succ]; rfl)) | ((with_reducible refine s_skip rfl rfl ?hw ?_); (case hw => rfl); refine s_norm (a' := ?_) ?_ ?_; rotate_left; (simp only [Act.put, List.getElem_toArray, List.getElem_cons_succ, List.getElem_cons_zero, List.setIfInBounds_toArray, List.set_cons_zero, List.set_cons_succ]; rfl)))
  (first | ((with_reducible refine s_read (v := ?_) rfl rfl ?hw (fun w' hC => ?hrun) ?_); (case hw => rfl); (case hrun => (obtain ⟨hq1, hq2⟩ := bcell hC; go_simp; with_reducible rfl)); refine s_norm (a' := ?_) ?_ ?_; rotate_left; (simp only [Act.put, List.getElem_toArray, List.getElem_cons_succ, List.getElem_cons_zero, List.setIfInBounds_toArray, List.set_cons_zero, List.set_cons_succ]; rfl)) | ((with_reducible refine s_skip rfl rfl ?hw ?_); (case hw => rfl); refine s_norm (a' := ?_) ?_ ?_; rotate_left; (simp only [Act.put, List.getElem_toArray, List.getElem_cons_succ, List.getElem_cons_zero, List.setIfInBounds_toArray, List.set_cons_zero, List.set_cons_succ]; rfl)))
  (first | ((with_reducible refine s_read (v := ?_) rfl rfl ?hw (fun w' hC => ?hrun) ?_); (case hw => rfl); (case hrun => (obtain ⟨hq1, hq2⟩ := bcell hC; go_simp; with_reducible rfl)); refine s_norm (a' := ?_) ?_ ?_; rotate_left; (simp only [Act.put, List.getElem_toArray, List.getElem_cons_succ, List.getElem_cons_zero, List.setIfInBounds_toArray, List.set_cons_zero, List.set_cons_succ]; rfl)) | ((with_reducible refine s_skip rfl rfl ?hw ?_); (case hw => rfl); refine s_norm (a' := ?_) ?_ ?_; rotate_left; (simp only [Act.put, List.getElem_toArray, List.getElem_cons_succ, List.getElem_cons_zero, List.setIfInBounds_toArray, List.set_cons_zero, List.set_cons_succ]; rfl)))
  (first | ((with_reducible refine s_read (v := ?_) rfl rfl ?hw (fun w' hC => ?hrun) ?_); (case hw => rfl); (case hrun => (obtain ⟨hq1, hq2⟩ := bcell hC; go_simp; with_reducible rfl)); refine s_norm (a' := ?_) ?_ ?_; rotate_left; (simp only [Act.put, List.getElem_toArray, List.getElem_cons_succ, List.getElem_cons_zero, List.setIfInBounds_toArray, List.set_cons_zero, List.set_cons_succ]; rfl)) | ((with_reducible refine s_skip rfl rfl ?hw ?_); (case hw => rfl); refine s_norm (a' := ?_) ?_ ?_; rotate_left; (simp only [Act.put, List.getElem_toArray, List.getElem_cons_succ, List.getElem_cons_zero, List.setIfInBounds_toArray, List.set_cons_zero, List.set_cons_succ]; rfl)))
  (first | ((with_reducible refine s_read (v := ?_) rfl rfl ?hw (fun w' hC => ?hrun) ?_); (case hw => rfl); (case hrun => (obtain ⟨hq1, hq2⟩ := bcell hC; go_simp; with_reducible rfl)); refine s_norm (a' := ?_) ?_ ?_; rotate_left; (simp only [Act.put, List.getElem_toArray, List.getElem_cons_succ, List.getElem_cons_zero, List.setIfInBounds_toArray, List.set_cons_zero, List.set_cons_succ]; rfl)) | ((with_reducible refine s_skip rfl rfl ?hw ?_); (case hw => rfl); refine s_norm (a' := ?_) ?_ ?_; rotate_left; (simp only [Act.put, List.getElem_toArray, List.getElem_cons_succ, List.getElem_cons_zero, List.setIfInBounds_toArray, List.set_cons_zero, List.set_cons_succ]; rfl)))
  (refine s_call (f := 46) (R := fun v w' => ∃ A' c' dd, v = .slice A' cnt c' ∧ Strip w' A' cnt 1 (intRow dd) ∧ (∀ ad, A' = some ad → wd.heap.size ≤ ad.block) ∧ (∀ k, k < cnt → ∃ j, j < m ∧ dd k = ((j : Nat) : Int) ∧ (x j).src = (i : Int)) ∧ ∀ j : Nat, j < m → (x j).src = (i : Int) → ∃ k, k < cnt ∧ dd k = (j : Int)) ((Outs_calls _ A m c x (i : Int) hm5 (H2.out.links.below hwd) (by rw [HCNT.out]; exact hcn)).mono fun e w' hh => (by obtain ⟨A', c', dd, h1, h2, h3, h4, h5, h6⟩ := hh; rw [HCNT.out] at h1 h2 h5 h6; exact ⟨_, h1, h4, A', c', dd, rfl, h2, h3, h5, h6⟩)) (fn := _) Try.func46 (by kernel_rfl) rfl rfl rfl rfl ?hw ?hargs ?_; (case hw => rfl); (case hargs => (simp only [List.map_toArray, List.map_cons, List.map_nil]; rfl)); (intro v3 w3 hb3 hv); obtain ⟨Ao, co, dd, rfl, ho1, ho2, ho3, ho4⟩ := hv; refine s_norm (a' := ?_) ?_ ?_; rotate_left; (simp only [Act.put, List.getElem_toArray, List.getElem_cons_succ, List.getElem_cons_zero, List.setIfInBounds_toArray, List.set_cons_zero, List.set_cons_succ]; rfl))
  (first | ((with_reducible refine s_read (v := ?_) rfl rfl ?hw (fun w' hC => ?hrun) ?_); (case hw => rfl); (case hrun => (obtain ⟨hq1, hq2⟩ := bcell hC; go_simp; with_reducible rfl)); refine s_norm (a' := ?_) ?_ ?_; rotate_left; (simp only [Act.put, List.getElem_toArray, List.getElem_cons_succ, List.getElem_cons_zero, List.setIfInBounds_toArray, List.set_cons_zero, List.set_cons_succ]; rfl)) | ((with_reducible refine s_skip rfl rfl ?hw ?_); (case hw => rfl); refine s_norm (a' := ?_) ?_ ?_; rotate_left; (simp only [Act.put, List.getElem_toArray, List.getElem_cons_succ, List.getElem_cons_zero, List.setIfInBounds_toArray, List.set_cons_zero, List.set_cons_succ]; rfl)))
  refine s_nil ?_
  have hb23 : Below W2.heap.size W2 w3 := hwd.trans (hb3.mono hwd.size)
  have hw3 : w.heap.size < w3.heap.size := by have := HSZ.out; have := hb23.size; omega
  have HL0 := Lib.hid (show SetLoop w w3 w3 base S W Q A m c x n fr B (updD D (i : Int)) qv k i T r C Ao cnt dd 0 B qv k d C from ⟨H2.out.later hb23, HK.out.more (Nat.le_succ r), fun _ _ h => h, fun u hu => by omega, fun _ _ => rfl, Nat.le_refl _, (HF2.out.mono fun _ _ e => .inl e).trans (Fx.new hb23 fun _ => False) fun _ _ e => e.elim, fun g hg => .inl hg, ho1, Nat.le_refl _⟩)
  have HO2 := Lib.hid (fun ad e => Nat.le_trans (show w.heap.size ≤ wd.heap.size by have := HSZ.out; have := hwd.size; omega) (ho2 ad e))
  have HO1 := Lib.hid ho1
  have HO3 := Lib.hid ho3
  have HO4 := Lib.hid ho4
  have HQO := Lib.hid (fun g (hg : qv.ownBlock = some g) => (H.out.q.row.lt g hg).2)
  clear ho1 ho2 ho3 ho4 hb23 sc sf sl xc xf xl hwd hb3
  go_wp2
  go_loopw [30] (fun tv wr => ∃ (t : Nat) (B' : (Int → Option (List Int × Int))) (qv' : Value) (k' : Nat) (d' : Nat → Item) (C' : Int → Nat → Prop), t ≤ cnt ∧ tv = .int .i64 (t : Int) ∧ SetLoop w w3 wr base S W Q A m c x n fr B (updD D (i : Int)) qv k i T r C Ao cnt dd t B' qv' k' d' C') (fun tv _ => cnt - (intOf tv).toNat)
  case atStart => exact ⟨0, B, qv, k, d, C, Nat.zero_le _, rfl, HL0.out⟩
  case round =>
    obtain ⟨t, B', qv', k', d', C', htc, rfl, hl⟩ := hrel
    clear HL0
    have HL := Lib.hid hl
    clear hl
    by_cases hlt : t < cnt
    · obtain ⟨j, hj, hdj, hsj⟩ := HO3.out t hlt
      have t0 : (0 : Int) ≤ (t : Int) := by omega
      have t1 : (t : Int) < (cnt : Int) := by omega
      have j0 : (0 : Int) ≤ (j : Int) := by omega
      have j1 : (j : Int) < (m : Int) := by omega
      obtain ⟨oad, rfl, hoad, hoc⟩ := HL.out.outs.num hlt
      have oc := hoc wr (Below.refl _ _)
      rw [hdj] at oc
      obtain ⟨ad, hAe, hadb, hlc⟩ := HL.out.s.links (by omega)
      have g0 : wr.cell? (ad.add (j * 5)) = some (.int .i64 (x j).src) := hlc j hj 0 (by omega)
      have g1 : wr.cell? ⟨(ad.add (j * 5)).block, (ad.add (j * 5)).off + 1, none⟩ = some (.int .i64 (x j).dst) := hlc j hj 1 (by omega)
      have g2 : wr.cell? ⟨(ad.add (j * 5)).block, (ad.add (j * 5)).off + 2, none⟩ = some (.int .u64 (x j).cap) := hlc j hj 2 (by omega)
      have g3 : wr.cell? ⟨(ad.add (j * 5)).block, (ad.add (j * 5)).off + 3, none⟩ = some (.int .i64 (x j).metric) := hlc j hj 3 (by omega)
      have g4 : wr.cell? ⟨(ad.add (j * 5)).block, (ad.add (j * 5)).off + 4, none⟩ = some (.int .u32 (x j).groups) := hlc j hj 4 (by omega)
      obtain ⟨sc, sf, sl⟩ := HL.out.s.s.row
      have HSJ := Lib.hid hsj
      have HDJ := Lib.hid hdj
      have HAE := Lib.hid hAe
      rw [hAe] at sc
      clear hlc hoc hsj hdj hAe
      go_upto_region 8 with (fail)
      have HA8 := Lib.hid (show Below wr.heap.size wr (wr.alloc (.cells #[.int .i64 (x j).src, .int .i64 (x j).dst, .int .u64 (x j).cap, .int .i64 (x j).metric, .int .u32 (x j).groups] 34)) from (Below.refl _ _).alloc (Nat.le_refl _) _)
      have HX8 := Lib.hid (Blk.new wr 34 #[.int .i64 (x j).src, .int .i64 (x j).dst, .int .u64 (x j).cap, .int .i64 (x j).metric, .int .u32 (x j).groups])
      generalize wr.alloc (.cells #[.int .i64 (x j).src, .int .i64 (x j).dst, .int .u64 (x j).cap, .int .i64 (x j).metric, .int .u32 (x j).groups] 34) = W8 at *
      clear sc sf sl g0 g1 g2 g3 g4 oc
      have hbi : B' (i : Int) = some (l, T) := (HL.out.same _ (updD_same _ _)).trans HBB.out
      have HBI := Lib.hid hbi
      have hm1 : (x j).metric ≤ 65535 := (HN.out.may j hj).m1
      have hm0 : 1 ≤ (x j).metric := (HN.out.may j hj).m0
      have hT0 : 0 ≤ T := HL.out.s.pos _ _ _ hbi
      have hT1 : T ≤ 65535 * (r : Int) := (HK.out.valid _ _ _ HBB.out).2.1
      have hLr : l.length ≤ r + 1 := (HK.out.valid _ _ _ HBB.out).2.2
      have hr5 : r ≤ 1024 := HRR.out
      have hwr : IntKind.i64.wrap (T + (x j).metric) = T + (x j).metric := by simp [IntKind.wrap, IntKind.bits, IntKind.signed]; omega
      obtain ⟨u, hu, hun⟩ : ∃ u : Nat, (x j).dst = (u : Int) ∧ u < n := ⟨(x j).dst.toNat, by have := (HN.out.may j hj).d0; omega, by have := (HN.out.may j hj).d1; have := (HN.out.may j hj).d0; omega⟩
      have HU := Lib.hid hu
      have HM := Lib.hid (And.intro hm0 (And.intro hm1 (And.intro hT0 (And.intro hT1 hLr))))
      clear hbi hm1 hm0 hT0 hT1 hu
      refine seq_reg [0, 1, 2, 3, 4, 5, 6, 7, 8, 9, 10, 11, 12, 13, 14, 15, 16, 17, 18, 19, 22, 23, 24, 25, 26, 27, 28, 20, 21, 29] [0, 0, 0, 0, 0, 0, 0, 0, 0, 0, 0, 0, 0, 0, 0, 0, 0, 0, 0, 0, 1, 1, 0, 0, 0, 0, 0, 0, 0, 2] (by kernel_rfl) _ rfl (by kernel_rfl) ?_
      intro wd hwd hwh; clear hwh
      have HSd := Lib.hid (HL.out.s.later (HA8.out.trans (hwd.mono HA8.out.size)))
      obtain ⟨sc, sf, sl⟩ := HSd.out.s.row
      obtain ⟨xc, xf, xl⟩ := (HX8.out.later hwd).row
      obtain ⟨V2, ⟨cs2, hW2, hcs2⟩, hV2⟩ := HSd.out.ways
      obtain ⟨e0, e1, _⟩ := hcs2 i HI.out
      have hv2 := hV2 i HI.out
      replace e1 : cs2[i * 3 + 1]? = some (.int .i64 (costO (B' (i : Int)))) := e1
      rw [HBI.out] at e1 hv2
      obtain ⟨b, cc, cs3, hvv, hlc, hb3, hcs3⟩ := hv2
      have HRt := Lib.hid (show Rt wd (.slice (some ⟨b, 0, none⟩) l.length cc) l from ⟨b, cc, cs3, rfl, hlc, hb3, hcs3⟩)
      rw [hvv] at e0
      obtain ⟨L, hL⟩ : ∃ L, L = l.length := ⟨_, rfl⟩
      simp only at hlc e0
      rw [← hL] at hlc e0
      have w0 : wd.cell? ⟨W, i * 3, none⟩ = some (.slice (some ⟨b, 0, none⟩) L cc) := (hW2.cell _).trans e0
      have w1 : wd.cell? ⟨W, i * 3 + 1, none⟩ = some (.int .i64 T) := (hW2.cell _).trans e1
      have wl := hW2.lt
      have wf := hW2.frozen
      have l0 : (0 : Int) ≤ (L : Int) := by omega
      have l1 : (L : Int) ≤ (cc : Int) := by omega
      have HLL := Lib.hid hL
      clear hcs2 hV2 e0 e1 hvv hb3 hcs3 hL hW2
      (first | ((with_reducible refine s_read (v := ?_) rfl rfl ?hw (fun w' hC => ?hrun) ?_); (case hw => rfl); (case hrun => (obtain ⟨hq1, hq2⟩ := bcell hC; go_simp; with_reducible rfl)); refine s_norm (a' := ?_) ?_ ?_; rotate_left; (simp only [Act.put, List.getElem_toArray, List.getElem_cons_zero, List.setIfInBounds_toArray, List.set_cons_zero, List.set_cons_succ]; rfl)) | ((with_reducible refine s_skip rfl rfl ?hw ?_); (case hw => rfl); refine s_norm (a' := ?_) ?_ ?_; rotate_left; (simp only [Act.put, List.getElem_toArray, List.getElem_cons_zero, List.setIfInBounds_toArray, List.set_cons_zero, List.set_cons_succ]; rfl)))
      (first | ((with_reducible refine s_read (v := ?_) rfl rfl ?hw (fun w' hC => ?hrun) ?_); (case hw => rfl); (case hrun => (obtain ⟨hq1, hq2⟩ := bcell hC; go_simp; with_reducible rfl)); refine s_norm (a' := ?_) ?_ ?_; rotate_left; (simp only [Act.put, List.getElem_toArray, List.getElem_cons_succ, List.getElem_cons_zero, List.setIfInBounds_toArray, List.set_cons_zero, List.set_cons_succ]; rfl)) | ((with_reducible refine s_skip rfl rfl ?hw ?_); (case hw => rfl); refine s_norm (a' := ?_) ?_ ?_; rotate_left; (simp only [Act.put, List.getElem_toArray, List.getElem_cons_succ, List.getElem_cons_zero, List.setIfInBounds_toArray, List.set_cons_zero, List.set_cons_succ]; rfl)))
      (first | ((with_reducible refine s_read (v := ?_) rfl rfl ?hw (fun w' hC => ?hrun) ?_); (case hw => rfl); (case hrun => (obtain ⟨hq1, hq2⟩ := bcell hC; go_simp; with_reducible rfl)); refine s_norm (a' := ?_) ?_ ?_; rotate_left; (simp only [Act.put, List.getElem_toArray, List.getElem_cons_succ, List.getElem_cons_zero, List.setIfInBounds_toArray, List.set_cons_zero, List.set_cons_succ]; rfl)) | ((with_reducible refine s_skip rfl rfl ?hw ?_); (case hw => rfl); refine s_norm (a' := ?_) ?_ ?_; rotate_left; (simp only [Act.put, List.getElem_toArray, List.getElem_cons_succ, List.getElem_cons_zero, List.setIfInBounds_toArray, List.set_cons_zero, List.set_cons_succ]; rfl)))
      (first | ((with_reducible refine s_read (v := ?_) rfl rfl ?hw (fun w' hC => ?hrun) ?_); (case hw => rfl); (case hrun => (obtain ⟨hq1, hq2⟩ := bcell hC; go_simp; with_reducible rfl)); refine s_norm (a' := ?_) ?_ ?_; rotate_left; (simp only [Act.put, List.getElem_toArray, List.getElem_cons_succ, List.getElem_cons_zero, List.setIfInBounds_toArray, List.set_cons_zero, List.set_cons_succ]; rfl)) | ((with_reducible refine s_skip rfl rfl ?hw ?_); (case hw => rfl); refine s_norm (a' := ?_) ?_ ?_; rotate_left; (simp only [Act.put, List.getElem_toArray, List.getElem_cons_succ, List.getElem_cons_zero, List.setIfInBounds_toArray, List.set_cons_zero, List.set_cons_succ]; rfl)))
      (first | ((with_reducible refine s_read (v := ?_) rfl rfl ?hw (fun w' hC => ?hrun) ?_); (case hw => rfl); (case hrun => (obtain ⟨hq1, hq2⟩ := bcell hC; go_simp; with_reducible rfl)); refine s_norm (a' := ?_) ?_ ?_; rotate_left; (simp only [Act.put, List.getElem_toArray, List.getElem_cons_succ, List.getElem_cons_zero, List.setIfInBounds_toArray, List.set_cons_zero, List.set_cons_succ]; rfl)) | ((with_reducible refine s_skip rfl rfl ?hw ?_); (case hw => rfl); refine s_norm (a' := ?_) ?_ ?_; rotate_left; (simp only [Act.put, List.getElem_toArray, List.getElem_cons_succ, List.getElem_cons_zero, List.setIfInBounds_toArray, List.set_cons_zero, List.set_cons_succ]; rfl)))
      (first | ((with_reducible refine s_read (v := ?_) rfl rfl ?hw (fun w' hC => ?hrun) ?_); (case hw => rfl); (case hrun => (obtain ⟨hq1, hq2⟩ := bcell hC; go_simp; with_reducible rfl)); refine s_norm (a' := ?_) ?_ ?_; rotate_left; (simp only [Act.put, List.getElem_toArray, List.getElem_cons_succ, List.getElem_cons_zero, List.setIfInBounds_toArray, List.set_cons_zero, List.set_cons_succ]; rfl)) | ((with_reducible refine s_skip rfl rfl ?hw ?_); (case hw => rfl); refine s_norm (a' := ?_) ?_ ?_; rotate_left; (simp only [Act.put, List.getElem_toArray, List.getElem_cons_succ, List.getElem_cons_zero, List.setIfInBounds_toArray, List.set_cons_zero, List.set_cons_succ]; rfl)))
      (first | ((with_reducible refine s_read (v := ?_) rfl rfl ?hw (fun w' hC => ?hrun) ?_); (case hw => rfl); (case hrun => (obtain ⟨hq1, hq2⟩ := bcell hC; go_simp; with_reducible rfl)); refine s_norm (a' := ?_) ?_ ?_; rotate_left; (simp only [Act.put, List.getElem_toArray, List.getElem_cons_succ, List.getElem_cons_zero, List.setIfInBounds_toArray, List.set_cons_zero, List.set_cons_succ]; rfl)) | ((with_reducible refine s_skip rfl rfl ?hw ?_); (case hw => rfl); refine s_norm (a' := ?_) ?_ ?_; rotate_left; (simp only [Act.put, List.getElem_toArray, List.getElem_cons_succ, List.getElem_cons_zero, List.setIfInBounds_toArray, List.set_cons_zero, List.set_cons_succ]; rfl)))
      (first | ((with_reducible refine s_read (v := ?_) rfl rfl ?hw (fun w' hC => ?hrun) ?_); (case hw => rfl); (case hrun => (obtain ⟨hq1, hq2⟩ := bcell hC; go_simp; with_reducible rfl)); refine s_norm (a' := ?_) ?_ ?_; rotate_left; (simp only [Act.put, List.getElem_toArray, List.getElem_cons_succ, List.getElem_cons_zero, List.setIfInBounds_toArray, List.set_cons_zero, List.set_cons_succ]; rfl)) | ((with_reducible refine s_skip rfl rfl ?hw ?_); (case hw => rfl); refine s_norm (a' := ?_) ?_ ?_; rotate_left; (simp only [Act.put, List.getElem_toArray, List.getElem_cons_succ, List.getElem_cons_zero, List.setIfInBounds_toArray, List.set_cons_zero, List.set_cons_succ]; rfl)))
      (first | ((with_reducible refine s_read (v := ?_) rfl rfl ?hw (fun w' hC => ?hrun) ?_); (case hw => rfl); (case hrun => (obtain ⟨hq1, hq2⟩ := bcell hC; go_simp; with_reducible rfl)); refine s_norm (a' := ?_) ?_ ?_; rotate_left; (simp only [Act.put, List.getElem_toArray, List.getElem_cons_succ, List.getElem_cons_zero, List.setIfInBounds_toArray, List.set_cons_zero, List.set_cons_succ]; rfl)) | ((with_reducible refine s_skip rfl rfl ?hw ?_); (case hw => rfl); refine s_norm (a' := ?_) ?_ ?_; rotate_left; (simp only [Act.put, List.getElem_toArray, List.getElem_cons_succ, List.getElem_cons_zero, List.setIfInBounds_toArray, List.set_cons_zero, List.set_cons_succ]; rfl)))
      (first | ((with_reducible refine s_read (v := ?_) rfl rfl ?hw (fun w' hC => ?hrun) ?_); (case hw => rfl); (case hrun => (obtain ⟨hq1, hq2⟩ := bcell hC; go_simp; with_reducible rfl)); refine s_norm (a' := ?_) ?_ ?_; rotate_left; (simp only [Act.put, List.getElem_toArray, List.getElem_cons_succ, List.getElem_cons_zero, List.setIfInBounds_toArray, List.set_cons_zero, List.set_cons_succ]; rfl)) | ((with_reducible refine s_skip rfl rfl ?hw ?_); (case hw => rfl); refine s_norm (a' := ?_) ?_ ?_; rotate_left; (simp only [Act.put, List.getElem_toArray, List.getElem_cons_succ, List.getElem_cons_zero, List.setIfInBounds_toArray, List.set_cons_zero, List.set_cons_succ]; rfl)))
      (first | ((with_reducible refine s_read (v := ?_) rfl rfl ?hw (fun w' hC => ?hrun) ?_); (case hw => rfl); (case hrun => (obtain ⟨hq1, hq2⟩ := bcell hC; go_simp; with_reducible rfl)); refine s_norm (a' := ?_) ?_ ?_; rotate_left; (simp only [Act.put, List.getElem_toArray, List.getElem_cons_succ, List.getElem_cons_zero, List.setIfInBounds_toArray, List.set_cons_zero, List.set_cons_succ]; rfl)) | ((with_reducible refine s_skip rfl rfl ?hw ?_); (case hw => rfl); refine s_norm (a' := ?_) ?_ ?_; rotate_left; (simp only [Act.put, List.getElem_toArray, List.getElem_cons_succ, List.getElem_cons_zero, List.setIfInBounds_toArray, List.set_cons_zero, List.set_cons_succ]; rfl)))
      (first | ((with_reducible refine s_read (v := ?_) rfl rfl ?hw (fun w' hC => ?hrun) ?_); (case hw => rfl); (case hrun => (obtain ⟨hq1, hq2⟩ := bcell hC; go_simp; with_reducible rfl)); refine s_norm (a' := ?_) ?_ ?_; rotate_left; (simp only [Act.put, List.getElem_toArray, List.getElem_cons_succ, List.getElem_cons_zero, List.setIfInBounds_toArray, List.set_cons_zero, List.set_cons_succ]; rfl)) | ((with_reducible refine s_skip rfl rfl ?hw ?_); (case hw => rfl); refine s_norm (a' := ?_) ?_ ?_; rotate_left; (simp only [Act.put, List.getElem_toArray, List.getElem_cons_succ, List.getElem_cons_zero, List.setIfInBounds_toArray, List.set_cons_zero, List.set_cons_succ]; rfl)))
      (first | ((with_reducible refine s_read (v := ?_) rfl rfl ?hw (fun w' hC => ?hrun) ?_); (case hw => rfl); (case hrun => (obtain ⟨hq1, hq2⟩ := bcell hC; go_simp; with_reducible rfl)); refine s_norm (a' := ?_) ?_ ?_; rotate_left; (simp only [Act.put, List.getElem_toArray, List.getElem_cons_succ, List.getElem_cons_zero, List.setIfInBounds_toArray, List.set_cons_zero, List.set_cons_succ]; rfl)) | ((with_reducible refine s_skip rfl rfl ?hw ?_); (case hw => rfl); refine s_norm (a' := ?_) ?_ ?_; rotate_left; (simp only [Act.put, List.getElem_toArray, List.getElem_cons_succ, List.getElem_cons_zero, List.setIfInBounds_toArray, List.set_cons_zero, List.set_cons_succ]; rfl)))
      (first | ((with_reducible refine s_read (v := ?_) rfl rfl ?hw (fun w' hC => ?hrun) ?_); (case hw => rfl); (case hrun => (obtain ⟨hq1, hq2⟩ := bcell hC; go_simp; with_reducible rfl)); refine s_norm (a' := ?_) ?_ ?_; rotate_left; (simp only [Act.put, List.getElem_toArray, List.getElem_cons_succ, List.getElem_cons_zero, List.setIfInBounds_toArray, List.set_cons_zero, List.set_cons_succ]; rfl)) | ((with_reducible refine s_skip rfl rfl ?hw ?_); (case hw => rfl); refine s_norm (a' := ?_) ?_ ?_; rotate_left; (simp only [Act.put, List.getElem_toArray, List.getElem_cons_succ, List.getElem_cons_zero, List.setIfInBounds_toArray, List.set_cons_zero, List.set_cons_succ]; rfl)))
      (first | ((with_reducible refine s_read (v := ?_) rfl rfl ?hw (fun w' hC => ?hrun) ?_); (case hw => rfl); (case hrun => (obtain ⟨hq1, hq2⟩ := bcell hC; go_simp; with_reducible rfl)); refine s_norm (a' := ?_) ?_ ?_; rotate_left; (simp only [Act.put, List.getElem_toArray, List.getElem_cons_succ, List.getElem_cons_zero, List.setIfInBounds_toArray, List.set_cons_zero, List.set_cons_succ]; rfl)) | ((with_reducible refine s_skip rfl rfl ?hw ?_); (case hw => rfl); refine s_norm (a' := ?_) ?_ ?_; rotate_left; (simp only [Act.put, List.getElem_toArray, List.getElem_cons_succ, List.getElem_cons_zero, List.setIfInBounds_toArray, List.set_cons_zero, List.set_cons_succ]; rfl)))
      (first | ((with_reducible refine s_read (v := ?_) rfl rfl ?hw (fun w' hC => ?hrun) ?_); (case hw => rfl); (case hrun => (obtain ⟨hq1, hq2⟩ := bcell hC; go_simp; with_reducible rfl)); refine s_norm (a' := ?_) ?_ ?_; rotate_left; (simp only [Act.put, List.getElem_toArray, List.getElem_cons_succ, List.getElem_cons_zero, List.setIfInBounds_toArray, List.set_cons_zero, List.set_cons_succ]; rfl)) | ((with_reducible refine s_skip rfl rfl ?hw ?_); (case hw => rfl); refine s_norm (a' := ?_) ?_ ?_; rotate_left; (simp only [Act.put, List.getElem_toArray, List.getElem_cons_succ, List.getElem_cons_zero, List.setIfInBounds_toArray, List.set_cons_zero, List.set_cons_succ]; rfl)))
      (first | ((with_reducible refine s_read (v := ?_) rfl rfl ?hw (fun w' hC => ?hrun) ?_); (case hw => rfl); (case hrun => (obtain ⟨hq1, hq2⟩ := bcell hC; go_simp; with_reducible rfl)); refine s_norm (a' := ?_) ?_ ?_; rotate_left; (simp only [Act.put, List.getElem_toArray, List.getElem_cons_succ, List.getElem_cons_zero, List.setIfInBounds_toArray, List.set_cons_zero, List.set_cons_succ]; rfl)) | ((with_reducible refine s_skip rfl rfl ?hw ?_); (case hw => rfl); refine s_norm (a' := ?_) ?_ ?_; rotate_left; (simp only [Act.put, List.getElem_toArray, List.getElem_cons_succ, List.getElem_cons_zero, List.setIfInBounds_toArray, List.set_cons_zero, List.set_cons_succ]; rfl)))
      (first | ((with_reducible refine s_read (v := ?_) rfl rfl ?hw (fun w' hC => ?hrun) ?_); (case hw => rfl); (case hrun => (obtain ⟨hq1, hq2⟩ := bcell hC; go_simp; with_reducible rfl)); refine s_norm (a' := ?_) ?_ ?_; rotate_left; (simp only [Act.put, List.getElem_toArray, List.getElem_cons_succ, List.getElem_cons_zero, List.setIfInBounds_toArray, List.set_cons_zero, List.set_cons_succ]; rfl)) | ((with_reducible refine s_skip rfl rfl ?hw ?_); (case hw => rfl); refine s_norm (a' := ?_) ?_ ?_; rotate_left; (simp only [Act.put, List.getElem_toArray, List.getElem_cons_succ, List.getElem_cons_zero, List.setIfInBounds_toArray, List.set_cons_zero, List.set_cons_succ]; rfl)))
      (first | ((with_reducible refine s_read (v := ?_) rfl rfl ?hw (fun w' hC => ?hrun) ?_); (case hw => rfl); (case hrun => (obtain ⟨hq1, hq2⟩ := bcell hC; go_simp; with_reducible rfl)); refine s_norm (a' := ?_) ?_ ?_; rotate_left; (simp only [Act.put, List.getElem_toArray, List.getElem_cons_succ, List.getElem_cons_zero, List.setIfInBounds_toArray, List.set_cons_zero, List.set_cons_succ]; rfl)) | ((with_reducible refine s_skip rfl rfl ?hw ?_); (case hw => rfl); refine s_norm (a' := ?_) ?_ ?_; rotate_left; (simp only [Act.put, List.getElem_toArray, List.getElem_cons_succ, List.getElem_cons_zero, List.setIfInBounds_toArray, List.set_cons_zero, List.set_cons_succ]; rfl)))
      (first | ((with_reducible refine s_read (v := ?_) rfl rfl ?hw (fun w' hC => ?hrun) ?_); (case hw => rfl); (case hrun => (obtain ⟨hq1, hq2⟩ := bcell hC; go_simp; with_reducible rfl)); refine s_norm (a' := ?_) ?_ ?_; rotate_left; (simp only [Act.put, List.getElem_toArray, List.getElem_cons_succ, List.getElem_cons_zero, List.setIfInBounds_toArray, List.set_cons_zero, List.set_cons_succ]; rfl)) | ((with_reducible refine s_skip rfl rfl ?hw ?_); (case hw => rfl); refine s_norm (a' := ?_) ?_ ?_; rotate_left; (simp only [Act.put, List.getElem_toArray, List.getElem_cons_succ, List.getElem_cons_zero, List.setIfInBounds_toArray, List.set_cons_zero, List.set_cons_succ]; rfl)))
      (first | ((with_reducible refine s_read (v := ?_) rfl rfl ?hw (fun w' hC => ?hrun) ?_); (case hw => rfl); (case hrun => (obtain ⟨hq1, hq2⟩ := bcell hC; go_simp; with_reducible rfl)); refine s_norm (a' := ?_) ?_ ?_; rotate_left; (simp only [Act.put, List.getElem_toArray, List.getElem_cons_succ, List.getElem_cons_zero, List.setIfInBounds_toArray, List.set_cons_zero, List.set_cons_succ]; rfl)) | ((with_reducible refine s_skip rfl rfl ?hw ?_); (case hw => rfl); refine s_norm (a' := ?_) ?_ ?_; rotate_left; (simp only [Act.put, List.getElem_toArray, List.getElem_cons_succ, List.getElem_cons_zero, List.setIfInBounds_toArray, List.set_cons_zero, List.set_cons_succ]; rfl)))
      (first | ((with_reducible refine s_read (v := ?_) rfl rfl ?hw (fun w' hC => ?hrun) ?_); (case hw => rfl); (case hrun => (obtain ⟨hq1, hq2⟩ := bcell hC; go_simp; with_reducible rfl)); refine s_norm (a' := ?_) ?_ ?_; rotate_left; (simp only [Act.put, List.getElem_toArray, List.getElem_cons_succ, List.getElem_cons_zero, List.setIfInBounds_toArray, List.set_cons_zero, List.set_cons_succ]; rfl)) | ((with_reducible refine s_skip rfl rfl ?hw ?_); (case hw => rfl); refine s_norm (a' := ?_) ?_ ?_; rotate_left; (simp only [Act.put, List.getElem_toArray, List.getElem_cons_succ, List.getElem_cons_zero, List.setIfInBounds_toArray, List.set_cons_zero, List.set_cons_succ]; rfl)))
      (first | ((with_reducible refine s_read (v := ?_) rfl rfl ?hw (fun w' hC => ?hrun) ?_); (case hw => rfl); (case hrun => (obtain ⟨hq1, hq2⟩ := bcell hC; go_simp; with_reducible rfl)); refine s_norm (a' := ?_) ?_ ?_; rotate_left; (simp only [Act.put, List.getElem_toArray, List.getElem_cons_succ, List.getElem_cons_zero, List.setIfInBounds_toArray, List.set_cons_zero, List.set_cons_succ]; rfl)) | ((with_reducible refine s_skip rfl rfl ?hw ?_); (case hw => rfl); refine s_norm (a' := ?_) ?_ ?_; rotate_left; (simp only [Act.put, List.getElem_toArray, List.getElem_cons_succ, List.getElem_cons_zero, List.setIfInBounds_toArray, List.set_cons_zero, List.set_cons_succ]; rfl)))
      (first | ((with_reducible refine s_read (v := ?_) rfl rfl ?hw (fun w' hC => ?hrun) ?_); (case hw => rfl); (case hrun => (obtain ⟨hq1, hq2⟩ := bcell hC; go_simp; with_reducible rfl)); refine s_norm (a' := ?_) ?_ ?_; rotate_left; (simp only [Act.put, List.getElem_toArray, List.getElem_cons_succ, List.getElem_cons_zero, List.setIfInBounds_toArray, List.set_cons_zero, List.set_cons_succ]; rfl)) | ((with_reducible refine s_skip rfl rfl ?hw ?_); (case hw => rfl); refine s_norm (a' := ?_) ?_ ?_; rotate_left; (simp only [Act.put, List.getElem_toArray, List.getElem_cons_succ, List.getElem_cons_zero, List.setIfInBounds_toArray, List.set_cons_zero, List.set_cons_succ]; rfl)))
      (first | ((with_reducible refine s_read (v := ?_) rfl rfl ?hw (fun w' hC => ?hrun) ?_); (case hw => rfl); (case hrun => (obtain ⟨hq1, hq2⟩ := bcell hC; go_simp; with_reducible rfl)); refine s_norm (a' := ?_) ?_ ?_; rotate_left; (simp only [Act.put, List.getElem_toArray, List.getElem_cons_succ, List.getElem_cons_zero, List.setIfInBounds_toArray, List.set_cons_zero, List.set_cons_succ]; rfl)) | ((with_reducible refine s_skip rfl rfl ?hw ?_); (case hw => rfl); refine s_norm (a' := ?_) ?_ ?_; rotate_left; (simp only [Act.put, List.getElem_toArray, List.getElem_cons_succ, List.getElem_cons_zero, List.setIfInBounds_toArray, List.set_cons_zero, List.set_cons_succ]; rfl)))
      (first | ((with_reducible refine s_read (v := ?_) rfl rfl ?hw (fun w' hC => ?hrun) ?_); (case hw => rfl); (case hrun => (obtain ⟨hq1, hq2⟩ := bcell hC; go_simp; with_reducible rfl)); refine s_norm (a' := ?_) ?_ ?_; rotate_left; (simp only [Act.put, List.getElem_toArray, List.getElem_cons_succ, List.getElem_cons_zero, List.setIfInBounds_toArray, List.set_cons_zero, List.set_cons_succ]; rfl)) | ((with_reducible refine s_skip rfl rfl ?hw ?_); (case hw => rfl); refine s_norm (a' := ?_) ?_ ?_; rotate_left; (simp only [Act.put, List.getElem_toArray, List.getElem_cons_succ, List.getElem_cons_zero, List.setIfInBounds_toArray, List.set_cons_zero, List.set_cons_succ]; rfl)))
      (first | ((with_reducible refine s_read (v := ?_) rfl rfl ?hw (fun w' hC => ?hrun) ?_); (case hw => rfl); (case hrun => (obtain ⟨hq1, hq2⟩ := bcell hC; go_simp; with_reducible rfl)); refine s_norm (a' := ?_) ?_ ?_; rotate_left; (simp only [Act.put, List.getElem_toArray, List.getElem_cons_succ, List.getElem_cons_zero, List.setIfInBounds_toArray, List.set_cons_zero, List.set_cons_succ]; rfl)) | ((with_reducible refine s_skip rfl rfl ?hw ?_); (case hw => rfl); refine s_norm (a' := ?_) ?_ ?_; rotate_left; (simp only [Act.put, List.getElem_toArray, List.getElem_cons_succ, List.getElem_cons_zero, List.setIfInBounds_toArray, List.set_cons_zero, List.set_cons_succ]; rfl)))
      (refine s_fresh (v := .slice (some ⟨wd.heap.size, 0, none⟩) 1 1) (w' := wd.alloc (.cells #[.int .i64 (x j).dst] 3)) rfl rfl ?hw ?hrun ?hb ?_; (case hw => rfl); (case hrun => (go_simp; try rfl)); (case hb => exact (Below.refl _ _).alloc (Nat.le_refl _) _); refine s_norm (a' := ?_) ?_ ?_; rotate_left; (simp only [Act.put, List.getElem_toArray, List.getElem_cons_succ, List.getElem_cons_zero, List.setIfInBounds_toArray, List.set_cons_zero, List.set_cons_succ]; rfl))
      (obtain ⟨v9, w9, hrun9, hrt9, hb9⟩ := Rt.append (ty := 48) (y := (x j).dst) (c2 := 1) (HRt.out.later ((Below.refl wd.heap.size wd).alloc (Nat.le_refl _) (.cells #[.int .i64 (x j).dst] 3))) (Blk.new wd 3 #[.int .i64 (x j).dst]) (by have := HM.out.2.2.2.2; omega); rw [← HLL.out] at hrun9; refine s_fresh (v := v9) (w' := w9) rfl rfl ?hw ?hrun ?hb ?_; (case hw => rfl); (case hrun => (simp [execOp, resolve, invoke, builtin, Act.eval, hrun9, Result.andThen])); (case hb => exact hb9); refine s_norm (a' := ?_) ?_ ?_; rotate_left; (simp only [Act.put, List.getElem_toArray, List.getElem_cons_succ, List.getElem_cons_zero, List.setIfInBounds_toArray, List.set_cons_zero, List.set_cons_succ]; rfl))
      (have hb89 : Below wd.heap.size wd w9 := ((Below.refl wd.heap.size wd).alloc (Nat.le_refl _) (.cells #[.int .i64 (x j).dst] 3)).trans (hb9.mono (by simp)); have hy9 : 0 ≤ T + (x j).metric := (by have := HM.out; omega); have hk9 : k' < 1024 := (by have := HL.out.le; have := HKK.out; omega); have hl9 : (l ++ [((u : Nat) : Int)]).length ≤ 100000 := (by have := HM.out.2.2.2.2; simp; omega); have hbs9 : base ≤ w9.heap.size := (by have := HBS.out; have := HL.out.size; have := HA8.out.size; have := hwd.size; have := hb89.size; omega)); (refine s_do_call (f := 38) (R := fun v w' => OfferPost w9 base S W Q A m c x n B' (updD D (i : Int)) qv' k' d' u (l ++ [(x j).dst]) (T + (x j).metric) (.returned v) w') ((show Calls Try.prog 38 #[.pointer (some ⟨S, 0, none⟩), .int .i64 (x j).dst, v9, .int .i64 (T + (x j).metric)] w9 (OfferPost w9 base S W Q A m c x n B' (updD D (i : Int)) qv' k' d' u (l ++ [(x j).dst]) (T + (x j).metric)) from (by rw [HU.out]; rw [HU.out] at hrt9; exact Offer_calls w9 base S W Q A m c x n B' (updD D (i : Int)) qv' k' d' u _ _ v9 (HSd.out.later hb89) hun hrt9 hy9 hk9 hl9 hbs9)).mono fun e w' h => ⟨.tuple #[], h.1, by have h1 := h.1; subst h1; exact h⟩) (fn := _) Try.func38 (by kernel_rfl) rfl rfl rfl rfl ?hw ?hargs ?_; (case hw => rfl); (case hargs => (simp only [List.map_toArray, List.map_cons, List.map_nil]; rfl)); (intro v10 w10 hO); refine s_norm (a' := ?_) ?_ ?_; rotate_left; (simp only [Act.put, List.getElem_toArray, List.getElem_cons_succ, List.getElem_cons_zero, List.setIfInBounds_toArray, List.set_cons_zero, List.set_cons_succ]; rfl))
      refine s_nil ?_
      have hfin := HL.out.next (u := u) (j := j) (l := l) (w9 := w9) (w10 := w10) (HA8.out.trans ((hwd.mono HA8.out.size).trans (hb89.mono (Nat.le_trans HA8.out.size hwd.size)))) hO HU.out hj HSJ.out HDJ.out (updD_same _ _) HBI.out (by
        obtain ⟨⟨v', h1, h2⟩, _⟩ := HK.out.valid _ _ _ HBB.out
        rw [show v' = (i : Int) from h2.symm] at h1
        exact h1) HM.out.1 (by have := HM.out; omega) (by have := HM.out.2.2.2.2; omega) HQO.out (fun ad e => ⟨HO2.out ad e, by
        obtain ⟨ad', e', h1, _⟩ := HO1.out (by omega)
        rw [e] at e'
        injection e' with e'
        rw [e']
        exact h1⟩) HWB.out.lt H.out.q.blk.lt hw3
      have HFIN := Lib.hid hfin
      clear hfin hO sc sf sl xc xf xl w0 w1 wf
      go_wp2
      go_roundw
      case rel =>
        obtain ⟨B2, qv2, k2, d2, C2, h2⟩ := HFIN.out
        exact ⟨t + 1, B2, qv2, k2, d2, C2, by omega, num_step t, h2⟩
      case measure => exact measure_step hlt
    · obtain rfl : t = cnt := by omega
      go_wp2
      go_end0
      exact HL.out.end_ HCNT.out HF.out HBB.out HO4.out hw3
end Go.Proofs.Yteaipeejhippiaa
