/- The best routes from a node: spf.All. -/
import Derived.Test.YteaipeejhippiaaPDj
import Derived.Test.YteaipeejhippiaaPAny
import Derived.Test.YteaipeejhippiaaPClone
import Derived.Test.YteaipeejhippiaaGCheck
import Derived.Deep.LoopGhost
namespace Go.Proofs.Yteaipeejhippiaa
open Go.RowKit
attribute [local go_sem] cell_set_self
set_option linter.unusedVariables false

theorem makes_value {P : Program} {ops : Array Oper} {o : Oper} {a : Act} {w w' : World} {v : Value} {R : Value → World → Prop} (hg : o.guard = none) (hrun : (execOp a.eval o).run P w = .ok (.value v) w') (hb : Below w.heap.size w w') (hR : R v w') : Makes (ops := ops) P o a w R := by
  refine ⟨by simp [Region.wanted, hg], ?_⟩
  rw [hrun]
  exact ⟨hb, hR⟩
theorem makes_call {P : Program} {ops : Array Oper} {o : Oper} {a : Act} {w : World} {R : Value → World → Prop} {f : FuncId} {fn : Func} {bs : Array Operand} {ts : Array TypeId} {args : Array Value} (hg : o.guard = none) (hf : P.funcs[f]? = some fn) (hname : (fn.name == "runtime.NumGoroutine") = false) (hb : fn.body.isSome = true)
    (hop : o.op = .call { callee := .value (.func f), args := bs, argTypes := ts }) (hargs : bs.map a.eval = args) (hc : Calls P f args w fun e w' => ∃ u, e = .returned u ∧ Below w.heap.size w w' ∧ R u w') : Makes (ops := ops) P o a w R := by
  refine ⟨by simp [Region.wanted, hg], ?_⟩
  have h1 : fn.name ≠ "runtime.NumGoroutine" := by simpa using hname
  obtain ⟨c, hc'⟩ := Option.isSome_iff_exists.1 hb
  have he : (callFunc f args).run P w = .ok (.enter f args) w := by simp [callFunc, hf, h1, hc']
  have hrun : (execOp a.eval o).run P w = .ok (.enter f args) w := by
    unfold execOp
    simp [hop, resolve, Deferred.ofValue, invoke, Act.eval, hargs, he]
  rw [hrun]
  exact ⟨rfl, hc⟩
theorem ev {a : Act} {t : Tmp} {v : Value} (h : a.tmps[t]? = some v) : a.eval (.tmp t) = v := by
  simp [Act.eval, Array.getD_eq_getD_getElem?, h]
theorem q_eq {Q : Exit → Act → World → Prop} {a a' : Act} {w : World} (h : a = a') (hq : Q .normal a' w) : Q .normal a w := h ▸ hq
theorem infoW : Info Try.prog 116 (.agg #[.slice none 0 0, .int .i64 0, .bool false]) 3 40 := by unfold Info; kernel_rfl
theorem made_at (z : Array Value) (n i j : Nat) (hi : i < n) (hj : j < z.size) : (madeCells z (n * z.size))[i * z.size + j]? = z[j]? := by
  have h1 : i * z.size + j < n * z.size := by
    have : i * z.size + z.size ≤ n * z.size := by rw [← Nat.succ_mul]; exact Nat.mul_le_mul_right _ hi
    omega
  have h2 : (i * z.size + j) % z.size = j := by rw [Nat.add_comm, Nat.add_mul_mod_self_right, Nat.mod_eq_of_lt hj]
  unfold madeCells
  rw [Array.getElem?_map, Array.getElem?_range, if_pos h1]
  simp [h2, Array.getElem?_eq_getElem hj, getElem!_pos z j hj]
theorem make_full (w : World) (t e : TypeId) {z : Value} {size bytes : Nat} (ht : Try.prog.underlying t = some (.slice e)) (hi : Info Try.prog e z size bytes) (n : Nat) (hb : bytes * n ≤ 281474976710656) (hn : n ≤ 1000000) : (Instr.makeSlice t (.int .i64 (n : Int)) (.int .i64 (n : Int))).run Try.prog w = .ok (.slice (some ⟨w.heap.size, 0, none⟩) n n) (w.alloc (.cells (madeCells z.cells (n * size)) e)) := by
  obtain ⟨i, h1, h2, h3, h4⟩ := info_parts hi
  have hr := run_make (P := Try.prog) w t e i z ht h1 h2 .i64 .i64 n n (by omega) (Int.le_refl _) (by rw [h4]; omega) (by omega)
  simp only [Int.toNat_natCast, h3] at hr
  exact hr
theorem AllBad_calls (w : World) (A : Option Addr) (m c : Nat) (x : Nat → Lnk) (n fr : Int) (hm : m ≤ 1000) (hx : ∀ i, i < m → I64 (x i).src ∧ I64 (x i).dst) (hs : Strip w A m 5 (fun i => link (x i))) (hbad : ¬ Net n m x ∨ fr < 0 ∨ n ≤ fr) :
    Calls Try.prog 23 #[.int .i64 n, .slice A m c, .int .i64 fr] w fun e w' => e = .returned (.tuple #[.slice none 0 0, .slice none 0 0, .int .i64 2]) ∧ Below w.heap.size w w' := by
  have HC := Lib.hid (Check_calls w n A m c x (by omega) hx hs)
  by_cases hN : Net n m x
  · rw [chk_ok hN] at HC
    have hb2 : fr < 0 ∨ n ≤ fr := hbad.resolve_left (fun h => h hN)
    clear hs hx hbad hN hm
    by_cases h0 : fr < 0
    · clear hb2
      go_enter Try.func23, Try.ntmps23
      go_wp2_with (go_at_call 15; (with_reducible refine HC.out.mono ?_); rintro e w1 ⟨rfl, hb⟩)
      go_ret3
      exact ⟨rfl, hb⟩
    · have h1 : n ≤ fr := hb2.resolve_left h0
      clear hb2
      go_enter Try.func23, Try.ntmps23
      go_wp2_with (go_at_call 15; (with_reducible refine HC.out.mono ?_); rintro e w1 ⟨rfl, hb⟩)
      go_ret3
      exact ⟨rfl, hb⟩
  · have hne := chk_ne hN
    generalize chk n m x = r at *
    clear hs hx hbad hN hm
    go_enter Try.func23, Try.ntmps23
    go_wp2_with (go_at_call 15; (with_reducible refine HC.out.mono ?_); rintro e w1 ⟨rfl, hb⟩)
    go_ret3
    exact ⟨rfl, hb⟩
theorem start1 {m : Nat} {x : Nat → Lnk} {n f : Nat} {B' : (Int → Option (List Int × Int))} {k' : Nat} {d d' : Nat → Item} (h : (B' = (fun _ => none) ∧ k' = 0 ∧ (∀ z, many d' k' z = many d 0 z) ∧ ((fun _ => false) (f : Int) = true ∨ ∃ l' c', (fun _ => none : (Int → Option (List Int × Int))) (f : Int) = some (l', c') ∧ ¬ Bet 0 [(f : Int)] c' l')) ∨
    (B' = updT (fun _ => none) (f : Int) ([(f : Int)], 0) ∧ (fun _ => false) (f : Int) = false ∧ (∀ l' c', (fun _ => none : (Int → Option (List Int × Int))) (f : Int) = some (l', c') → Bet 0 [(f : Int)] c' l') ∧ k' = 0 + 1 ∧ ∀ z, many d' k' z = many d 0 z + if (⟨0, ([(f : Int)].length : Int), (f : Int)⟩ : Item) = z then 1 else 0)) :
    Keeps M1 (fun _ => True) m x (f : Int) B' (fun _ => false) (many d' k') 0 0 (fun _ _ => False) ∧ Full m x (f : Int) (fun _ _ => False) B' (fun _ => false) (fun _ _ => False) (fun _ => False) ∧ k' ≤ 1 := by
  rcases h with ⟨_, _, _, h | ⟨_, _, h, _⟩⟩ | ⟨rfl, _, _, rfl, hq⟩
  · cases h
  · cases h
  · exact ⟨Keeps.init M1 _ m x (f : Int) rfl (fun _ => rfl) fun y => by rw [hq, many, Nat.zero_add]; rfl, fun p l v c _ hD => (by cases hD), Nat.le_refl _⟩
theorem Dj.boxes {w0 w : World} {base S W Q : Nat} {A : Option Addr} {m c : Nat} {x : Nat → Lnk} {n : Nat} {fr : Int} {B : (Int → Option (List Int × Int))} {D : Int → Bool} {qv : Value} {k : Nat} {d : Nat → Item} {T : Int} {r : Nat} {C : Int → Nat → Prop} {g : Nat} {y0 : Option Item} (h : Dj w0 w base S W Q A m c x n fr B D qv k d T r C g y0) {b : Nat} {cs : Array Value} (hg : Blk w b 89 cs) (ho : some b ≠ qv.ownBlock) (hb : base ≤ b) (hB : base ≤ w.heap.size) (u0 u1 u2 : Value) :
    Dj w0 (((w.setCell ⟨b, 0, none⟩ u0).setCell ⟨b, 1, none⟩ u1).setCell ⟨b, 2, none⟩ u2) base S W Q A m c x n fr B D qv k d T r C g y0 :=
  h.box hg (((Fx.set w ⟨b, 0, none⟩ u0).trans (Fx.set _ ⟨b, 1, none⟩ u1) (fun _ _ e => e)).trans (Fx.set _ ⟨b, 2, none⟩ u2) (fun _ _ e => e)) ho hb hB
def routeO : Option (List Int × Int) → List Int
  | none => []
  | some y => y.1
/-- The slice v holds what was found, in blocks from lo on. -/
def RtS (w : World) (lo : Nat) (v : Value) (o : Option (List Int × Int)) : Prop := ∃ A c, v = .slice A (routeO o).length c ∧ Strip w A (routeO o).length 1 (intRow (nth (routeO o))) ∧ ∀ ad, A = some ad → lo ≤ ad.block
theorem RtO.strip {w : World} {v : Value} {o : Option (List Int × Int)} (h : RtO w v o) : ∃ A c, v = .slice A (routeO o).length c ∧ Strip w A (routeO o).length 1 (intRow (nth (routeO o))) ∧ (A = none → (routeO o).length = 0 ∧ c = 0) := by
  cases o with
  | none => exact ⟨none, 0, h, fun h => absurd h (by simp [routeO]), fun _ => ⟨rfl, rfl⟩⟩
  | some y =>
    obtain ⟨b, c, cs, h1, h2, h3, h4⟩ := (show Rt w v y.1 from h)
    obtain ⟨A, c', h5, h6⟩ := (show Rt w v y.1 from h).strip
    rw [h1] at h5
    injection h5 with e1 e2 e3
    subst e1
    exact ⟨_, c, h1, h6, fun e => by cases e⟩
/-- The routes and costs told so far. -/
structure Tolds (wr : World) (lo R1 R2 n t : Nat) (B : (Int → Option (List Int × Int))) : Prop where
  r1 : ∃ cs, Blk wr R1 48 cs ∧ cs.size = n ∧ ∀ i, i < t → ∃ v, cs[i]? = some v ∧ RtS wr lo v (B (i : Int))
  r2 : ∃ cs, Blk wr R2 3 cs ∧ cs.size = n ∧ ∀ i, i < t → cs[i]? = some (.int .i64 (costO (B (i : Int))))
theorem RtS.fx {w w' : World} {X : Nat → Prop} {lo : Nat} {v : Value} {o : Option (List Int × Int)} (h : RtS w lo v o) (f : Fx w w' X) (hX : ∀ b, lo ≤ b → ¬ X b) : RtS w' lo v o := by
  obtain ⟨A, c, h1, h2, h3⟩ := h
  exact ⟨A, c, h1, h2.fx f fun ad e _ => hX _ (h3 ad e), h3⟩
theorem Tolds.later {w w' : World} {lo R1 R2 n t : Nat} {B : (Int → Option (List Int × Int))} (h : Tolds w lo R1 R2 n t B) (hb : Below w.heap.size w w') : Tolds w' lo R1 R2 n t B := by
  obtain ⟨⟨c1, b1, s1, h1⟩, ⟨c2, b2, s2, h2⟩⟩ := h
  exact ⟨⟨c1, b1.later hb, s1, fun i hi => by
    obtain ⟨v, h3, h4⟩ := h1 i hi
    exact ⟨v, h3, h4.fx (Fx.new hb fun _ => False) fun _ _ => id⟩⟩, ⟨c2, b2.later hb, s2, h2⟩⟩
theorem Tolds.next {w : World} {lo R1 R2 n t : Nat} {B : (Int → Option (List Int × Int))} (h : Tolds w lo R1 R2 n t B) (ht : t < n) (h1 : R1 < lo) (h2 : R2 < lo) {v : Value} (hv : RtS w lo v (B (t : Int))) : Tolds ((w.setCell ⟨R1, t, none⟩ v).setCell ⟨R2, t, none⟩ (.int .i64 (costO (B (t : Int))))) lo R1 R2 n (t + 1) B := by
  obtain ⟨⟨c1, b1, s1, g1⟩, ⟨c2, b2, s2, g2⟩⟩ := h
  have ne : R1 ≠ R2 := b1.ne b2 (by decide)
  have f : Fx w ((w.setCell ⟨R1, t, none⟩ v).setCell ⟨R2, t, none⟩ (.int .i64 (costO (B (t : Int))))) (fun j => j = R1 ∨ j = R2) := ((Fx.set w ⟨R1, t, none⟩ v).mono (fun _ _ e => .inl e)).trans (Fx.set _ ⟨R2, t, none⟩ _) (fun _ _ e => .inr e)
  have hX : ∀ b, lo ≤ b → ¬ (b = R1 ∨ b = R2) := fun b hb e => by omega
  refine ⟨⟨_, (b1.set_ t v).far (p := ⟨R2, t, none⟩) ne _, by simpa using s1, fun i hi => ?_⟩, ⟨_, (b2.far (p := ⟨R1, t, none⟩) (Ne.symm ne) v).set_ t _, by simpa using s2, fun i hi => ?_⟩⟩
  · by_cases e : i = t
    · subst e
      exact ⟨v, by rw [Array.getElem?_setIfInBounds_self, if_pos (by omega)], hv.fx f hX⟩
    · obtain ⟨u, h3, h4⟩ := g1 i (by omega)
      exact ⟨u, by rw [Array.getElem?_setIfInBounds_ne (fun e' => e e'.symm)]; exact h3, h4.fx f hX⟩
  · by_cases e : i = t
    · subst e
      rw [Array.getElem?_setIfInBounds_self, if_pos (by omega)]
    · rw [Array.getElem?_setIfInBounds_ne (fun e' => e e'.symm)]
      exact g2 i (by omega)
def AllPost (w : World) (m : Nat) (x : Nat → Lnk) (n f : Nat) (e : Ending) (w' : World) : Prop :=
  ∃ R1 R2 lo E, e = .returned (.tuple #[.slice (some ⟨R1, 0, none⟩) n n, .slice (some ⟨R2, 0, none⟩) n n, .int .i64 0]) ∧ Best m x (f : Int) E ∧ Tolds w' lo R1 R2 n n E ∧ Below w.heap.size w w'
/-- What the region yields that makes room for the answers. -/
def S17 (n B0 : Nat) : Nat → (Nat → Value) → Value → World → Prop
  | 0, _, v, _ => v = .int .i64 (n : Int)
  | 1, _, v, w => ∃ R, v = .slice (some ⟨R, 0, none⟩) n n ∧ Blk w R 48 (madeCells #[.slice none 0 0] (n * 1)) ∧ B0 ≤ R
  | 2, _, v, _ => v = .int .i64 (n : Int)
  | 3, _, v, w => ∃ R, v = .slice (some ⟨R, 0, none⟩) n n ∧ Blk w R 3 (madeCells #[.int .i64 0] (n * 1)) ∧ B0 ≤ R
  | 4, V, v, _ => v = V 1
  | 5, V, v, _ => v = V 3
  | _, _, _, _ => True
theorem S17_later {n B0 : Nat} (i : Nat) (V : Nat → Value) (v : Value) (w w' : World) (hb : Below w.heap.size w w') (h : S17 n B0 i V v w) : S17 n B0 i V v w' := by
  match i, h with
  | 0, h => exact h
  | 1, ⟨W, h1, h2, h3⟩ => exact ⟨W, h1, h2.later hb, h3⟩
  | 2, h => exact h
  | 3, ⟨W, h1, h2, h3⟩ => exact ⟨W, h1, h2.later hb, h3⟩
  | 4, h => exact h
  | 5, h => exact h
  | (_ + 6), h => exact h
theorem info48 : Info Try.prog 48 (.slice none 0 0) 1 24 := by unfold Info; kernel_rfl
theorem not_dst {ops : Array Oper} {t : Tmp} (h : ((List.range ops.size).all fun j => dstOf ops j != some t) = true) : ∀ j, j < ops.size → dstOf ops j ≠ some t := fun j hj => by
  simp only [List.all_eq_true, List.mem_range, bne_iff_ne] at h
  exact h j hj
/-- What the region yields that makes the search. -/
def S3 (A : Option Addr) (m c n B0 : Nat) : Nat → (Nat → Value) → Value → World → Prop
  | 0, _, v, _ => v = .slice A m c
  | 1, _, v, _ => v = .int .i64 (n : Int)
  | 2, _, v, w => ∃ W, v = .slice (some ⟨W, 0, none⟩) n n ∧ Blk w W 116 (madeCells #[.slice none 0 0, .int .i64 0, .bool false] (n * 3)) ∧ B0 ≤ W
  | 3, _, v, w => ∃ Q, v = .pointer (some ⟨Q, 0, none⟩) ∧ Blk w Q 125 #[.bool true, .slice none 0 0] ∧ B0 ≤ Q
  | 4, V, v, _ => ∃ W Q, V 2 = .slice (some ⟨W, 0, none⟩) n n ∧ V 3 = .pointer (some ⟨Q, 0, none⟩) ∧ v = .agg #[.slice A m c, .slice (some ⟨W, 0, none⟩) n n, .pointer (some ⟨Q, 0, none⟩)]
  | 5, V, v, w => ∃ S W Q, V 4 = .agg #[.slice A m c, .slice (some ⟨W, 0, none⟩) n n, .pointer (some ⟨Q, 0, none⟩)] ∧ v = .pointer (some ⟨S, 0, none⟩) ∧ Blk w S 114 #[.slice A m c, .slice (some ⟨W, 0, none⟩) n n, .pointer (some ⟨Q, 0, none⟩)] ∧ B0 ≤ S
  | 6, V, v, _ => v = V 5
  | _, _, _, _ => True
theorem S3_later {A : Option Addr} {m c n B0 : Nat} (i : Nat) (V : Nat → Value) (v : Value) (w w' : World) (hb : Below w.heap.size w w') (h : S3 A m c n B0 i V v w) : S3 A m c n B0 i V v w' := by
  match i, h with
  | 0, h => exact h
  | 1, h => exact h
  | 2, ⟨W, h1, h2, h3⟩ => exact ⟨W, h1, h2.later hb, h3⟩
  | 3, ⟨W, h1, h2, h3⟩ => exact ⟨W, h1, h2.later hb, h3⟩
  | 4, h => exact h
  | 5, ⟨S, W, Q, h1, h2, h3, h4⟩ => exact ⟨S, W, Q, h1, h2, h3.later hb, h4⟩
  | 6, h => exact h
  | (_ + 7), h => exact h
set_option maxRecDepth 100000 in
set_option maxHeartbeats 16000000 in
theorem All_calls (w : World) (A : Option Addr) (m c : Nat) (x : Nat → Lnk) (n f : Nat) (N : Net (n : Int) m x) (hs : Strip w A m 5 (fun i => link (x i))) (hf : f < n) :
    Calls Try.prog 23 #[.int .i64 (n : Int), .slice A m c, .int .i64 (f : Int)] w (AllPost w m x n f) := by
  have HN := Lib.hid N
  have HS := Lib.hid hs
  have HF := Lib.hid hf
  have hm5 : m ≤ 64 := N.m1
  have HC := Lib.hid (Check_calls w (n : Int) A m c x (by omega) (fun i hi => by
    have h := N.may i hi
    have h1 := N.n1
    have := h.s0
    have := h.s1
    have := h.d0
    have := h.d1
    unfold I64
    omega) hs)
  rw [chk_ok N] at HC
  have f0 : ¬ ((f : Int) < 0) := by omega
  have f1 : ¬ ((n : Int) ≤ (f : Int)) := by omega
  have n0 : (n : Int) ≤ 16 := N.n1
  clear N hs hf
  go_enter Try.func23, Try.ntmps23
  go_upto_region 3 with (go_at_call 15; (with_reducible refine HC.out.mono ?_); rintro e w1 ⟨rfl, hb⟩; have HB1 := Lib.hid hb; clear hb)
  refine any_reg (S3 A m c n w1.heap.size) (by kernel_rfl) _ (by kernel_rfl) rfl S3_later ?hcg ?hstep ?hgo
  case hcg =>
    intro i V V' hV v w h
    match i, h with
    | 0, h => exact h
    | 1, h => exact h
    | 2, h => exact h
    | 3, h => exact h
    | 4, ⟨W, Q, h1, h2, h3⟩ => exact ⟨W, Q, (hV 2 (by kernel_rfl)).symm.trans h1, (hV 3 (by kernel_rfl)).symm.trans h2, h3⟩
    | 5, ⟨S, W, Q, h1, h2, h3, h4⟩ => exact ⟨S, W, Q, (hV 4 (by kernel_rfl)).symm.trans h1, h2, h3, h4⟩
    | 6, h => exact (show v = V' 5 by rw [← hV 5 (by kernel_rfl)]; exact h)
    | (_ + 7), h => exact h
  case hstep =>
    intro i o ho V b w2 hb hd hof
    match i, ho with
    | 0, ho =>
      injection ho with ho
      subst ho
      have e0 := ev ((hof 1 (not_dst (by kernel_rfl))).trans rfl)
      exact makes_value rfl (by simp [execOp, e0]) (Below.refl _ _) rfl
    | 1, ho =>
      injection ho with ho
      subst ho
      have e0 := ev ((hof 0 (not_dst (by kernel_rfl))).trans rfl)
      exact makes_value rfl (by simp [execOp, e0]) (Below.refl _ _) rfl
    | 2, ho =>
      injection ho with ho
      subst ho
      obtain ⟨h1, h2⟩ := hd 1 32 (by kernel_rfl) (by kernel_rfl)
      have e0 := ev (h1.trans (congrArg some h2))
      exact makes_value (w' := w2.alloc (.cells (madeCells #[.slice none 0 0, .int .i64 0, .bool false] (n * 3)) 116)) rfl (by simp [execOp, e0, make_full w2 112 116 Try.underlying112 infoW n (by omega) (by omega), Result.andThen]; rfl) ((Below.refl _ _).alloc (Nat.le_refl _) _) ⟨w2.heap.size, rfl, Blk.new _ _ _, hb.size⟩
    | 3, ho =>
      injection ho with ho
      subst ho
      exact makes_call (f := 27) (args := #[]) rfl Try.func27 (by kernel_rfl) rfl rfl (by simp) ((New_calls w2).mono fun e w' h => ⟨_, h.1, by rw [← h.2]; exact (Below.refl _ _).alloc (Nat.le_refl _) _, w2.heap.size, rfl, by rw [← h.2]; exact Blk.new _ _ _, hb.size⟩)
    | 4, ho =>
      injection ho with ho
      subst ho
      obtain ⟨h1, h2⟩ := hd 0 31 (by kernel_rfl) (by kernel_rfl)
      obtain ⟨h3, W, h4, h5⟩ := hd 2 33 (by kernel_rfl) (by kernel_rfl)
      obtain ⟨h6, q, h7, h8⟩ := hd 3 34 (by kernel_rfl) (by kernel_rfl)
      have e0 := ev (h1.trans (congrArg some h2))
      have e1 := ev (h3.trans (congrArg some h4))
      have e2 := ev (h6.trans (congrArg some h7))
      exact makes_value rfl (v := .agg #[.slice A m c, .slice (some ⟨W, 0, none⟩) n n, .pointer (some ⟨q, 0, none⟩)]) (w' := w2) (by simp [execOp, e0, e1, e2, Result.andThen]; go_simp) (Below.refl _ _) ⟨W, q, h4, h7, rfl⟩
    | 5, ho =>
      injection ho with ho
      subst ho
      obtain ⟨h1, W, q, _, _, h2⟩ := hd 4 35 (by kernel_rfl) (by kernel_rfl)
      have e0 := ev (h1.trans (congrArg some h2))
      exact makes_value rfl (v := .pointer (some ⟨w2.heap.size, 0, none⟩)) (w' := w2.alloc (.cells #[.slice A m c, .slice (some ⟨W, 0, none⟩) n n, .pointer (some ⟨q, 0, none⟩)] 114)) (by simp [execOp, e0, Result.andThen]; go_simp) ((Below.refl _ _).alloc (Nat.le_refl _) _) ⟨w2.heap.size, W, q, h2, rfl, Blk.new _ _ _, hb.size⟩
    | 6, ho =>
      injection ho with ho
      subst ho
      obtain ⟨h1, h2⟩ := hd 5 36 (by kernel_rfl) (by kernel_rfl)
      exact makes_value rfl (by simp [execOp, ev h1]) (Below.refl _ _) rfl
    | (k + 7), ho => cases ho
  case hgo =>
    intro V w2 hb hS
    refine q_eq (a' := ?_) ?_ ?_
    rotate_left
    · simp only [List.size_toArray, List.length_cons, List.length_nil, Nat.reduceAdd, laidAll, dstOf, List.getElem?_toArray, List.getElem?_cons_succ, List.getElem?_cons_zero, Option.bind_some, Act.put, List.setIfInBounds_toArray, List.set_cons_zero, List.set_cons_succ]
      rfl
    · have h0 : V 0 = .slice A m c := hS 0 (by simp)
      have h1 : V 1 = .int .i64 (n : Int) := hS 1 (by simp)
      obtain ⟨W, h2, hW, hWb⟩ := hS 2 (by simp)
      obtain ⟨Q, h3, hQ, hQb⟩ := hS 3 (by simp)
      obtain ⟨W1, Q1, e1, e2, h4⟩ := hS 4 (by simp)
      obtain ⟨S, W2, Q2, e3, h5, hSS, hSb⟩ := hS 5 (by simp)
      have h6 : V 6 = V 5 := hS 6 (by simp)
      rw [h2] at e1
      rw [h3] at e2
      injection e1 with e1
      injection e1 with e1
      injection e1 with e1
      injection e2 with e2
      injection e2 with e2
      injection e2 with e2
      subst e1 e2
      rw [h4] at e3
      injection e3 with e3
      have e4 := congrArg Array.toList e3
      simp only [List.cons.injEq, Value.slice.injEq, Value.pointer.injEq, Option.some.injEq, Addr.mk.injEq, and_true, true_and] at e4
      obtain ⟨e4, e5⟩ := e4
      subst e4 e5
      rw [h5] at h6
      simp only [h0, h1, h2, h3, h4, h5, h6]
      have HSS := Lib.hid hSS
      have HWW := Lib.hid hW
      have HQQ := Lib.hid hQ
      have HB2 := Lib.hid (HB1.out.trans (hb.mono HB1.out.size))
      have HBa := Lib.hid (show w.heap.size ≤ w1.heap.size from HB1.out.size)
      have HBb := Lib.hid (And.intro hWb (And.intro hQb (And.intro hSb hb)))
      clear h0 h1 h2 h3 h4 h5 h6 hSS hW hQ e3 hS hWb hQb hSb hb
      generalize hbase : w1.heap.size = base at *
      have HBE := Lib.hid hbase
      clear hbase
      obtain ⟨sc, sf, sl⟩ := HSS.out.row
      have hW0 : WaysAt w2 W n (fun _ => .slice none 0 0) (fun i => if i < 0 then -1 else 0) (fun _ => false) := ⟨_, HWW.out, fun i hi => by
        have h0 := made_at #[.slice none 0 0, .int .i64 0, .bool false] n i 0 hi (by simp)
        have h1 := made_at #[.slice none 0 0, .int .i64 0, .bool false] n i 1 hi (by simp)
        have h2 := made_at #[.slice none 0 0, .int .i64 0, .bool false] n i 2 hi (by simp)
        exact ⟨h0, h1, h2⟩⟩
      have HW0 := Lib.hid hW0
      clear hW0
      go_wp2
      go_loopw [42] (fun tv wr => ∃ t : Nat, t ≤ n ∧ tv = .int .i64 (t : Int) ∧ WaysAt wr W n (fun _ => .slice none 0 0) (fun i => if i < t then -1 else 0) (fun _ => false) ∧ Fx w2 wr (fun j => j = W)) (fun tv _ => n - (intOf tv).toNat)
      case atStart => exact ⟨0, Nat.zero_le _, rfl, HW0.out, Fx.refl _ _⟩
      case round =>
        obtain ⟨t, htn, rfl, hwt, hfx⟩ := hrel
        have HWT := Lib.hid hwt
        have HFX := Lib.hid hfx
        clear hwt hfx sc sf sl
        have nWS := HSS.out.ne HWW.out (by decide)
        obtain ⟨sc, sf, sl⟩ := (HSS.out.fx HFX.out nWS).row
        by_cases hlt : t < n
        · obtain ⟨cs, hcb, hcs⟩ := HWT.out
          obtain ⟨e0, e1, e2⟩ := hcs t hlt
          have w1' : wr.cell? ⟨W, t * 3 + 1, none⟩ = some (.int .i64 (if t < t then -1 else 0)) := (hcb.cell _).trans e1
          rw [if_neg (Nat.lt_irrefl t)] at w1'
          have wf := hcb.frozen
          have wl := hcb.lt
          have t0 : (0 : Int) ≤ (t : Int) := by omega
          have t1 : (t : Int) < (n : Int) := by omega
          clear hcb hcs e0 e1 e2
          go_wp2
          go_roundw
          case rel => exact ⟨t + 1, by omega, num_step t, (HWT.out.set1 hlt (-1)).congr (fun _ _ => rfl) (fun j hj => by
            by_cases e : j = t
            · subst e
              rw [if_pos rfl, if_pos (by omega)]
            · rw [if_neg e]
              by_cases e2 : j < t
              · rw [if_pos e2, if_pos (by omega)]
              · rw [if_neg e2, if_neg (by omega)]) (fun _ _ => rfl), HFX.out.trans (Fx.set _ _ _) (fun _ _ e => e)⟩
          case measure => exact measure_step hlt
        · obtain rfl : n = t := by omega
          have hdQ := HQQ.out.ne HWW.out (by decide)
          have hs0 : Srch wr base S W Q A m c x n (fun _ => none) (fun _ => false) (.slice none 0 0) 0 (fun _ => ⟨0, 0, 0⟩) := ⟨HSS.out.fx HFX.out nWS, ⟨_, HWT.out.congr (fun _ _ => rfl) (fun i hi => by rw [if_pos hi]; rfl) (fun _ _ => rfl), fun _ _ => rfl⟩, ⟨HQQ.out.fx HFX.out hdQ, QV.nil _ _ _, fun k _ h => by omega, by simp [Value.ownBlock]⟩,
            (HS.out.below HB2.out).fx HFX.out (fun ad e h0 e' => by
              obtain ⟨ad', e2, h2, _⟩ := HS.out h0
              rw [e] at e2
              injection e2 with e2
              have := HBb.out.1
              have := HBa.out
              rw [e2] at e'
              omega), fun ad e h0 => by
              obtain ⟨ad', e2, h2, _⟩ := HS.out h0
              rw [e] at e2
              injection e2 with e2
              have := HBa.out
              rw [e2]
              omega, HBb.out.2.2.1, HBb.out.1, HBb.out.2.1, fun _ _ _ h => by cases h⟩
          have HS0 := Lib.hid hs0
          have HBw := Lib.hid (show Below base w1 wr from (HBb.out.2.2.2.trans (HFX.out.below (X := fun j => j = W) (by rw [← HBE.out]; exact HBb.out.2.2.2.size) (fun i e => by rw [e]; exact HBb.out.1))))
          have HSZ := Lib.hid (show base ≤ wr.heap.size from by have := HBw.out.size; rw [HBE.out] at this; exact this)
          clear hs0
          have hR0 : ∀ w5 : World, Blk w5 (wr.heap.size) 3 #[.int .i64 (f : Int)] → Rt w5 (.slice (some ⟨wr.heap.size, 0, none⟩) 1 1) [(f : Int)] := fun w5 h => ⟨_, 1, _, rfl, Nat.le_refl _, h, fun i hi => by
            obtain rfl : i = 0 := by simp at hi; omega
            rfl⟩
          have HOF := Lib.hid (Offer_calls (wr.alloc (.cells #[.int .i64 (f : Int)] 3)) base S W Q A m c x n (fun _ => none) (fun _ => false) (.slice none 0 0) 0 (fun _ => ⟨0, 0, 0⟩) f [(f : Int)] 0 (.slice (some ⟨wr.heap.size, 0, none⟩) 1 1) (HS0.out.later ((Below.refl _ _).alloc (Nat.le_refl _) _)) HF.out (hR0 _ (Blk.new _ _ _)) (Int.le_refl _) (by omega) (by simp) (by have := HSZ.out; simp; omega))
          clear hR0
          go_wp2_with (first | (go_at_call 38; (with_reducible refine HOF.out.mono ?_); rintro e w3 ⟨rfl, B1, qv1, k1, d1, hs1, hfx1, ho1, hcs1⟩; have hinit := start1 (m := m) (x := x) (n := n) hcs1; have HS1 := Lib.hid hs1; have HB3 := Lib.hid (show base ≤ w3.heap.size from Nat.le_trans (by have := HSZ.out; simp; omega) hfx1.size); have HBL3 := Lib.hid (show Below base w1 w3 from HBw.out.trans (((Below.refl base wr).alloc HSZ.out (.cells #[.int .i64 (f : Int)] 3)).trans (hfx1.below (by have := HSZ.out; simp; omega) (fun i e => by rcases e with e | e | e; (rw [e]; exact HBb.out.1); (rw [e]; exact HBb.out.2.1); (simp [Value.ownBlock] at e))))); obtain ⟨sc, sf, sl⟩ := hs1.s.row; have HP := Lib.hid (DPop_calls (g := 66) HS1.out hinit.1 hinit.2.1 (by have := hinit.2.2; have := pot1_le x m n (fun _ => false); omega) (by omega) HBL3.out HB3.out); clear hs1 hfx1 ho1 hcs1 hinit) | (go_at_call 29; (with_reducible refine HP.out.mono ?_); rintro e w4 ⟨z4, er4, rfl, qv4, k4, d4, y4, hd4, hy0, hy1, ho4, hf4⟩; have HD4 := Lib.hid hd4; have HY0 := Lib.hid hy0; have HY1 := Lib.hid hy1; have hf4s := hf4.size; clear hd4 hy0 hy1 ho4 hf4))
          have HBX := Lib.hid (Blk.new w4 89 #[.int .i64 z4.cost, .int .i64 z4.hops, .int .i64 z4.node])
          have HB4 := Lib.hid (show base ≤ w4.heap.size from Nat.le_trans HB3.out hf4s)
          have HD5 := Lib.hid (HD4.out.later ((Below.refl w4.heap.size w4).alloc (Nat.le_refl _) (.cells #[.int .i64 z4.cost, .int .i64 z4.hops, .int .i64 z4.node] 89)) HB4.out)
          have HNX := Lib.hid (fun e : some w4.heap.size = qv4.ownBlock => Nat.lt_irrefl _ (HD4.out.s.q.row.lt _ e.symm).2)
          clear hf4s
          generalize w4.alloc (.cells #[.int .i64 z4.cost, .int .i64 z4.hops, .int .i64 z4.node] 89) = w5 at *
          go_loopg [12, 13] 66 (fun g v12 v13 wr => ∃ (B : (Int → Option (List Int × Int))) (D : Int → Bool) (qv : Value) (k : Nat) (d : Nat → Item) (T : Int) (r : Nat) (C : Int → Nat → Prop) (y0 : Option Item) (er : Int) (bx : Nat) (z : Item), v12 = .pointer (some ⟨bx, 0, none⟩) ∧ v13 = .int .i64 er ∧ Dj w1 wr base S W Q A m c x n (f : Int) B D qv k d T r C g y0 ∧ (y0 = none → er = 8) ∧ (∀ z', y0 = some z' → z' = z ∧ er = 0) ∧ Blk wr bx 89 #[.int .i64 z.cost, .int .i64 z.hops, .int .i64 z.node] ∧ some bx ≠ qv.ownBlock ∧ base ≤ bx ∧ base ≤ wr.heap.size)
          case atStart => exact ⟨B1, fun _ => false, qv4, k4, d4, 0, 0, _, y4, er4, w4.heap.size, z4, rfl, rfl, HD5.out, HY0.out, HY1.out, HBX.out, HNX.out, HB4.out, Nat.le_trans HB4.out (Nat.le_of_lt HBX.out.lt)⟩
          case round =>
            obtain ⟨B, D, qv, k, d, T, r, C, y0, er, bx, z, rfl, rfl, hd, hy0, hy1, hbx, hnx, hbb, hbs⟩ := hrel
            clear HD5 HNX HBX HD4 HY0 HY1
            have HD5 := Lib.hid hd
            have HBX := Lib.hid hbx
            have HNX := Lib.hid hnx
            have HBB := Lib.hid (And.intro hbb hbs)
            obtain ⟨xc, xf, xl⟩ := hbx.row
            clear hd hbx hnx hbb hbs
            cases y0 with
            | none =>
              obtain rfl := hy0 rfl
              clear hy0 hy1
              have hk0 := HD5.out.gone rfl
              subst hk0
              have HE := Lib.hid (best1 HD5.out.keeps HD5.out.full (fun y => by simp [many]))
              have HWb := Lib.hid HD5.out.below
              have hr5 : r ≤ 66 := by have := HD5.out.sum; omega
              have HSR := Lib.hid HD5.out.s
              have HKP := Lib.hid HD5.out.keeps.valid
              obtain ⟨W0, hW0⟩ : ∃ W0, W0 = wr := ⟨_, rfl⟩
              have HSR0 := Lib.hid (show Srch W0 base S W Q A m c x n B D qv 0 d by rw [hW0]; exact HSR.out)
              have HBW0 := Lib.hid (show Below W0.heap.size W0 wr by rw [hW0]; exact Below.refl _ _)
              clear HBX HNX xc xf xl HD5 hW0
              go_upto_region 17 with (fail)
              refine any_reg (S17 n wr.heap.size) (by kernel_rfl) _ (by kernel_rfl) rfl S17_later ?hcg ?hstep ?hgo
              case hcg =>
                intro i V V' hV v w h
                match i, h with
                | 0, h => exact h
                | 1, h => exact h
                | 2, h => exact h
                | 3, h => exact h
                | 4, h => exact (show v = V' 1 by rw [← hV 1 (by kernel_rfl)]; exact h)
                | 5, h => exact (show v = V' 3 by rw [← hV 3 (by kernel_rfl)]; exact h)
                | (_ + 6), h => exact h
              case hstep =>
                intro i o ho V b w2 hb hd hof
                match i, ho with
                | 0, ho =>
                  injection ho with ho
                  subst ho
                  have e0 := ev ((hof 0 (not_dst (by kernel_rfl))).trans rfl)
                  exact makes_value rfl (by simp [execOp, e0]) (Below.refl _ _) rfl
                | 1, ho =>
                  injection ho with ho
                  subst ho
                  obtain ⟨h1, h2⟩ := hd 0 79 (by kernel_rfl) (by kernel_rfl)
                  have e0 := ev (h1.trans (congrArg some h2))
                  exact makes_value (w' := w2.alloc (.cells (madeCells #[.slice none 0 0] (n * 1)) 48)) rfl (by simp [execOp, e0, make_full w2 72 48 Try.underlying72 info48 n (by omega) (by omega), Result.andThen]; rfl) ((Below.refl _ _).alloc (Nat.le_refl _) _) ⟨w2.heap.size, rfl, Blk.new _ _ _, hb.size⟩
                | 2, ho =>
                  injection ho with ho
                  subst ho
                  have e0 := ev ((hof 0 (not_dst (by kernel_rfl))).trans rfl)
                  exact makes_value rfl (by simp [execOp, e0]) (Below.refl _ _) rfl
                | 3, ho =>
                  injection ho with ho
                  subst ho
                  obtain ⟨h1, h2⟩ := hd 2 81 (by kernel_rfl) (by kernel_rfl)
                  have e0 := ev (h1.trans (congrArg some h2))
                  exact makes_value (w' := w2.alloc (.cells (madeCells #[.int .i64 0] (n * 1)) 3)) rfl (by simp [execOp, e0, make_full w2 48 3 Try.underlying48 infoI n (by omega) (by omega), Result.andThen]; rfl) ((Below.refl _ _).alloc (Nat.le_refl _) _) ⟨w2.heap.size, rfl, Blk.new _ _ _, hb.size⟩
                | 4, ho =>
                  injection ho with ho
                  subst ho
                  obtain ⟨h1, h2⟩ := hd 1 80 (by kernel_rfl) (by kernel_rfl)
                  exact makes_value rfl (by simp [execOp, ev h1]) (Below.refl _ _) rfl
                | 5, ho =>
                  injection ho with ho
                  subst ho
                  obtain ⟨h1, h2⟩ := hd 3 82 (by kernel_rfl) (by kernel_rfl)
                  exact makes_value rfl (by simp [execOp, ev h1]) (Below.refl _ _) rfl
                | (k + 6), ho => cases ho
              case hgo =>
                intro V5 w6 hb6 hS6
                refine q_eq (a' := ?_) ?_ ?_
                rotate_left
                · simp only [List.size_toArray, List.length_cons, List.length_nil, Nat.reduceAdd, laidAll, dstOf, List.getElem?_toArray, List.getElem?_cons_succ, List.getElem?_cons_zero, Option.bind_some, Act.put, List.setIfInBounds_toArray, List.set_cons_zero, List.set_cons_succ]
                  rfl
                · have h0 : V5 0 = .int .i64 (n : Int) := hS6 0 (by simp)
                  obtain ⟨R1, h1, hR1, hR1b⟩ := hS6 1 (by simp)
                  have h2 : V5 2 = .int .i64 (n : Int) := hS6 2 (by simp)
                  obtain ⟨R2, h3, hR2, hR2b⟩ := hS6 3 (by simp)
                  have h4 : V5 4 = V5 1 := hS6 4 (by simp)
                  have h5 : V5 5 = V5 3 := hS6 5 (by simp)
                  rw [h1] at h4
                  rw [h3] at h5
                  simp only [h0, h1, h2, h3, h4, h5]
                  obtain ⟨lo, hloe⟩ : ∃ lo, lo = w6.heap.size := ⟨_, rfl⟩
                  have HT0 := Lib.hid (show Tolds w6 lo R1 R2 n 0 B from ⟨⟨_, hR1, by rw [size_madeCells]; omega, fun i hi => by omega⟩, ⟨_, hR2, by rw [size_madeCells]; omega, fun i hi => by omega⟩⟩)
                  have HSR6 := Lib.hid (HSR.out.later hb6)
                  have HRb := Lib.hid (And.intro hR1b hR2b)
                  have HRl := Lib.hid (show R1 < lo ∧ R2 < lo from by rw [hloe]; exact ⟨hR1.lt, hR2.lt⟩)
                  have HB6 := Lib.hid (HWb.out.trans (hb6.mono HBB.out.2))
                  have HBW6 := Lib.hid (HBW0.out.trans (hb6.mono HBW0.out.size))
                  have HS6 := Lib.hid (Nat.le_trans HBB.out.2 hb6.size)
                  have HW6 := Lib.hid (HBW0.out.size)
                  have HLO := Lib.hid (show lo ≤ w6.heap.size by omega)
                  clear hloe
                  clear h0 h1 h2 h3 h4 h5 hS6 hR1 hR2 hR1b hR2b hb6
                  obtain ⟨sc, sf, sl⟩ := HSR6.out.s.row
                  go_wp2
                  go_loopw [88] (fun tv y3 => ∃ t : Nat, t ≤ n ∧ tv = .int .i64 (t : Int) ∧ Tolds y3 lo R1 R2 n t B ∧ Below W0.heap.size W0 y3 ∧ Below base w1 y3 ∧ base ≤ y3.heap.size ∧ lo ≤ y3.heap.size) (fun tv _ => n - (intOf tv).toNat)
                  case atStart => exact ⟨0, Nat.zero_le _, rfl, HT0.out, HBW6.out, HB6.out, HS6.out, HLO.out⟩
                  case round =>
                    obtain ⟨t, htn, rfl, ht0, hbw, hbb6, hs6, hlo⟩ := hrel
                    clear HT0 sc sf sl
                    have HT := Lib.hid ht0
                    have HBW := Lib.hid hbw
                    have HB7 := Lib.hid hbb6
                    have HS7 := Lib.hid hs6
                    have HLo := Lib.hid hlo
                    have HSr := Lib.hid (HSR0.out.later hbw)
                    clear ht0 hbw hbb6 hs6 hlo
                    by_cases hlt : t < n
                    · have t0 : (0 : Int) ≤ (t : Int) := by omega
                      have t1 : (t : Int) < (n : Int) := by omega
                      obtain ⟨V3, ⟨cs, hcb, hcs⟩, hV3⟩ := HSr.out.ways
                      obtain ⟨e0, e1, e2⟩ := hcs t hlt
                      obtain ⟨A2, c2, hv2, hst2, hz2⟩ := (hV3 t hlt).strip
                      rw [hv2] at e0
                      have hlen : (routeO (B (t : Int))).length ≤ 1000 := by
                        cases hbt : B (t : Int) with
                        | none => simp [routeO]
                        | some y =>
                          have := (HKP.out (t : Int) y.1 y.2 hbt).2.2
                          simp only [routeO]
                          omega
                      have v0 : wr.cell? ⟨W, t * 3, none⟩ = some (.slice A2 (routeO (B (t : Int))).length c2) := (hcb.cell _).trans e0
                      have v1 : wr.cell? ⟨W, t * 3 + 1, none⟩ = some (.int .i64 (costO (B (t : Int)))) := (hcb.cell _).trans e1
                      have v2 : wr.cell? ⟨W, t * 3 + 2, none⟩ = some (.bool (D (t : Int))) := (hcb.cell _).trans e2
                      have wf := hcb.frozen
                      have wl := hcb.lt
                      have HCL := Lib.hid fun (w' : World) (hb : Below wr.heap.size wr w') => CloneI_calls w' A2 _ c2 (nth (routeO (B (t : Int)))) hlen (hst2.below hb) hz2
                      have HCO := Lib.hid (rfl : costO (B (t : Int)) = costO (B (t : Int)))
                      obtain ⟨L, hL⟩ : ∃ L, (routeO (B (t : Int))).length = L := ⟨_, rfl⟩
                      obtain ⟨cO, hcO⟩ : ∃ cO, costO (B (t : Int)) = cO := ⟨_, rfl⟩
                      obtain ⟨dO, hdO⟩ : ∃ dO, D (t : Int) = dO := ⟨_, rfl⟩
                      rw [hL] at v0 HCL
                      rw [hcO] at v1
                      rw [hdO] at v2
                      have HL := Lib.hid hL
                      have HCo := Lib.hid hcO
                      obtain ⟨⟨ca, ba, sa, ga⟩, ⟨cb, bb, sb, gb⟩⟩ := HT.out
                      have al := ba.lt
                      have bl := bb.lt
                      have HBA := Lib.hid (And.intro ba bb)
                      have ea : ca[t]? = some ca[t] := Array.getElem?_eq_getElem (by omega)
                      have eb : cb[t]? = some cb[t] := Array.getElem?_eq_getElem (by omega)
                      have nab := ba.ne bb (by decide)
                      clear hcb hcs e0 e1 e2 hV3 hv2 hst2 hz2 hlen hL hcO hdO ga gb ba bb HCO
                      go_upto_region 21 with (fail)
                      have HX := Lib.hid (Blk.new wr 116 #[.slice A2 L c2, .int .i64 cO, .bool dO])
                      have HXb := Lib.hid (show Below wr.heap.size wr (wr.alloc (.cells #[.slice A2 L c2, .int .i64 cO, .bool dO] 116)) from (Below.refl _ _).alloc (Nat.le_refl _) _)
                      generalize hw8 : wr.alloc (.cells #[.slice A2 L c2, .int .i64 cO, .bool dO] 116) = w8 at *
                      clear hw8 v0 v1 v2 wf wl
                      obtain ⟨xc, xf, xl⟩ := HX.out.row
                      have HC8 := Lib.hid fun (w' : World) (h : Below w8.heap.size w8 w') => HCL.out w' (HXb.out.trans (h.mono HXb.out.size))
                      have HD8 := Lib.hid (show Below w8.heap.size w8 w8.drew from ⟨rfl, rfl, rfl, Nat.le_refl _, fun _ _ => rfl⟩)
                      go_region_with (go_at_call 40; (with_reducible refine (HC8.out _ HD8.out).mono ?_); rintro e w9 ⟨A8, c8, rfl, hs8, hl8, hb8⟩; have HS8 := Lib.hid hs8; have HL8 := Lib.hid hl8; have HB8 := Lib.hid (HD8.out.trans hb8); have HA9 := Lib.hid (And.intro ((HBA.out.1.later HXb.out).later HB8.out) ((HBA.out.2.later HXb.out).later HB8.out)); clear xc xf xl hs8 hl8 hb8; obtain ⟨xc, xf, xl⟩ := (HX.out.later HB8.out).row; obtain ⟨ac, af, al9⟩ := HA9.out.1.row; obtain ⟨bc, bf, bl9⟩ := HA9.out.2.row)
                      all_goals
                        have hv9 : RtS w9 lo (.slice A8 L c8) (B (t : Int)) := ⟨A8, c8, by rw [HL.out], by rw [HL.out]; exact HS8.out, fun ad e => Nat.le_trans HLo.out (Nat.le_trans HXb.out.size (HL8.out ad e))⟩
                        have hn9 := ((HT.out.later HXb.out).later HB8.out).next hlt HRl.out.1 HRl.out.2 hv9
                        rw [HCo.out] at hn9
                        have HN9 := Lib.hid hn9
                        have hz9 : wr.heap.size ≤ w9.heap.size := Nat.le_trans HXb.out.size HB8.out.size
                        have hb9 : Below wr.heap.size wr w9 := HXb.out.trans (HB8.out.mono HXb.out.size)
                        have HW9 := Lib.hid (((HBW.out.trans (hb9.mono HBW.out.size)).setCell (p := ⟨R1, t, none⟩) (Nat.le_trans HW6.out HRb.out.1) (.slice A8 L c8)).setCell (p := ⟨R2, t, none⟩) (Nat.le_trans HW6.out HRb.out.2) (.int .i64 cO))
                        have HB9 := Lib.hid (((HB7.out.trans (hb9.mono HS7.out)).setCell (p := ⟨R1, t, none⟩) (Nat.le_trans HBB.out.2 HRb.out.1) (.slice A8 L c8)).setCell (p := ⟨R2, t, none⟩) (Nat.le_trans HBB.out.2 HRb.out.2) (.int .i64 cO))
                        have HZ9 := Lib.hid (And.intro (Nat.le_trans HS7.out hz9) (Nat.le_trans HLo.out hz9))
                        clear hv9 hn9 hz9 hb9 xc xf xl ac af al9 bc bf bl9
                        go_wp2
                        go_roundw
                        case rel => exact ⟨t + 1, by omega, num_step t, HN9.out, HW9.out, HB9.out, by simpa [World.setCell] using HZ9.out.1, by simpa [World.setCell] using HZ9.out.2⟩
                        case measure => exact measure_step hlt
                    · obtain rfl : n = t := by omega
                      go_wp2
                      go_ret3
                      exact ⟨R1, R2, lo, B, rfl, HE.out, HT.out, HB1.out.trans (HB7.out.mono HBa.out)⟩
            | some z' =>
              obtain ⟨rfl, rfl⟩ := hy1 z' rfl
              clear hy0 hy1
              obtain ⟨g', rfl⟩ : ∃ g', gk = g' + 1 := ⟨gk - 1, by have := HD5.out.pot; simp only at this; omega⟩
              have HST := Lib.hid (DSettle_calls HD5.out HN.out ⟨by omega, by omega⟩ HBB.out.2)
              go_wp2_with (first | (go_at_call 39; (with_reducible refine HST.out.mono ?_); rintro e w6 ⟨rfl, B', D', qv', k', d', T', r', C', s1, s2, s3, s4, s5, s6, s7, s8⟩; have hbx6 := HBX.out.fx s7 (by rintro (e | e | e); (exact HBX.out.ne HD5.out.s.wblk.choose_spec (by decide) e); (exact HBX.out.ne HD5.out.s.q.blk (by decide) e); (exact HNX.out e)); have HBX6 := Lib.hid hbx6; have hb6 : base ≤ w6.heap.size := Nat.le_trans HBB.out.2 s7.size; have HB6 := Lib.hid hb6; have HP := Lib.hid (DPop_calls (w0 := w1) (g := g') (s1.later ((Below.refl w6.heap.size w6).alloc (Nat.le_refl _) (.cells #[.int .i64 z'.cost, .int .i64 z'.hops, .int .i64 z'.node] 89))) s2 s3 s4 s5 (s6.alloc hb6 _) (by simp; omega)); have HL6 := Lib.hid (fun g hg => (s1.q.row.lt g hg).2); have HQ6 := Lib.hid s1.q.blk.lt; obtain ⟨xc, xf, xl⟩ := hbx6.row; clear s1 s2 s3 s4 s5 s6 s7 s8 hbx6 hb6) | (go_at_call 29; (with_reducible refine HP.out.mono ?_); rintro e w7 ⟨z7, er7, rfl, qv7, k7, d7, y7, hd7, hy0, hy1, ho7, hf7⟩; have hbx7 := (Blk.new w6 89 #[.int .i64 z'.cost, .int .i64 z'.hops, .int .i64 z'.node]).fx hf7 (by rintro (e | e); (have := HQ6.out; omega); (have := HL6.out _ e.symm; omega)); have HNX7 := Lib.hid (fun e : some w6.heap.size = qv7.ownBlock => Nat.lt_irrefl _ (HL6.out _ (ho7 _ e.symm))); have HBX7 := Lib.hid hbx7; have HD7 := Lib.hid hd7; have HY0 := Lib.hid hy0; have HY1 := Lib.hid hy1; have HS7 := Lib.hid (show base ≤ w7.heap.size from Nat.le_trans HB6.out (Nat.le_trans (by simp) hf7.size)); obtain ⟨xc, xf, xl⟩ := hbx7.row; clear hd7 hy0 hy1 ho7 hf7 hbx7))
              go_roundg g'
              case measure => omega
              case rel => exact ⟨B', D', qv7, k7, d7, T', r', C', y7, er7, w6.heap.size, z7, rfl, rfl, HD7.out.boxes HBX7.out HNX7.out HB6.out HS7.out _ _ _, HY0.out, HY1.out, by simpa using ((HBX7.out.set_ 0 (.int .i64 z7.cost)).set_ 1 (.int .i64 z7.hops)).set_ 2 (.int .i64 z7.node), HNX7.out, HB6.out, by simpa [World.setCell] using HS7.out⟩
end Go.Proofs.Yteaipeejhippiaa
