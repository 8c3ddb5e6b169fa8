/- The best route where nothing is asked: cspf.Find. -/
import Derived.Test.YteaipeejhippiaaPLDj
import Derived.Test.YteaipeejhippiaaPLinks
import Derived.Test.YteaipeejhippiaaPBest
import Derived.Test.YteaipeejhippiaaPAny2
namespace Go.Proofs.Yteaipeejhippiaa
open Go.RowKit Go.ChangeMaps Go.MapKept
open Go.Maps (Keyed)
attribute [local go_sem] cell_set_self
set_option linter.unusedVariables false

theorem Node_yes (w : World) (bn : Nat) (n a : Int) (hc : w.cell? ⟨bn, 0, none⟩ = some (.int .i64 n)) (hb : bn < w.heap.size) (h0 : 0 ≤ a) (h1 : a < n) : Calls Try.prog 24 #[.int .i64 a, .pointer (some ⟨bn, 0, none⟩)] w fun e w' => e = .returned (.bool true) ∧ w = w' := by
  go_enter Try.func24, Try.ntmps24
  go_wp2
  go_ret
  exact ⟨rfl, rfl⟩
theorem Node_no (w : World) (bn : Nat) (n a : Int) (hc : w.cell? ⟨bn, 0, none⟩ = some (.int .i64 n)) (hb : bn < w.heap.size) (h : a < 0 ∨ n ≤ a) : Calls Try.prog 24 #[.int .i64 a, .pointer (some ⟨bn, 0, none⟩)] w fun e w' => e = .returned (.bool false) ∧ w = w' := by
  by_cases h0 : a < 0
  · clear h
    go_enter Try.func24, Try.ntmps24
    go_wp2
    go_ret
    exact ⟨rfl, rfl⟩
  · have h1 : n ≤ a := h.resolve_left h0
    have hd : decide (a < n) = false := by simp; omega
    clear h
    go_enter Try.func24, Try.ntmps24
    go_wp2
    go_ret
    exact ⟨rfl, rfl⟩
def FindPost (w : World) (m : Nat) (x : Nat → Lnk) (n fr tt : Int) (e : Ending) (w' : World) : Prop :=
  ∃ v cost er, e = .returned (.tuple #[v, .int .i64 cost, .int .i64 er]) ∧ Below w.heap.size w w' ∧ (Asks n m x fr tt → ∀ E, Best m x fr E → Tells1 w' (E tt) v cost er) ∧ (¬ Asks n m x fr tt → v = .slice none 0 0 ∧ cost = 0 ∧ er = 2)
theorem find_bad {w w' : World} {m : Nat} {x : Nat → Lnk} {n fr tt : Int} (hb : Below w.heap.size w w') (h : ¬ Asks n m x fr tt) : FindPost w m x n fr tt (.returned (.tuple #[.slice none 0 0, .int .i64 0, .int .i64 2])) w' :=
  ⟨_, _, _, rfl, hb, fun h' => absurd h' h, fun _ => ⟨rfl, rfl, rfl⟩⟩
theorem wl_yes {P : Program} (w : World) {ops : Array Oper} {rest : List Oper} {o : Oper} {a : Act} {Q : Exit → Act → World → Prop} (hg : o.guard = none) (m x : Operand) (t : TypeId) (hop : o.op = Op.lookup t m x true) (k e : TypeId) (K : Keyed P k) (ht : P.underlying t = some (.map k e)) (b n : Nat) (f : Value → Option Value) (z : Value) (hz : (zeroValue e).run P w = .ok z w) (hm : a.eval m = .map (some b)) (h : MapOf P k w b n f) (key : Value) (hx : a.eval x = key) (hkey : ∃ kl, keyOf P k key = some kl) (y : Value) (hf : f key = some y)
    (hK : wpList P ops Q rest (a.put o.dst (.tuple #[y, .bool true])) w) : wpList P ops Q (o :: rest) a w := by
  refine wpList_plain hg fun K' hK' => ?_
  unfold Oper.wp
  rw [look_yes m x t hop k e K ht b n f z hz hm h key hx hkey y hf]
  exact hK' _ _ hK
theorem wl_no {P : Program} (w : World) {ops : Array Oper} {rest : List Oper} {o : Oper} {a : Act} {Q : Exit → Act → World → Prop} (hg : o.guard = none) (m x : Operand) (t : TypeId) (hop : o.op = Op.lookup t m x true) (k e : TypeId) (K : Keyed P k) (ht : P.underlying t = some (.map k e)) (b n : Nat) (f : Value → Option Value) (z : Value) (hz : (zeroValue e).run P w = .ok z w) (hm : a.eval m = .map (some b)) (h : MapOf P k w b n f) (key : Value) (hx : a.eval x = key) (hkey : ∃ kl, keyOf P k key = some kl) (hf : f key = none)
    (hK : wpList P ops Q rest (a.put o.dst (.tuple #[z, .bool false])) w) : wpList P ops Q (o :: rest) a w := by
  refine wpList_plain hg fun K' hK' => ?_
  unfold Oper.wp
  rw [look_no m x t hop k e K ht b n f z hz hm h key hx hkey hf]
  exact hK' _ _ hK
theorem Lay.box87 {w w' : World} {base S Mb Md Q : Nat} {A : Option Addr} {m c : Nat} {x : Nat → Lnk} {n : Nat} {B : (Int × Int → Option (List Int × Int))} {D : Int × Int → Bool} {qv : Value} {k : Nat} {d : Nat → Item} (h : Lay w base S Mb Md Q A m c x n B D qv k d) {b : Nat} {cs : Array Value} (hg : Blk w b 87 cs) (hb : base ≤ b) (f : Fx w w' (fun j => j = b)) : Lay w' base S Mb Md Q A m c x n B D qv k d :=
  h.fx f (h.s.ne hg (by decide)) (fun e => h.best.ne_blk hg e.symm) (fun e => h.done.ne_blk hg e.symm) (h.q.blk.ne hg (by decide)) (fun g hgo => by
    obtain ⟨cs', hc⟩ := h.q.own_blk hgo
    exact hc.ne hg (by decide)) (fun b' cs' hb' => hb'.ne hg (by decide)) (fun j hj e => by omega) fun b' cs' hb' => hb'.ne hg (by decide)
/-- What is best so far, in block b. -/
def PickAt (w : World) (b : Nat) : Option (List Int × Int) → Prop
  | none => Blk w b 87 #[.slice none 0 0, .int .i64 (-1)]
  | some yb => ∃ sv, Blk w b 87 #[sv, .int .i64 yb.2] ∧ Rt w sv yb.1
theorem PickAt.later {w w' : World} {b : Nat} {o : Option (List Int × Int)} (h : PickAt w b o) (hb : Below w.heap.size w w') : PickAt w' b o := by
  cases o with
  | none => exact Blk.later (show Blk w b 87 _ from h) hb
  | some yb =>
    obtain ⟨sv, h1, h2⟩ := (show ∃ sv, Blk w b 87 #[sv, .int .i64 yb.2] ∧ Rt w sv yb.1 from h)
    exact ⟨sv, h1.later hb, h2.later hb⟩
theorem PickAt.blk {w : World} {b : Nat} {o : Option (List Int × Int)} (h : PickAt w b o) : ∃ cs, Blk w b 87 cs ∧ cs.size = 2 := by
  cases o with
  | none => exact ⟨_, h, rfl⟩
  | some yb =>
    obtain ⟨sv, h1, h2⟩ := (show ∃ sv, Blk w b 87 #[sv, .int .i64 yb.2] ∧ Rt w sv yb.1 from h)
    exact ⟨_, h1, rfl⟩
theorem PickAt.put {w : World} {b : Nat} {o : Option (List Int × Int)} (h : PickAt w b o) {yb : List Int × Int} {sv : Value} (hr : Rt w sv yb.1) : PickAt ((w.setCell ⟨b, 0, none⟩ sv).setCell ⟨b, 1, none⟩ (.int .i64 yb.2)) b (some yb) := by
  obtain ⟨cs, h1, h2⟩ := h.blk
  have f : Fx w ((w.setCell ⟨b, 0, none⟩ sv).setCell ⟨b, 1, none⟩ (.int .i64 yb.2)) (fun j => j = b) := (Fx.set w ⟨b, 0, none⟩ sv).trans (Fx.set _ ⟨b, 1, none⟩ _) (fun _ _ e => e)
  have h3 := (h1.set_ 0 sv).set_ 1 (.int .i64 yb.2)
  refine ⟨sv, ?_, hr.fx f fun b' cs' hb' => hb'.ne h1 (by decide)⟩
  have e : (cs.setIfInBounds 0 sv).setIfInBounds 1 (.int .i64 yb.2) = #[sv, .int .i64 yb.2] := by
    rcases cs with ⟨l⟩
    match l, h2 with
    | [a, b], _ => rfl
  rw [e] at h3
  exact h3
theorem start2 {m : Nat} {x : Nat → Lnk} {n f : Nat} {B' : (Int × Int → Option (List Int × Int))} {k' : Nat} {d d' : Nat → Item} (h : (B' = (fun _ => none) ∧ k' = 0 ∧ (∀ z, many d' k' z = many d 0 z) ∧ ∃ l' c', (fun _ => none : (Int × Int → Option (List Int × Int))) ((f : Int), ((0 : Nat) : Int)) = some (l', c') ∧ ¬ Bet 0 [(f : Int)] c' l') ∨
    (B' = updT (fun _ => none) ((f : Int), ((0 : Nat) : Int)) ([(f : Int)], 0) ∧ (∀ l' c', (fun _ => none : (Int × Int → Option (List Int × Int))) ((f : Int), ((0 : Nat) : Int)) = some (l', c') → Bet 0 [(f : Int)] c' l') ∧ k' = 0 + 1 ∧ ∀ z, many d' k' z = many d 0 z + if (⟨0, ((0 : Nat) : Int), (f : Int)⟩ : Item) = z then 1 else 0)) :
    Keeps M2 (okP n) m x (f : Int) B' (fun _ => false) (many d' k') 0 0 (fun _ _ => False) ∧ Full m x (f : Int) skP B' (fun _ => false) (fun _ _ => False) (fun _ => False) ∧ k' ≤ 1 := by
  rcases h with ⟨_, _, _, _, _, h, _⟩ | ⟨rfl, _, rfl, hq⟩
  · cases h
  · exact ⟨Keeps.init M2 _ m x (f : Int) rfl (fun _ => rfl) fun y => by rw [hq, many, Nat.zero_add]; rfl, fun p l v c _ hD => (by cases hD), Nat.le_refl _⟩
/-- What the region yields that makes the layered search. -/
def S10 (A : Option Addr) (m c : Nat) (y : Nat → Adv) (n B0 : Nat) : Nat → (Nat → Value) → Value → World → Prop
  | 0, _, v, _ => v = .slice A m c
  | 1, _, v, _ => v = .agg #[.int .u64 0, .int .i64 0, .int .i64 0, .int .u32 0, .int .u32 0, .int .u32 0, .slice none 0 0, .slice none 0 0, .slice none 0 0, .int .i64 0]
  | 2, _, v, w => ∃ A1 c1, v = .slice A1 m c1 ∧ Strip w A1 m 5 (fun i => link (y i).toLnk) ∧ ∀ ad, A1 = some ad → ∃ cs, Blk w ad.block 34 cs
  | 3, _, v, _ => v = .int .i64 (n : Int)
  | 4, _, v, _ => v = .int .i64 ((n : Int) - 1)
  | 5, _, v, w => ∃ b, v = .map (some b) ∧ MapOf Try.prog 94 w b 0 (fun _ => none) ∧ B0 ≤ b
  | 6, _, v, w => ∃ b, v = .map (some b) ∧ MapOf Try.prog 94 w b 0 (fun _ => none) ∧ B0 ≤ b
  | 7, _, v, w => ∃ Q, v = .pointer (some ⟨Q, 0, none⟩) ∧ Blk w Q 125 #[.bool true, .slice none 0 0] ∧ B0 ≤ Q
  | 8, V, v, _ => ∃ A1 c1 b d Q, V 2 = .slice A1 m c1 ∧ V 5 = .map (some b) ∧ V 6 = .map (some d) ∧ V 7 = .pointer (some ⟨Q, 0, none⟩) ∧ v = .agg #[.slice A1 m c1, .int .i64 ((n : Int) - 1), .map (some b), .map (some d), .pointer (some ⟨Q, 0, none⟩)]
  | 9, V, v, w => ∃ S A1 c1 b d Q, V 8 = .agg #[.slice A1 m c1, .int .i64 ((n : Int) - 1), .map (some b), .map (some d), .pointer (some ⟨Q, 0, none⟩)] ∧ v = .pointer (some ⟨S, 0, none⟩) ∧ Blk w S 84 #[.slice A1 m c1, .int .i64 ((n : Int) - 1), .map (some b), .map (some d), .pointer (some ⟨Q, 0, none⟩)] ∧ B0 ≤ S
  | 10, V, v, _ => v = V 9
  | _, _, _, _ => True
theorem mk79 (w : World) : (Instr.makeMap 79 none).run Try.prog w = .ok (.map (some w.heap.size)) (w.alloc (.map #[] 0)) := by kernel_rfl
theorem mk80 (w : World) : (Instr.makeMap 80 none).run Try.prog w = .ok (.map (some w.heap.size)) (w.alloc (.map #[] 0)) := by kernel_rfl
def K10 (i : Nat) : Bool := i == 5 || i == 6
def Bl10 : Value → Option Nat
  | .map (some b) => some b
  | _ => none
theorem S10_later {A : Option Addr} {m c : Nat} {y : Nat → Adv} {n B0 : Nat} (i : Nat) (V : Nat → Value) (v : Value) (w w' : World) (hb : Below w.heap.size w w') (h : S10 A m c y n B0 i V v w) : S10 A m c y n B0 i V v w' := by
  match i, h with
  | 0, h => exact h
  | 1, h => exact h
  | 2, ⟨A1, c1, h1, h2, h3⟩ => exact ⟨A1, c1, h1, h2.below hb, fun ad e => by
      obtain ⟨cs, hc⟩ := h3 ad e
      exact ⟨cs, hc.later hb⟩⟩
  | 3, h => exact h
  | 4, h => exact h
  | 5, ⟨b, h1, h2, h3⟩ => exact ⟨b, h1, h2.later hb, h3⟩
  | 6, ⟨b, h1, h2, h3⟩ => exact ⟨b, h1, h2.later hb, h3⟩
  | 7, ⟨b, h1, h2, h3⟩ => exact ⟨b, h1, h2.later hb, h3⟩
  | 8, h => exact h
  | 9, ⟨S, A1, c1, b, d, Q, h1, h2, h3, h4⟩ => exact ⟨S, A1, c1, b, d, Q, h1, h2, h3.later hb, h4⟩
  | 10, h => exact h
  | (_ + 11), h => exact h
set_option maxRecDepth 100000 in
set_option maxHeartbeats 32000000 in
theorem Find_calls (w : World) (A : Option Addr) (m c : Nat) (y : Nat → Adv) (n fr tt : Int) (hm : m ≤ 1000) (hx : ∀ i, i < m → I64 (y i).src ∧ I64 (y i).dst) (hs : Strip w A m 15 (fun i => advert (y i))) (hu : ∀ i, i < m → (y i).Up) :
    Calls Try.prog 14 #[.int .i64 n, .slice A m c, .agg #[.int .u64 0, .int .i64 0, .int .i64 0, .int .u32 0, .int .u32 0, .int .u32 0, .slice none 0 0, .slice none 0 0, .slice none 0 0, .int .i64 0], .int .i64 fr, .int .i64 tt] w (FindPost w m (fun i => (y i).toLnk) n fr tt) := by
  have HS := Lib.hid hs
  have HU := Lib.hid hu
  have HXX := Lib.hid hx
  have hm5 : m ≤ 1000 := hm
  clear hs hu hx hm
  go_enter Try.func14, Try.ntmps14
  go_wp2
  have HB1 := Lib.hid (show Below w.heap.size w ((w.alloc (.cells #[.int .i64 n] 3)).alloc (.cells #[.int .u64 0, .int .i64 0, .int .i64 0, .int .u32 0, .int .u32 0, .int .u32 0, .slice none 0 0, .slice none 0 0, .slice none 0 0, .int .i64 0] 58)) from (((Below.refl w.heap.size w).alloc (Nat.le_refl _) _).alloc (by simp) _))
  have HN1 := Lib.hid ((Blk.new w 3 #[.int .i64 n]).alloc (.cells #[.int .u64 0, .int .i64 0, .int .i64 0, .int .u32 0, .int .u32 0, .int .u32 0, .slice none 0 0, .slice none 0 0, .slice none 0 0, .int .i64 0] 58))
  have HA1 := Lib.hid (show Blk ((w.alloc (.cells #[.int .i64 n] 3)).alloc (.cells #[.int .u64 0, .int .i64 0, .int .i64 0, .int .u32 0, .int .u32 0, .int .u32 0, .slice none 0 0, .slice none 0 0, .slice none 0 0, .int .i64 0] 58)) (w.heap.size + 1) 58 #[.int .u64 0, .int .i64 0, .int .i64 0, .int .u32 0, .int .u32 0, .int .u32 0, .slice none 0 0, .slice none 0 0, .slice none 0 0, .int .i64 0] from by
    have h := Blk.new (w.alloc (.cells #[.int .i64 n] 3)) 58 #[.int .u64 0, .int .i64 0, .int .i64 0, .int .u32 0, .int .u32 0, .int .u32 0, .slice none 0 0, .slice none 0 0, .slice none 0 0, .int .i64 0]
    simpa using h)
  generalize (w.alloc (.cells #[.int .i64 n] 3)).alloc (.cells #[.int .u64 0, .int .i64 0, .int .i64 0, .int .u32 0, .int .u32 0, .int .u32 0, .slice none 0 0, .slice none 0 0, .slice none 0 0, .int .i64 0] 58) = W1 at *
  have HS1 := Lib.hid (HS.out.below HB1.out)
  have HZ1 := Lib.hid HB1.out.size
  generalize hbn : w.heap.size = bn at *
  have HBN := Lib.hid hbn
  clear hbn
  go_loopw [13, 26] (fun v i wr => ∃ k : Nat, k ≤ m ∧ i = .int .i64 (k : Int) ∧ OutRow wr W1.heap.size 34 5 v (linksOf y k) ∧ Below W1.heap.size W1 wr) (fun _ i _ => m - (intOf i).toNat)
  case atStart => exact ⟨0, by omega, rfl, OutRow.nil _ _ _ _, Below.refl _ _⟩
  case round =>
    obtain ⟨k, hk, rfl, ho, hbel⟩ := hrel
    obtain ⟨A4, c4, rfl⟩ := ho.form
    rw [linksOf_len] at *
    have HO := Lib.hid ho
    have HB := Lib.hid hbel
    clear ho hbel
    by_cases hlt : k < m
    · obtain ⟨ad, rfl, hadb, hc⟩ := HS1.out (by omega)
      have hge : W1.heap.size ≤ wr.heap.size := HB.out.size
      have g : ∀ j, j < 15 → wr.cell? ((ad.add (k * 15)).add j) = (advert (y k))[j]? := fun j hj => (HB.out.cell (by rw [add_block, add_block]; exact hadb)).trans (hc k hlt j hj)
      have g0 : wr.cell? (ad.add (k * 15)) = some (.int .i64 (y k).src) := g 0 (by omega); have g1 : wr.cell? ⟨(ad.add (k * 15)).block, (ad.add (k * 15)).off + 1, none⟩ = some (.int .i64 (y k).dst) := g 1 (by omega); have g2 : wr.cell? ⟨(ad.add (k * 15)).block, (ad.add (k * 15)).off + 2, none⟩ = some (.int .u64 (y k).cap) := g 2 (by omega); have g3 : wr.cell? ⟨(ad.add (k * 15)).block, (ad.add (k * 15)).off + 3, none⟩ = some (.int .i64 (y k).metric) := g 3 (by omega); have g4 : wr.cell? ⟨(ad.add (k * 15)).block, (ad.add (k * 15)).off + 4, none⟩ = some (.int .u32 (y k).groups) := g 4 (by omega); have g5 : wr.cell? ⟨(ad.add (k * 15)).block, (ad.add (k * 15)).off + 5, none⟩ = some (.int .i64 (y k).seq) := g 5 (by omega); have g6 : wr.cell? ⟨(ad.add (k * 15)).block, (ad.add (k * 15)).off + 6, none⟩ = some (.bool (y k).up) := g 6 (by omega); have g7 : wr.cell? ⟨(ad.add (k * 15)).block, (ad.add (k * 15)).off + 7, none⟩ = some (.int .u64 ((y k).free 0)) := g 7 (by omega); have g8 : wr.cell? ⟨(ad.add (k * 15)).block, (ad.add (k * 15)).off + 8, none⟩ = some (.int .u64 ((y k).free 1)) := g 8 (by omega); have g9 : wr.cell? ⟨(ad.add (k * 15)).block, (ad.add (k * 15)).off + 9, none⟩ = some (.int .u64 ((y k).free 2)) := g 9 (by omega); have g10 : wr.cell? ⟨(ad.add (k * 15)).block, (ad.add (k * 15)).off + 10, none⟩ = some (.int .u64 ((y k).free 3)) := g 10 (by omega); have g11 : wr.cell? ⟨(ad.add (k * 15)).block, (ad.add (k * 15)).off + 11, none⟩ = some (.int .u64 ((y k).free 4)) := g 11 (by omega); have g12 : wr.cell? ⟨(ad.add (k * 15)).block, (ad.add (k * 15)).off + 12, none⟩ = some (.int .u64 ((y k).free 5)) := g 12 (by omega); have g13 : wr.cell? ⟨(ad.add (k * 15)).block, (ad.add (k * 15)).off + 13, none⟩ = some (.int .u64 ((y k).free 6)) := g 13 (by omega); have g14 : wr.cell? ⟨(ad.add (k * 15)).block, (ad.add (k * 15)).off + 14, none⟩ = some (.int .u64 ((y k).free 7)) := g 14 (by omega)
      have hst := Lib.hid (linksOf_succ y k)
      have k1 : (k : Int) < (m : Int) := by omega
      clear g hc
      go_wp2_with (at_builtin; refine wpList_app _ rfl (.tmp 30) (.tmp 33) 22 rfl W1.heap.size 34 _ 5 40 Try.underlying22 infoL34 rfl (by omega) _ (linksOf y k) rfl ?hown _ 1 (link (y k).toLnk) rfl rfl ?hcell ?h1 ?hn (by omega) ?hbase ?hgo; (case hown => exact (HO.out.alloc _).alloc _); (case hcell => exact new_row' _ _ _ (by simp)); (case h1 => exact link_ones _); (case hn => (rw [linksOf_len]; omega)); (case hbase => (first | omega | (simp; omega))); (intro v' w' ho' hg' hbl; have hbl0 := Lib.hid (hbl W1.heap.size (Nat.le_refl _)); clear hbl; have HO2 := Lib.hid ho'; clear ho' hg'))
      all_goals
        go_roundw
        case rel => exact ⟨k + 1, by omega, num_step k, by rw [hst.out]; exact HO2.out, ((HB.out.alloc (by omega) _).alloc (by simp; omega) _).trans hbl0.out⟩
        case measure => exact measure_step hlt
    · obtain rfl : m = k := by omega
      have HN2 := Lib.hid (HN1.out.later HB.out)
      have HA2 := Lib.hid (HA1.out.later HB.out)
      have HL2 := Lib.hid (HO.out.strip_map).2
      have HBw := Lib.hid (show Below bn w wr from HB1.out.trans (HB.out.mono HZ1.out))
      have HSA := Lib.hid (HS1.out.below HB.out)
      clear hlt hk HO
      have HC := Lib.hid (Check_calls wr n A4 m c4 (fun i => (y i).toLnk) (by omega) HXX.out HL2.out)
      obtain ⟨nc, nf, nl⟩ := HN2.out.row
      obtain ⟨ac, af, al⟩ := HA2.out.row
      by_cases hN : Net n m (fun i => (y i).toLnk)
      · rw [chk_ok hN] at HC
        have HNT := Lib.hid hN
        clear hN
        have arm15 := HC
        by_cases hfb : fr < 0 ∨ n ≤ fr
        · have HF := Lib.hid fun (w' : World) (h1 : w'.cell? ⟨bn, 0, none⟩ = some (.int .i64 n)) (h2 : bn < w'.heap.size) => Node_no w' bn n fr h1 h2 hfb
          have hna : ¬ Asks n m (fun i => (y i).toLnk) fr tt := fun h => by obtain ⟨_, h1, h2, _⟩ := h; omega
          clear hfb
          go_wp2_with (first | (go_at_call 15; (with_reducible refine HC.out.mono ?_); rintro e w5 ⟨rfl, hb5⟩; have HB5 := Lib.hid hb5; have HN5 := Lib.hid (HN2.out.later hb5); have HA5 := Lib.hid (HA2.out.later hb5); clear nc nf nl ac af al hb5; obtain ⟨nc, nf, nl⟩ := HN5.out.row; obtain ⟨ac, af, al⟩ := HA5.out.row) | (go_at_call 24; (with_reducible refine (HF.out _ (HN5.out.cell 0) HN5.out.lt).mono ?_); rintro e w6 ⟨rfl, rfl⟩))
          go_ret3
          exact find_bad (by rw [HBN.out]; exact HBw.out.trans (HB5.out.mono (by rw [← HBN.out]; exact HBw.out.size))) hna
        · have hf0 : 0 ≤ fr := by omega
          have hf1 : fr < n := by omega
          have HF := Lib.hid fun (w' : World) (h1 : w'.cell? ⟨bn, 0, none⟩ = some (.int .i64 n)) (h2 : bn < w'.heap.size) => Node_yes w' bn n fr h1 h2 hf0 hf1
          clear hfb
          by_cases htb : tt < 0 ∨ n ≤ tt
          · have HG := Lib.hid fun (w' : World) (h1 : w'.cell? ⟨bn, 0, none⟩ = some (.int .i64 n)) (h2 : bn < w'.heap.size) => Node_no w' bn n tt h1 h2 htb
            have hna : ¬ Asks n m (fun i => (y i).toLnk) fr tt := fun h => by obtain ⟨_, h1, h2, h3, h4, _⟩ := h; omega
            clear htb
            go_wp2_with (first | (go_at_call 15; (with_reducible refine HC.out.mono ?_); rintro e w5 ⟨rfl, hb5⟩; have HB5 := Lib.hid hb5; have HN5 := Lib.hid (HN2.out.later hb5); have HA5 := Lib.hid (HA2.out.later hb5); clear nc nf nl ac af al hb5; obtain ⟨nc, nf, nl⟩ := HN5.out.row; obtain ⟨ac, af, al⟩ := HA5.out.row) | (go_at_call 24; (with_reducible refine (HF.out _ (HN5.out.cell 0) HN5.out.lt).mono ?_); rintro e w6 ⟨rfl, rfl⟩) | (go_at_call 24; (with_reducible refine (HG.out _ (HN5.out.cell 0) HN5.out.lt).mono ?_); rintro e w6 ⟨rfl, rfl⟩))
            go_ret3
            exact find_bad (by rw [HBN.out]; exact HBw.out.trans (HB5.out.mono (by rw [← HBN.out]; exact HBw.out.size))) hna
          · have ht0 : 0 ≤ tt := by omega
            have ht1 : tt < n := by omega
            have HG := Lib.hid fun (w' : World) (h1 : w'.cell? ⟨bn, 0, none⟩ = some (.int .i64 n)) (h2 : bn < w'.heap.size) => Node_yes w' bn n tt h1 h2 ht0 ht1
            clear htb
            by_cases heq : fr = tt
            · have hna : ¬ Asks n m (fun i => (y i).toLnk) fr tt := fun h => h.2.2.2.2.2 heq
              go_wp2_with (first | (go_at_call 15; (with_reducible refine HC.out.mono ?_); rintro e w5 ⟨rfl, hb5⟩; have HB5 := Lib.hid hb5; have HN5 := Lib.hid (HN2.out.later hb5); have HA5 := Lib.hid (HA2.out.later hb5); clear nc nf nl ac af al hb5; obtain ⟨nc, nf, nl⟩ := HN5.out.row; obtain ⟨ac, af, al⟩ := HA5.out.row) | (go_at_call 24; (with_reducible refine (HF.out _ (HN5.out.cell 0) HN5.out.lt).mono ?_); rintro e w6 ⟨rfl, rfl⟩) | (go_at_call 24; (with_reducible refine (HG.out _ (HN5.out.cell 0) HN5.out.lt).mono ?_); rintro e w6 ⟨rfl, rfl⟩))
              go_ret3
              exact find_bad (by rw [HBN.out]; exact HBw.out.trans (HB5.out.mono (by rw [← HBN.out]; exact HBw.out.size))) hna
            · have hok : Asks n m (fun i => (y i).toLnk) fr tt := ⟨HNT.out, hf0, hf1, ht0, ht1, heq⟩
              have HOK := Lib.hid hok
              clear hok
              obtain ⟨n', rfl⟩ : ∃ k : Nat, n = (k : Int) := ⟨n.toNat, by have := HNT.out.n0; omega⟩
              obtain ⟨f, rfl⟩ : ∃ k : Nat, fr = (k : Int) := ⟨fr.toNat, by omega⟩
              have n16 : (n' : Int) ≤ 16 := HNT.out.n1
              have n1 : 1 ≤ (n' : Int) := HNT.out.n0
              have hwn : IntKind.i64.wrap ((n' : Int) - 1) = (n' : Int) - 1 := by simp [IntKind.wrap, IntKind.bits, IntKind.signed]; omega
              go_upto_region 10 with (first | (go_at_call 15; (with_reducible refine HC.out.mono ?_); rintro e w5 ⟨rfl, hb5⟩; have HB5 := Lib.hid hb5; have HN5 := Lib.hid (HN2.out.later hb5); have HA5 := Lib.hid (HA2.out.later hb5); clear nc nf nl ac af al hb5; obtain ⟨nc, nf, nl⟩ := HN5.out.row; obtain ⟨ac, af, al⟩ := HA5.out.row) | (go_at_call 24; (with_reducible refine (HF.out _ (HN5.out.cell 0) HN5.out.lt).mono ?_); rintro e w6 ⟨rfl, rfl⟩) | (go_at_call 24; (with_reducible refine (HG.out _ (HN5.out.cell 0) HN5.out.lt).mono ?_); rintro e w6 ⟨rfl, rfl⟩) | (go_at_call 25; (with_reducible refine (Right0_calls _).mono ?_); rintro e w7 ⟨rfl, hb7⟩; have HB7 := Lib.hid hb7; have HN7 := Lib.hid (HN5.out.later hb7); have HA7 := Lib.hid (HA5.out.later hb7); clear nc nf nl ac af al hb7; obtain ⟨nc, nf, nl⟩ := HN7.out.row; obtain ⟨ac, af, al⟩ := HA7.out.row))
              have HBw7 := Lib.hid (show Below bn w w7 from (HBw.out.trans (HB5.out.mono (by rw [← HBN.out]; exact HBw.out.size))).trans (HB7.out.mono (by have h := HBw.out.size; rw [HBN.out] at h; exact Nat.le_trans h HB5.out.size)))
              have HSA7 := Lib.hid ((HSA.out.below HB5.out).below HB7.out)
              refine any_reg2 (S10 A m c y n' w7.heap.size) K10 Bl10 (by kernel_rfl) _ (by kernel_rfl) rfl S10_later ?hcg2 ?hstep2 ?hgo2
              case hcg2 =>
                intro i V V' hV v w h
                match i, h with
                | 0, h => exact h
                | 1, h => exact h
                | 2, h => exact h
                | 3, h => exact h
                | 4, h => exact h
                | 5, h => exact h
                | 6, h => exact h
                | 7, h => exact h
                | 8, ⟨A1, c1, b, d, Q, h1, h2, h3, h4, h5⟩ => exact ⟨A1, c1, b, d, Q, (hV 2 (by kernel_rfl)).symm.trans h1, (hV 5 (by kernel_rfl)).symm.trans h2, (hV 6 (by kernel_rfl)).symm.trans h3, (hV 7 (by kernel_rfl)).symm.trans h4, h5⟩
                | 9, ⟨S, A1, c1, b, d, Q, h1, h2, h3, h4⟩ => exact ⟨S, A1, c1, b, d, Q, (hV 8 (by kernel_rfl)).symm.trans h1, h2, h3, h4⟩
                | 10, h => exact (show v = V' 9 by rw [← hV 9 (by kernel_rfl)]; exact h)
                | (_ + 11), h => exact h
              case hstep2 =>
                intro i o ho V b w2 hb hd hof
                have nk : ∀ {j : Nat} {p : Prop}, K10 j = false → K10 j = true → p := fun h1 h2 => by rw [h1] at h2; cases h2
                match i, ho with
                | 0, ho =>
                  injection ho with ho
                  subst ho
                  have e0 := ev ((hof 1 (not_dst (by kernel_rfl))).trans rfl)
                  exact makes_value rfl (by simp [execOp, e0]) (Below.refl _ _) ⟨rfl, nk rfl⟩
                | 1, ho =>
                  injection ho with ho
                  subst ho
                  have e0 := ev ((hof 7 (not_dst (by kernel_rfl))).trans rfl)
                  obtain ⟨ac2, af2, al2⟩ := (HA7.out.later hb).row
                  exact makes_value (v := .agg #[.int .u64 0, .int .i64 0, .int .i64 0, .int .u32 0, .int .u32 0, .int .u32 0, .slice none 0 0, .slice none 0 0, .slice none 0 0, .int .i64 0]) rfl (by simp [execOp, e0]; go_simp) (Below.refl _ _) ⟨rfl, nk rfl⟩
                | 2, ho =>
                  injection ho with ho
                  subst ho
                  obtain ⟨h1, h2⟩ := hd 0 69 (by kernel_rfl) (by kernel_rfl)
                  obtain ⟨h3, h4⟩ := hd 1 70 (by kernel_rfl) (by kernel_rfl)
                  have e0 := ev (h1.trans (congrArg some h2))
                  have e1 := ev (h3.trans (congrArg some h4))
                  exact makes_call (f := 26) (args := #[.slice A m c, .agg #[.int .u64 0, .int .i64 0, .int .i64 0, .int .u32 0, .int .u32 0, .int .u32 0, .slice none 0 0, .slice none 0 0, .slice none 0 0, .int .i64 0]]) rfl Try.func26 (by kernel_rfl) rfl rfl (by simp [e0, e1]) ((Links0_calls w2 A m c y hm5 (HSA7.out.below hb) HU.out).mono fun e w' h => by
                    obtain ⟨A1, c1, h5, h6, h7, h8⟩ := h
                    exact ⟨_, h5, h8, ⟨A1, c1, rfl, h6, h7⟩, nk rfl⟩)
                | 3, ho =>
                  injection ho with ho
                  subst ho
                  have e0 := ev ((hof 5 (not_dst (by kernel_rfl))).trans rfl)
                  obtain ⟨nc2, nf2, nl2⟩ := (HN7.out.later hb).row
                  exact makes_value (v := .int .i64 (n' : Int)) rfl (by simp [execOp, e0]; go_simp) (Below.refl _ _) ⟨rfl, nk rfl⟩
                | 4, ho =>
                  injection ho with ho
                  subst ho
                  obtain ⟨h1, h2⟩ := hd 3 72 (by kernel_rfl) (by kernel_rfl)
                  have e0 := ev (h1.trans (congrArg some h2))
                  exact makes_value (v := .int .i64 ((n' : Int) - 1)) rfl (by simp [execOp, e0]; go_simp) (Below.refl _ _) ⟨rfl, nk rfl⟩
                | 5, ho =>
                  injection ho with ho
                  subst ho
                  exact makes_value (v := .map (some w2.heap.size)) (w' := w2.alloc (.map #[] 0)) rfl (by simp [execOp, mk79 w2, Result.andThen]) ((Below.refl _ _).alloc (Nat.le_refl _) _) ⟨⟨w2.heap.size, rfl, MapOf.made _ _ _, hb.size⟩, fun _ => ⟨_, rfl, Nat.le_refl _, by simp⟩⟩
                | 6, ho =>
                  injection ho with ho
                  subst ho
                  exact makes_value (v := .map (some w2.heap.size)) (w' := w2.alloc (.map #[] 0)) rfl (by simp [execOp, mk80 w2, Result.andThen]) ((Below.refl _ _).alloc (Nat.le_refl _) _) ⟨⟨w2.heap.size, rfl, MapOf.made _ _ _, hb.size⟩, fun _ => ⟨_, rfl, Nat.le_refl _, by simp⟩⟩
                | 7, ho =>
                  injection ho with ho
                  subst ho
                  exact makes_call (f := 27) (args := #[]) rfl Try.func27 (by kernel_rfl) rfl rfl (by simp) ((New_calls w2).mono fun e w' h => ⟨_, h.1, by rw [← h.2]; exact (Below.refl _ _).alloc (Nat.le_refl _) _, ⟨w2.heap.size, rfl, by rw [← h.2]; exact Blk.new _ _ _, hb.size⟩, nk rfl⟩)
                | 8, ho =>
                  injection ho with ho
                  subst ho
                  obtain ⟨h1, A1, c1, h2, _⟩ := hd 2 71 (by kernel_rfl) (by kernel_rfl)
                  obtain ⟨h3, h4⟩ := hd 4 73 (by kernel_rfl) (by kernel_rfl)
                  obtain ⟨h5, b5, h6, _⟩ := hd 5 74 (by kernel_rfl) (by kernel_rfl)
                  obtain ⟨h7, b6, h8, _⟩ := hd 6 75 (by kernel_rfl) (by kernel_rfl)
                  obtain ⟨h9, q, h10, _⟩ := hd 7 76 (by kernel_rfl) (by kernel_rfl)
                  have e0 := ev (h1.trans (congrArg some h2))
                  have e1 := ev (h3.trans (congrArg some h4))
                  have e2 := ev (h5.trans (congrArg some h6))
                  have e3 := ev (h7.trans (congrArg some h8))
                  have e4 := ev (h9.trans (congrArg some h10))
                  exact makes_value (v := .agg #[.slice A1 m c1, .int .i64 ((n' : Int) - 1), .map (some b5), .map (some b6), .pointer (some ⟨q, 0, none⟩)]) (w' := w2) rfl (by simp [execOp, e0, e1, e2, e3, e4, Result.andThen]; go_simp) (Below.refl _ _) ⟨⟨A1, c1, b5, b6, q, h2, h6, h8, h10, rfl⟩, nk rfl⟩
                | 9, ho =>
                  injection ho with ho
                  subst ho
                  obtain ⟨h1, A1, c1, b5, b6, q, _, _, _, _, h2⟩ := hd 8 77 (by kernel_rfl) (by kernel_rfl)
                  have e0 := ev (h1.trans (congrArg some h2))
                  exact makes_value (v := .pointer (some ⟨w2.heap.size, 0, none⟩)) (w' := w2.alloc (.cells #[.slice A1 m c1, .int .i64 ((n' : Int) - 1), .map (some b5), .map (some b6), .pointer (some ⟨q, 0, none⟩)] 84)) rfl (by simp [execOp, e0, Result.andThen]; go_simp) ((Below.refl _ _).alloc (Nat.le_refl _) _) ⟨⟨w2.heap.size, A1, c1, b5, b6, q, h2, rfl, Blk.new _ _ _, hb.size⟩, nk rfl⟩
                | 10, ho =>
                  injection ho with ho
                  subst ho
                  obtain ⟨h1, h2⟩ := hd 9 78 (by kernel_rfl) (by kernel_rfl)
                  exact makes_value rfl (by simp [execOp, ev h1]) (Below.refl _ _) ⟨rfl, nk rfl⟩
                | (k + 11), ho => cases ho
              case hgo2 =>
                intro V w8 hb8 hS hap
                refine q_eq (a' := ?_) ?_ ?_
                rotate_left
                · simp only [List.size_toArray, List.length_cons, List.length_nil, Nat.reduceAdd, laidAll, dstOf, List.getElem?_toArray, List.getElem?_cons_succ, List.getElem?_cons_zero, Option.bind_some, Act.put, List.setIfInBounds_toArray, List.set_cons_zero, List.set_cons_succ]
                  rfl
                · have h0 : V 0 = .slice A m c := hS 0 (by simp)
                  have h1 : V 1 = .agg #[.int .u64 0, .int .i64 0, .int .i64 0, .int .u32 0, .int .u32 0, .int .u32 0, .slice none 0 0, .slice none 0 0, .slice none 0 0, .int .i64 0] := hS 1 (by simp)
                  obtain ⟨A1, c1, h2, hl8, hk8⟩ := hS 2 (by simp)
                  have h3 : V 3 = .int .i64 (n' : Int) := hS 3 (by simp)
                  have h4 : V 4 = .int .i64 ((n' : Int) - 1) := hS 4 (by simp)
                  obtain ⟨Mb, h5, hMb, hMb0⟩ := hS 5 (by simp)
                  obtain ⟨Md, h6, hMd, hMd0⟩ := hS 6 (by simp)
                  obtain ⟨Q, h7, hQ, hQ0⟩ := hS 7 (by simp)
                  obtain ⟨A2, c2, b2, d2, Q2, e1, e2, e3, e4, h8⟩ := hS 8 (by simp)
                  obtain ⟨S, A3, c3, b3, d3, Q3, e5, h9, hSS, hS0⟩ := hS 9 (by simp)
                  have h10 : V 10 = V 9 := hS 10 (by simp)
                  have hne : Mb ≠ Md := fun e => hap 5 6 (by simp) (by simp) rfl rfl (by omega) (by rw [h5, h6, e])
                  rw [h2] at e1
                  rw [h5] at e2
                  rw [h6] at e3
                  rw [h7] at e4
                  injection e1 with e1a e1b e1c
                  injection e2 with e2
                  injection e2 with e2
                  injection e3 with e3
                  injection e3 with e3
                  injection e4 with e4
                  injection e4 with e4
                  injection e4 with e4
                  subst e1a e1c e2 e3 e4
                  rw [h8] at e5
                  injection e5 with e5
                  have e6 := congrArg Array.toList e5
                  simp only [List.cons.injEq, Value.slice.injEq, Value.map.injEq, Value.pointer.injEq, Option.some.injEq, Addr.mk.injEq, and_true, true_and] at e6
                  obtain ⟨⟨e6, e7⟩, e8, e9, e10⟩ := e6
                  subst e6 e7 e8 e9 e10
                  rw [h9] at h10
                  simp only [h0, h1, h2, h3, h4, h5, h6, h7, h8, h9, h10]
                  have hlay : Lay w8 w7.heap.size S Mb Md Q A1 m c1 (fun i => (y i).toLnk) n' (fun _ => none) (fun _ => false) (.slice none 0 0) 0 (fun _ => ⟨0, 0, 0⟩) := ⟨hSS, ⟨0, _, hMb, fun _ _ => rfl⟩, ⟨0, _, hMd, fun _ _ => rfl⟩, ⟨hQ, QV.nil _ _ _, fun k _ h => by omega, by simp [Value.ownBlock]⟩, hl8, fun ad e _ => .inr (hk8 ad e), hS0, hMb0, hMd0, hQ0, hne, fun _ _ _ h => by cases h⟩
                  have HLY := Lib.hid hlay
                  have HB8 := Lib.hid hb8
                  have HN8 := Lib.hid (HN7.out.later hb8)
                  have HA8 := Lib.hid (HA7.out.later hb8)
                  clear h0 h1 h2 h3 h4 h5 h6 h7 h8 h9 h10 e5 hS hap hlay hl8 hk8 hMb hMb0 hMd hMd0 hQ hQ0 hSS hS0 hb8 hne nc nf nl ac af al
                  obtain ⟨nc, nf, nl⟩ := HN8.out.row
                  obtain ⟨ac, af, al⟩ := HA8.out.row
                  obtain ⟨sc, sf, sl⟩ := HLY.out.s.row
                  have hR0 : ∀ w5 : World, Blk w5 w8.heap.size 3 #[.int .i64 (f : Int)] → Rt w5 (.slice (some ⟨w8.heap.size, 0, none⟩) 1 1) [(f : Int)] := fun w5 h => ⟨_, 1, _, rfl, Nat.le_refl _, h, fun i hi => by
                    obtain rfl : i = 0 := by simp at hi; omega
                    rfl⟩
                  have HBb := Lib.hid (show w7.heap.size ≤ w8.heap.size from HB8.out.size)
                  have HOF := Lib.hid (LOffer_calls (w8.alloc (.cells #[.int .i64 (f : Int)] 3)) w7.heap.size S Mb Md Q A1 m c1 (fun i => (y i).toLnk) n' (fun _ => none) (fun _ => false) (.slice none 0 0) 0 (fun _ => ⟨0, 0, 0⟩) (f : Int) 0 [(f : Int)] 0 (.slice (some ⟨w8.heap.size, 0, none⟩) 1 1) (HLY.out.later ((Below.refl _ _).alloc (Nat.le_refl _) _)) (hR0 _ (Blk.new _ _ _)) rfl rfl (by unfold I64; omega) (by omega) (Int.le_refl _) (by omega) (by have := HBb.out; simp; omega))
                  clear hR0
                  go_wp2_with (go_at_call 28; (with_reducible refine HOF.out.mono ?_); rintro e w9 ⟨rfl, B1, qv1, k1, d1, hs1, hfx1, ho1, hcs1⟩; have hinit := start2 (m := m) (x := fun i => (y i).toLnk) (n := n') hcs1; have HS1 := Lib.hid hs1; have HIN := Lib.hid hinit; have HB9 := Lib.hid (show Below w7.heap.size w7 w9 from HB8.out.trans (((Below.refl w7.heap.size w8).alloc HBb.out (.cells #[.int .i64 (f : Int)] 3)).trans (hfx1.below (by have := HBb.out; simp; omega) (fun i e => by rcases e with e | e | e; (rw [e]; exact HLY.out.sB); (rw [e]; exact HLY.out.sQ); (simp [Value.ownBlock] at e))))); have HBs := Lib.hid (show w7.heap.size ≤ w9.heap.size from HB9.out.size); clear hs1 hfx1 ho1 hcs1 hinit)
                  go_loopg [19] 961 (fun g v19 wr => ∃ (B : (Int × Int → Option (List Int × Int))) (D : Int × Int → Bool) (qv : Value) (k : Nat) (d : Nat → Item) (T : Int) (r : Nat) (C : Int × Int → Nat → Prop), Lay wr w7.heap.size S Mb Md Q A1 m c1 (fun i => (y i).toLnk) n' B D qv k d ∧ Keeps M2 (okP n') m (fun i => (y i).toLnk) (f : Int) B D (many d k) T r C ∧ Full m (fun i => (y i).toLnk) (f : Int) skP B D C (fun _ => False) ∧ k + pot2 (fun i => (y i).toLnk) m n' D ≤ g ∧ r + g ≤ 1000 ∧ Below w7.heap.size w7 wr)
                  case atStart => exact ⟨B1, fun _ => false, qv1, k1, d1, 0, 0, _, HS1.out, HIN.out.1, HIN.out.2.1, by
                    have h1 := HIN.out.2.2
                    have h2 := pot2_le (fun i => (y i).toLnk) m n' (fun _ => false)
                    have h3 : (n' - 1) * m ≤ 15 * 64 := Nat.mul_le_mul (by omega) HNT.out.m1
                    omega, by omega, HB9.out⟩
                  case round =>
                    obtain ⟨B, D, qv, k, d, T, r, C, s1, s2, s3, s4, s5, s6⟩ := hrel
                    clear HS1 HIN HLY
                    have HP := Lib.hid (LDPop_calls (w0 := w7) (g := gk) s1 s2 s3 s4 s5 s6 s6.size)
                    clear sc sf sl
                    obtain ⟨sc, sf, sl⟩ := s1.s.row
                    have HB6 := Lib.hid s6
                    clear s1 s2 s3 s4 s5 s6
                    go_upto_region 15 with (go_at_call 29; (with_reducible refine HP.out.mono ?_); rintro e w10 ⟨z, er, rfl, qv9, k9, d9, y9, hd9, hy0, hy1, hs9⟩; have HD9 := Lib.hid hd9; have HY0 := Lib.hid hy0; have HY1 := Lib.hid hy1; have HS9 := Lib.hid hs9; clear hd9 hy0 hy1 hs9)
                    have hy0 := HY0.out
                    have hy1 := HY1.out
                    have HX := Lib.hid (Blk.new w10 89 #[.int .i64 z.cost, .int .i64 z.hops, .int .i64 z.node])
                    have HB10 := Lib.hid (show w7.heap.size ≤ w10.heap.size from Nat.le_trans HB6.out.size HS9.out)
                    have HD10 := Lib.hid (HD9.out.later ((Below.refl w10.heap.size w10).alloc (Nat.le_refl _) (.cells #[.int .i64 z.cost, .int .i64 z.hops, .int .i64 z.node] 89)) HB10.out)
                    have HB11 := Lib.hid (show w7.heap.size ≤ (w10.alloc (.cells #[.int .i64 z.cost, .int .i64 z.hops, .int .i64 z.node] 89)).heap.size from by have := HB10.out; simp; omega)
                    clear HD9 HY0 HY1
                    generalize w10.alloc (.cells #[.int .i64 z.cost, .int .i64 z.hops, .int .i64 z.node] 89) = w11 at *
                    clear sc sf sl
                    obtain ⟨sc, sf, sl⟩ := HD10.out.s.s.row
                    obtain ⟨xc, xf, xl⟩ := HX.out.row
                    cases y9 with
                    | none =>
                      obtain rfl := hy0 rfl
                      clear hy0 hy1
                      have hk0 := HD10.out.gone rfl
                      subst hk0
                      have HLW := Lib.hid HD10.out.s
                      have HKP := Lib.hid (HD10.out.keeps.count (q' := many d9 0) (fun _ => rfl))
                      have HFU := Lib.hid HD10.out.full
                      have HSUM := Lib.hid HD10.out.sum
                      have HBL := Lib.hid HD10.out.below
                      clear HD10 xc xf xl HX
                      go_wp2
                      have HP0 := Lib.hid (show PickAt (w11.alloc (.cells #[.slice none 0 0, .int .i64 (-1)] 87)) w11.heap.size (pick B tt 0) from Blk.new w11 87 #[.slice none 0 0, .int .i64 (-1)])
                      have HLW2 := Lib.hid (HLW.out.later ((Below.refl w11.heap.size w11).alloc (Nat.le_refl _) (.cells #[.slice none 0 0, .int .i64 (-1)] 87)))
                      have HBL2 := Lib.hid (HBL.out.alloc HB11.out (.cells #[.slice none 0 0, .int .i64 (-1)] 87))
                      have HB20 := Lib.hid HB11.out
                      generalize w11.alloc (.cells #[.slice none 0 0, .int .i64 (-1)] 87) = w13 at *
                      generalize w11.heap.size = b20 at *
                      go_loopw [21] (fun v21 wr => ∃ t : Nat, t ≤ n' - 1 ∧ v21 = .int .i64 ((t + 1 : Nat) : Int) ∧ PickAt wr b20 (pick B tt t) ∧ Lay wr w7.heap.size S Mb Md Q A1 m c1 (fun i => (y i).toLnk) n' B D qv9 0 d9 ∧ Below w7.heap.size w7 wr) (fun v21 _ => n' - (intOf v21).toNat)
                      case atStart => exact ⟨0, Nat.zero_le _, rfl, HP0.out, HLW2.out, HBL2.out⟩
                      case round =>
                        obtain ⟨t, htn, rfl, hpk, hly, hbl⟩ := hrel
                        clear HP0 HLW2 HBL2 HLW
                        have HPK := Lib.hid hpk
                        have HLW := Lib.hid hly
                        have HBL3 := Lib.hid hbl
                        have HSZ3 := Lib.hid (show w7.heap.size ≤ wr.heap.size from hbl.size)
                        clear hpk hly hbl sc sf sl
                        obtain ⟨sc, sf, sl⟩ := HLW.out.s.row
                        have HKEY := Lib.hid (keyOf94 (show I64 tt by unfold I64; omega) (show I64 ((t + 1 : Nat) : Int) by unfold I64; omega))
                        by_cases hlt : t + 1 ≤ n' - 1
                        · have c1' : ((t + 1 : Nat) : Int) ≤ (n' : Int) - 1 := by omega
                          obtain ⟨cnt, ff, hm, hf⟩ := HLW.out.best
                          have hfk := hf tt ((t + 1 : Nat) : Int)
                          have HM := Lib.hid hm
                          clear hf hm
                          cases hB : B (tt, ((t + 1 : Nat) : Int)) with
                          | none =>
                            rw [hB] at hfk
                            have HFK := Lib.hid (show ff (key2 tt ((t + 1 : Nat) : Int)) = none from hfk)
                            have HPN := Lib.hid (show pick B tt (t + 1) = pick B tt t by rw [pick.eq_def]; simp only; rw [hB])
                            clear hB hfk
                            go_wp2_with (at_lookup; refine wl_no _ rfl (.tmp 127) (.tmp 130) 79 rfl 94 87 keyed94 Try.underlying79 Mb cnt ff _ (zero87 _) rfl HM.out (key2 tt ((t + 1 : Nat) : Int)) rfl HKEY.out HFK.out ?_)
                            go_roundw
                            case rel => exact ⟨t + 1, by omega, num_step (t + 1), by rw [HPN.out]; exact HPK.out.later ((Below.refl _ _).alloc (Nat.le_refl _) _), HLW.out.later ((Below.refl _ _).alloc (Nat.le_refl _) _), HBL3.out.alloc HSZ3.out _⟩
                            case measure => simp only [intOf]; omega
                          | some yb =>
                            obtain ⟨l2, y2⟩ := yb
                            rw [hB] at hfk
                            obtain ⟨sv2, hfk2, hr2⟩ := hfk
                            obtain ⟨A2, c2, rfl, hst2⟩ := hr2.strip
                            obtain ⟨L2, hL2⟩ : ∃ L2, l2.length = L2 := ⟨_, rfl⟩
                            simp only [hL2] at hfk2 hr2
                            have HL2 := Lib.hid hL2
                            have HR2 := Lib.hid hr2
                            have HST2 := Lib.hid hst2
                            have HFK := Lib.hid hfk2
                            have HBV := Lib.hid hB
                            have HPS := Lib.hid (show pick B tt (t + 1) = better1 (l2, y2) (pick B tt t) by rw [pick.eq_def]; simp only; rw [hB])
                            have hx22 := Lib.hid (Blk.new wr 87 #[.slice A2 L2 c2, .int .i64 y2])
                            have HA22 := Lib.hid (show Below wr.heap.size wr (wr.alloc (.cells #[.slice A2 L2 c2, .int .i64 y2] 87)) from (Below.refl _ _).alloc (Nat.le_refl _) _)
                            have HSA22 := Lib.hid (show w7.heap.size ≤ (wr.alloc (.cells #[.slice A2 L2 c2, .int .i64 y2] 87)).heap.size from by have := HSZ3.out; simp; omega)
                            clear hB hfk2 hr2 hst2 hL2
                            cases hpt : pick B tt t with
                            | none =>
                              have hpk := HPK.out
                              rw [hpt] at hpk
                              have HPB := Lib.hid (show Blk wr b20 87 #[.slice none 0 0, .int .i64 (-1)] from hpk)
                              obtain ⟨qc, qf, ql⟩ := HPB.out.row
                              have HPT := Lib.hid hpt
                              clear hpk hpt
                              go_wp2_with (at_lookup; refine wl_yes _ rfl (.tmp 127) (.tmp 130) 79 rfl 94 87 keyed94 Try.underlying79 Mb cnt ff _ (zero87 _) rfl HM.out (key2 tt ((t + 1 : Nat) : Int)) rfl HKEY.out (.agg #[.slice A2 L2 c2, .int .i64 y2]) HFK.out ?_)
                              go_roundw
                              case rel => exact ⟨t + 1, by omega, num_step (t + 1), by
                                rw [HPS.out, HPT.out]
                                exact ((show PickAt wr b20 none from HPB.out).put (yb := (l2, y2)) (sv := .slice A2 L2 c2) HR2.out).later ((Below.refl _ _).alloc (Nat.le_refl _) _), (HLW.out.box87 HPB.out HB20.out ((Fx.set wr ⟨b20, 0, none⟩ (.slice A2 L2 c2)).trans (Fx.set _ ⟨b20, 1, none⟩ (.int .i64 y2)) (fun _ _ e => e))).later ((Below.refl _ _).alloc (Nat.le_refl _) _), ((HBL3.out.setCell (p := ⟨b20, 0, none⟩) HB20.out (.slice A2 L2 c2)).setCell (p := ⟨b20, 1, none⟩) HB20.out (.int .i64 y2)).alloc (by simpa [World.setCell] using HSZ3.out) _⟩
                              case measure => simp only [intOf]; omega
                            | some y3 =>
                              obtain ⟨l3, c3⟩ := y3
                              have hpk := HPK.out
                              rw [hpt] at hpk
                              obtain ⟨sv3, hpb, hr3⟩ := (show ∃ sv, Blk wr b20 87 #[sv, .int .i64 c3] ∧ Rt wr sv l3 from hpk)
                              obtain ⟨A3, k3, rfl, hst3⟩ := hr3.strip
                              obtain ⟨L3, hL3⟩ : ∃ L3, l3.length = L3 := ⟨_, rfl⟩
                              simp only [hL3] at hpb
                              have HPB := Lib.hid hpb
                              obtain ⟨qc, qf, ql⟩ := hpb.row
                              obtain ⟨j3, _, hj3⟩ := pick_some hpt
                              have hc3 : ¬ (c3 < 0) := by have := HLW.out.pos _ _ _ hj3; omega
                              have HC := Lib.hid (show Calls Try.prog 31 #[.int .i64 y2, .slice A2 L2 c2, .int .i64 c3, .slice A3 L3 k3] (wr.alloc (.cells #[.slice A2 L2 c2, .int .i64 y2] 87)) fun e w' => e = .returned (.bool (betB y2 l2.length (nth l2) c3 l3.length (nth l3))) ∧ w' = wr.alloc (.cells #[.slice A2 L2 c2, .int .i64 y2] 87) from by
                                have h := Better_same (wr.alloc (.cells #[.slice A2 L2 c2, .int .i64 y2] 87)) y2 c3 A2 A3 l2.length l3.length c2 k3 (nth l2) (nth l3) (by have := (HKP.out.valid _ _ _ hj3).2.2; have := (HKP.out.valid _ _ _ (show B (tt, ((t + 1 : Nat) : Int)) = some (l2, y2) from HBV.out)).2.2; have := HSUM.out; omega) (HST2.out.below HA22.out) (hst3.below HA22.out)
                                rw [HL2.out, hL3] at h ⊢
                                exact h)
                              have HPT := Lib.hid hpt
                              clear hpk hpt hpb hr3 hst3 hj3
                              by_cases hbet : Bet y2 l2 c3 l3
                              · rw [(bet_iff y2 l2 c3 l3).2 hbet] at HC
                                have HBE := Lib.hid hbet
                                clear hbet
                                go_wp2_with (first | (at_lookup; refine wl_yes _ rfl (.tmp 127) (.tmp 130) 79 rfl 94 87 keyed94 Try.underlying79 Mb cnt ff _ (zero87 _) rfl HM.out (key2 tt ((t + 1 : Nat) : Int)) rfl HKEY.out (.agg #[.slice A2 L2 c2, .int .i64 y2]) HFK.out ?_) | (go_at_call 31; (with_reducible refine HC.out.mono ?_); rintro e w15 ⟨rfl, rfl⟩))
                                go_roundw
                                case rel => exact ⟨t + 1, by omega, num_step (t + 1), by
                                  rw [HPS.out, HPT.out]
                                  have e : better1 (l2, y2) (some (l3, c3)) = some (l2, y2) := by unfold better1; simp only; rw [if_pos HBE.out]
                                  rw [e]
                                  exact (HPK.out.put (yb := (l2, y2)) (sv := .slice A2 L2 c2) HR2.out).later ((Below.refl _ _).alloc (Nat.le_refl _) _), (HLW.out.box87 HPB.out HB20.out ((Fx.set wr ⟨b20, 0, none⟩ (.slice A2 L2 c2)).trans (Fx.set _ ⟨b20, 1, none⟩ (.int .i64 y2)) (fun _ _ e => e))).later ((Below.refl _ _).alloc (Nat.le_refl _) _), ((HBL3.out.setCell (p := ⟨b20, 0, none⟩) HB20.out (.slice A2 L2 c2)).setCell (p := ⟨b20, 1, none⟩) HB20.out (.int .i64 y2)).alloc (by simpa [World.setCell] using HSZ3.out) _⟩
                                case measure => simp only [intOf]; omega
                              · rw [Bool.eq_false_iff.2 (fun e => hbet ((bet_iff y2 l2 c3 l3).1 e))] at HC
                                have HBE := Lib.hid hbet
                                clear hbet
                                go_wp2_with (first | (at_lookup; refine wl_yes _ rfl (.tmp 127) (.tmp 130) 79 rfl 94 87 keyed94 Try.underlying79 Mb cnt ff _ (zero87 _) rfl HM.out (key2 tt ((t + 1 : Nat) : Int)) rfl HKEY.out (.agg #[.slice A2 L2 c2, .int .i64 y2]) HFK.out ?_) | (go_at_call 31; (with_reducible refine HC.out.mono ?_); rintro e w15 ⟨rfl, rfl⟩))
                                go_roundw
                                case rel => exact ⟨t + 1, by omega, num_step (t + 1), by
                                  rw [HPS.out, HPT.out]
                                  have e : better1 (l2, y2) (some (l3, c3)) = some (l3, c3) := by unfold better1; simp only; rw [if_neg HBE.out]
                                  rw [e, ← HPT.out]
                                  exact HPK.out.later HA22.out, HLW.out.later HA22.out, HBL3.out.alloc HSZ3.out _⟩
                                case measure => simp only [intOf]; omega
                        · obtain rfl : t = n' - 1 := by omega
                          have c1' : ¬ (((n' - 1 + 1 : Nat) : Int) ≤ (n' : Int) - 1) := by omega
                          have HFI := Lib.hid (show ∀ E, Best m (fun i => (y i).toLnk) (f : Int) E → pick B tt (n' - 1) = E tt from fun E hE => pick_best hE HNT.out.may ⟨by omega, by omega⟩ (fun v h l c hb => by
                            obtain ⟨⟨u, h1, h2⟩, _⟩ := HKP.out.valid _ _ _ hb
                            have h3 : (v, h) = (u, ((l.length : Nat) : Int) - 1) := h2
                            injection h3 with h3 _
                            rw [h3]
                            exact h1) (best2 hE HNT.out.may ⟨by omega, by omega⟩ HKP.out HFU.out fun _ => rfl) (fun e => heq e.symm))
                          have HCP := Lib.hid (show ∀ l c, pick B tt (n' - 1) = some (l, c) → ¬ (c < 0) from fun l c h => by
                            obtain ⟨j3, _, hj3⟩ := pick_some h
                            have := HLW.out.pos _ _ _ hj3
                            omega)
                          have HBF := Lib.hid (show Below w.heap.size w wr from HBN.out ▸ (HBw7.out.trans (HBL3.out.mono (by have h := HBw7.out.size; rw [HBN.out] at h; exact h))))
                          clear hlt
                          generalize hpt : pick B tt (n' - 1) = pp at *
                          clear hpt
                          cases pp with
                          | none =>
                            have hpb : Blk wr b20 87 #[.slice none 0 0, .int .i64 (-1)] := HPK.out
                            obtain ⟨qc, qf, ql⟩ := hpb.row
                            go_wp2
                            go_ret3
                            exact ⟨_, _, _, rfl, HBF.out, fun _ E hE => by rw [← HFI.out E hE]; exact ⟨rfl, rfl, rfl⟩, fun h => absurd HOK.out h⟩
                          | some yb =>
                            obtain ⟨l3, c3⟩ := yb
                            obtain ⟨sv3, hpb, hr3⟩ := (show ∃ sv, Blk wr b20 87 #[sv, .int .i64 c3] ∧ Rt wr sv l3 from HPK.out)
                            obtain ⟨A3, k3, rfl, hst3⟩ := hr3.strip
                            obtain ⟨L3, hL3⟩ : ∃ L3, l3.length = L3 := ⟨_, rfl⟩
                            simp only [hL3] at hpb
                            obtain ⟨qc, qf, ql⟩ := hpb.row
                            have hc3 : ¬ (c3 < 0) := HCP.out _ _ rfl
                            have HST3 := Lib.hid hst3
                            have HL3 := Lib.hid hL3
                            clear hst3 hr3 hL3 hpb
                            go_wp2
                            go_quiet (fail)
                            have HQ := Lib.hid (below_drewN (Below.refl wr.heap.size wr) nq)
                            go_wp2
                            go_ret3
                            exact ⟨.slice A3 l3.length k3, c3, 0, by rw [HL3.out]; rfl, HBF.out.trans (HQ.out.mono HBF.out.size), fun _ E hE => by rw [← HFI.out E hE]; exact ⟨⟨A3, k3, rfl, HST3.out.below HQ.out⟩, rfl, rfl⟩, fun h => absurd HOK.out h⟩
                    | some z' =>
                      obtain ⟨rfl, rfl⟩ := hy1 z' rfl
                      clear hy0 hy1
                      obtain ⟨g', rfl⟩ : ∃ g', gk = g' + 1 := ⟨gk - 1, by have := HD10.out.pot; simp only at this; omega⟩
                      have HST := Lib.hid (LDSettle_calls HD10.out HNT.out ⟨by omega, by omega⟩ HB11.out)
                      go_wp2_with (go_at_call 30; (with_reducible refine HST.out.mono ?_); rintro e w12 ⟨rfl, hst⟩; have HST2 := Lib.hid hst; clear hst)
                      go_roundg g'
                      case measure => omega
                      case rel =>
                        obtain ⟨B', D', qv', k', d', T', r', C', q1, q2, q3, q4, q5, q6, q7⟩ := HST2.out
                        exact ⟨B', D', qv', k', d', T', r', C', q1, q2, q3, q4, q5, q6⟩

      · have hne := chk_ne hN
        have hna : ¬ Asks n m (fun i => (y i).toLnk) fr tt := fun h => hN h.1
        generalize chk n m (fun i => (y i).toLnk) = rr at *
        clear hN
        go_wp2_with (go_at_call 15; (with_reducible refine HC.out.mono ?_); rintro e w5 ⟨rfl, hb5⟩; have HB5 := Lib.hid hb5; clear hb5)
        go_ret3
        exact find_bad (by rw [HBN.out]; exact HBw.out.trans (HB5.out.mono (by rw [← HBN.out]; exact HBw.out.size))) hna
end Go.Proofs.Yteaipeejhippiaa
