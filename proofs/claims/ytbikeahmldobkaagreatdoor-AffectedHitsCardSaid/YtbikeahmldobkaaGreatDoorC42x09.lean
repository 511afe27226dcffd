/-
  Lemmas for the law.
-/
import Derived.Test.YtbikeahmldobkaaGreatDoorC42x08
import Derived.Test.YtbikeahmldobkaaGreatDoorC42x02
import Derived.Maps.OwnSet
import Derived.DeepKeys5
import Derived.Laws.AppendOwn
import Derived.OwnWalk
import Derived.Still
set_option linter.all false
set_option maxRecDepth 100000
set_option maxHeartbeats 3200000
namespace Go.Proofs.YtbikeahmldobkaaGreatDoor
open Go.RowKit
def Comps (w : World) (v : Value) (l : List V.Comp) : Prop :=
 ∃ a cap, v = .slice a l.length cap /\ ∀ j (h : j < l.length), CompWf l[j] /\ ∃ b off, a = some ⟨b, off, none⟩ /\ b < w.heap.size /\ w.rangeAt b (off + j * 36) (qu l[j])
theorem Comps.nil (w : World) : Comps w (.slice none 0 0) [] := ⟨none, 0, rfl, fun j h => by simp at h⟩
theorem Comps.below {w w' : World} {v : Value} {l : List V.Comp} (h : Comps w v l) (hb : Below w.heap.size w w') : Comps w' v l := by
 obtain ⟨a, cap, e, hc⟩ := h
 refine ⟨a, cap, e, fun j hj => ?_⟩
 obtain ⟨hw, b, off, ea, hlt, hr⟩ := hc j hj
 exact ⟨hw, b, off, ea, Nat.lt_of_lt_of_le hlt hb.size, zi hr hb⟩
theorem Comps.at {w : World} {a : Option Addr} {n cap : Nat} {l : List V.Comp} (h : Comps w (.slice a n cap) l) (j : Nat) (hj : j < l.length) :
  CompWf l[j] /\ ∃ b off, a = some ⟨b, off, none⟩ /\ b < w.heap.size /\ w.rangeAt b (off + j * 36) (qu l[j]) := by
 obtain ⟨a', c, e, hc⟩ := h
 cases e
 exact hc j hj
theorem zl9 {P : Program} {ops : Array Oper} {rest : List Oper} {o : Oper} {a : Act} {w : World} {Q : Exit -> Act -> World -> Prop} (hw : Region.wanted o (yielded ops a.tmps) = true)
  (h : ∀ K : Act -> World -> Prop, (∀ a w, wpList P ops Q rest a w -> K a w) -> o.wp P a w K Q) : wpList P ops Q (o :: rest) a w :=
 wpList_step fun K hK => by rw [if_pos hw]; exact h K hK
theorem zs9 {ops : Array Oper} {rest : List Oper} {o : Oper} {a : Act} {w : World} {Q : Exit -> Act -> World -> Prop} (hw : Region.wanted o (yielded ops a.tmps) = true) (x : Operand) (ho : o.op = .load 60 x)
  (b off : Nat) (hx : a.eval x = .pointer (some ⟨b, off, none⟩)) (c : V.Comp) (hc : CompWf c) (hr : w.rangeAt b off (qu c))
  (h : wpList Tryz.prog ops Q rest (a.put o.dst (.agg (ccells c))) w) : wpList Tryz.prog ops Q (o :: rest) a w :=
 zl9 hw fun K hK => by
  obtain ⟨d, hu, hd⟩ := zic
  exact wp_load_mid _ x ho b off hx (qu c) d hr hu hd (by rw [zbx]; have := hc.size; unfold ccells at this; simp at this; rw [this]) (hK _ _ h)
def CMap (w : World) (b n : Nat) (l : List V.Comp) : Prop :=
 ∃ D : DataW Unit, w.ownsMap Tryz.prog 60 (Go.plainElem Tryz.prog 4) b n D /\ (∃ es, D = .map es) /\ ∀ c, CompWf c -> D.atKey (.string (keyBytes (ym c))) (.lit (.bool false)) = .lit (.bool (decide (c ∈ l)))
theorem zqk : Go.Maps.Keyed Tryz.prog 60 := by
 refine Go.Maps.Keyed.of_law (deep_law_gate laidOutK ?_ ?_ ?_ ?_)
 ·exact of_decide_eq_true (by kernel_rfl)
 ·exact of_decide_eq_true (by kernel_rfl)
 ·kernel_rfl
 ·kernel_rfl
theorem zu2 (w : World) : (zeroValue 4).run Tryz.prog w = .ok (.bool false) w := by kernel_rfl
theorem CMap.made (w : World) : CMap (w.alloc (.map #[] 0)) w.heap.size 0 [] :=
 ⟨.map [], World.ownsMap_made _ _ _ _, ⟨[], rfl⟩, fun c _ => by simp [DataW.atKey]⟩
theorem CMap.kept {w w' : World} {b n : Nat} {l : List V.Comp} (h : CMap w b n l) (hb : Below w.heap.size w w') : CMap w' b n l := by
 obtain ⟨D, h1, h2, h3⟩ := h
 exact ⟨D, h1.kept (row := none) ⟨hb.os, hb.tape, hb.output, hb.size, fun k hk _ => hb.block k hk⟩ (by simp), h2, h3⟩
theorem zm7 {a b : V.Comp} (ha : CompWf a) (hb : CompWf b) (h : Lit.string (keyBytes (ym a)) = .string (keyBytes (ym b))) : a = b :=
 ze8 (keyLits_inj (zb5 0 ha) (zb5 0 hb) (by simpa using h))
theorem zvc {v : Value} {z : DataW Unit × List MemPlace} (h : Go.plainElem Tryz.prog 4 v = some z) : ∃ x, v = .bool x /\ z = (.lit (.bool x), []) := by
 unfold Go.plainElem at h
 rw [Tryz.underlying4] at h
 cases v <;> simp at h
 exact ⟨_, rfl, h.symm⟩
theorem CMap.look {w : World} {b n : Nat} {l : List V.Comp} (h : CMap w b n l) {c : V.Comp} (hc : CompWf c) : (Instr.lookup 105 (.map (some b)) (.agg (ccells c)) false).run Tryz.prog w = .ok (.bool (decide (c ∈ l))) w := by
 obtain ⟨D, h1, _, h3⟩ := h
 obtain ⟨v, ps, g0, hv⟩ := h1.lookup zqk Tryz.underlying105 (zu2 w) (Go.plainElem_bool Tryz.underlying4 false) (ze9 hc)
 obtain ⟨x, rfl, hz⟩ := zvc hv
 rw [g0]
 have := (Prod.mk.inj hz).1
 rw [h3 c hc] at this
 injection this with this
 injection this with this
 rw [this]
theorem zla {ops : Array Oper} {rest : List Oper} {o : Oper} {a : Act} {w : World} {Q : Exit -> Act -> World -> Prop} (hw : Region.wanted o (yielded ops a.tmps) = true) (m x : Operand) (ho : o.op = .lookup 105 m x false)
  (b n : Nat) (l : List V.Comp) (hm : a.eval m = .map (some b)) (g0 : CMap w b n l) (c : V.Comp) (hc : CompWf c) (hx : a.eval x = .agg (ccells c))
  (h : wpList Tryz.prog ops Q rest (a.put o.dst (.bool (decide (c ∈ l)))) w) : wpList Tryz.prog ops Q (o :: rest) a w :=
 zl9 hw fun K hK => by
  unfold Oper.wp
  simp [execOp, ho, hm, hx, g0.look hc, Result.andThen]
  exact hK _ _ h
theorem zur {ops : Array Oper} {rest : List Oper} {o : Oper} {a : Act} {w : World} {Q : Exit -> Act -> World -> Prop} (hg : o.guard = none) (m x v : Operand) (ho : o.op = .mapUpdate 105 m x v)
  (b n : Nat) (l : List V.Comp) (hm : a.eval m = .map (some b)) (g3 : CMap w b n l) (hn : n < maxLen) (c : V.Comp) (hc : CompWf c) (hx : a.eval x = .agg (ccells c)) (hv : a.eval v = .bool true)
  (h : ∀ w', CMap w' b (n + 1) (l ++ [c]) -> w.grownBy w' (some b) -> wpList Tryz.prog ops Q rest (a.put o.dst undef) w') : wpList Tryz.prog ops Q (o :: rest) a w := by
 obtain ⟨D, h1, ⟨es, he⟩, h3⟩ := g3
 refine wpList_mapUpdate_own w hg m x v 105 ho 60 4 zqk Tryz.underlying105 (Go.plainElem Tryz.prog 4) b n D hm h1 hn _ _ _ hx hv (ze9 hc) (.lit (.bool true)) [] (Go.plainElem_bool Tryz.underlying4 true) ?_
 intro w' g1 g2
 refine h w' ⟨_, g1, Go.Maps.IsMap.put ⟨es, he⟩ _ _, fun c' g0 => ?_⟩ g2
 by_cases e : c' = c
 ·subst e
  rw [Go.Maps.atKey_put_same (k := Lit.string (keyBytes (ym c'))) ⟨es, he⟩ trivial]
  simp
 ·rw [Go.Maps.atKey_put_other (fun g => e (zm7 g0 hc g)), h3 c' g0]
  congr 2
  simp [e]
def vj : List V.Bs := [[122, 108, 105, 98], [115, 115, 108], [108, 105, 98, 115, 47, 112, 110, 103], [97]]
theorem zfy : ∀ x ∈ vj, V.jp x = true := by decide +kernel
structure Made (par : Int) (c : V.Comp) : Prop where
 wf : CompWf c
 ok : V.yj c = true
 par : c.par = par
 nm : c.name ∈ vj
def CompPost (b k : Nat) (par : Int) (w : World) (e : Ending) (w' : World) : Prop :=
 ∃ c : V.Comp, Made par c /\ e = .returned (.agg (ccells c)) /\ Tape w' b (k + 5) /\ w.grownBy w' (some b)
theorem zoo (c : V.Comp) (v : V.Bs) : (ccells c).setIfInBounds 3 (.string ⟨v.toArray⟩) = ccells { c with ver := v } := by
 unfold ccells qu
 simp
theorem z0d {P : Prop} (h : P := by
 have h4 : j = 0 ∨ j = 1 ∨ j = 2 ∨ j = 3 := by omega
 rcases h4 with rfl | rfl | rfl | rfl <;> rfl) : P := h
theorem comp_any (b k : Nat) (par : Int) (w : World) (h : Tape w b k) (hk : k ≤ 100000) (hp : (Lit.int .i64 par).wf = true) :
  Calls Tryz.prog 63 #[.pointer (some ⟨b, 0, none⟩), .int .i64 par] w (CompPost b k par w) := by
 have HT := zv2 h
 have HP := zv2 hp
 have hbw := h.lt
 clear h hp
 go_enter Tryz.func63, Tryz.ntmps63
 go_wp2_with fail
 rw [zro]
 obtain ⟨W0, hW0⟩ : ∃ W0, W0 = w.alloc (.cells (ccells zfi) 60) := ⟨_, rfl⟩
 have j0 : W0.heap[w.heap.size]? = some (.cells (ccells zfi) 60 (0, 0)) := by rw [hW0]; exact heap_alloc_new w _
 have q4 : W0.heap.size = w.heap.size + 1 := by rw [hW0]; simp
 have h4 : Below w.heap.size w W0 := by rw [hW0]; exact (zv5 _ w).alloc (zv4 _) _
 rw [← hW0]
 clear hW0
 refine (kh b k 3 _ (HT.out.below h4) (by omega) (by omega) (by omega)).mono ?_
 rintro e w1 ⟨r, hr, rfl, ht1, hg1⟩
 have HG1 := zv2 (World.grownBy.trans (zq h4 (some b)) hg1)
 have HT1 := zv2 ht1
 have j1 : w.heap.size < w1.heap.size := Nat.lt_of_lt_of_le (by omega) hg1.size
 have j2 : Hid (w1.heap[w.heap.size]? = some (.cells (ccells zfi) 60 (0, 0))) := zv2 ((hg1.block _ (by omega) (by simp; omega)).trans j0)
 clear j0 q4 h4 ht1 hg1
 go_wp2_with fail
 refine (zay b (k + 1) _ ⟨w1.heap.size, 0, none⟩ 4 vj (HT1.out.below ((zv5 _ w1).alloc (zv4 _) _)) (by omega) (by decide) (by decide) (by simp; omega) rfl (fun j hj => by
     rw [World.cell?_alloc_new, Nat.zero_add]
     have : ∀ j : Fin 4, (#[Value.string ⟨#[122, 108, 105, 98]⟩, Value.string ⟨#[115, 115, 108]⟩, Value.string ⟨#[108, 105, 98, 115, 47, 112, 110, 103]⟩, Value.string ⟨#[97]⟩])[j.val]? = some (Value.string ⟨(vj.getD j.val []).toArray⟩) := by
       intro j; rcases j with ⟨j, hj⟩
       exact z0d
     exact this ⟨j, hj⟩)).mono ?_
 rintro e w2 ⟨x, hx, rfl, j3, j4⟩
 have hb1 : Below w1.heap.size w1 (w1.alloc (.cells #[Value.string ⟨#[122, 108, 105, 98]⟩, Value.string ⟨#[115, 115, 108]⟩, Value.string ⟨#[108, 105, 98, 115, 47, 112, 110, 103]⟩, Value.string ⟨#[97]⟩] 9)) := (zv5 _ w1).alloc (zv4 _) _
 have g1 := World.grownBy.trans (zq hb1 (some b)) j4
 have j5 := zv2 (World.grownBy.trans HG1.out g1)
 have j6 := zv2 j3
 have q5 : w.heap.size < w2.heap.size := Nat.lt_of_lt_of_le j1 g1.size
 have j7 : Hid (w2.heap[w.heap.size]? = some (.cells (ccells zfi) 60 (0, 0))) := zv2 ((g1.block _ j1 (by simp; omega)).trans j2.out)
 have HX := zv2 (zfy x hx)
 have q6 := zv2 hx
 have y1 : x.length ≤ 200 := by
  have := zfy x hx
  unfold V.jp at this
  simp only [Bool.and_eq_true, decide_eq_true_eq] at this
  exact this.1.1.2
 have hr3 : (1 : Int) + (r : Int) = 1 ∨ (1 : Int) + (r : Int) = 2 ∨ (1 : Int) + (r : Int) = 3 := by omega
 obtain ⟨n, hn⟩ : ∃ n, n = (1 : Int) + (r : Int) := ⟨_, rfl⟩
 rw [← hn] at hr3
 have g9 : Hid (CompWf ⟨par, n, x, [], zu⟩) := zv2 ⟨HP.out, by show (Lit.int .i64 n).wf = true; rcases hr3 with rfl | rfl | rfl <;> decide, by unfold maxLen; show x.length ≤ _; omega, (Nat.zero_le _ : ([] : V.Bs).length ≤ maxLen), (by decide : zu.length = 32), (by decide : ∀ n ∈ zu, (Lit.int .u8 n).wf = true)⟩
 have q7 := zv2 hr3
 clear j3 j4 hb1 g1 hx hr3 j2 HT1 HG1
 have k9 : (ccells ⟨par, 1 + (r : Int), x, [], zu⟩)[1]? = some (.int .i64 (1 + (r : Int))) := rfl
 have q0 : Hid (CompWf ⟨par, 1 + (r : Int), x, [], zu⟩) := zv2 (by rw [← hn]; exact g9.out)
 have HSN : Hid (V.scheme n = true) := zv2 (by unfold V.scheme; rcases q7.out with rfl | rfl | rfl <;> rfl)
 go_wp2_with (first | (refine zb2 rfl _ _ rfl _ _ rfl ⟨par, 1 + (r : Int), x, [], zu⟩ q0.out rfl rfl ?_) | fail)
 rw [← hn]
 obtain ⟨W3, g4⟩ : ∃ W3, W3 = w2.alloc (.cells (ccells ⟨par, n, x, [], zu⟩) 60) := ⟨_, rfl⟩
 have hb3 : Below w2.heap.size w2 W3 := by rw [g4]; exact (zv5 _ w2).alloc (zv4 _) _
 have g7 : W3.heap[w2.heap.size]? = some (.cells (ccells ⟨par, n, x, [], zu⟩) 60 (0, 0)) := by rw [g4]; exact heap_alloc_new w2 _
 have j8 : W3.heap.size = w2.heap.size + 1 := by rw [g4]; simp
 rw [← g4]
 clear g4 k9
 refine (zdi b (k + 1 + 1) n W3 (j6.out.below hb3) (by omega) HSN.out).mono ?_
 rintro e w4 ⟨v, hv, rfl, j9, hg4⟩
 have q1 : b < w2.heap.size := by omega
 obtain ⟨C, hC⟩ : ∃ C, C = w2.heap.size := ⟨_, rfl⟩
 rw [← hC] at g7 j8 q5 q1 ⊢
 have g2 := (hg4.block C (by omega) (by simp; omega)).trans g7
 have HR4 : Hid (w4.heap[w.heap.size]? = some (.cells (ccells zfi) 60 (0, 0))) := zv2 ((hg4.block _ (by omega) (by simp; omega)).trans ((hb3.block _ (by omega)).trans j7.out))
 have k0 : w.heap.size ≤ C := by omega
 have hz4 : C < w4.heap.size := Nat.lt_of_lt_of_le (by omega) hg4.size
 have HG4 := zv2 (World.grownBy.trans (World.grownBy.trans j5.out (zq hb3 (some b))) hg4)
 have q8 := zv2 j9
 have HV := zv2 hv
 have h5 : w4.cell? ⟨C, 3, none⟩ = some (.string ⟨#[]⟩) := by rw [cell_of_row w4 C 3 _ _ _ g2]; rfl
 have q2 : w4.frozen? ⟨C, 3, none⟩ = false := frozen_of_row w4 C 3 _ _ g2
 have g3 := heap_setCell_same w4 C 3 _ _ (.string ⟨v.toArray⟩) g2
 rw [zoo] at g3
 simp only at g3
 have q3 := zv2 g3
 have q9 : Hid ((w4.setCell ⟨C, 3, none⟩ (.string ⟨v.toArray⟩)).heap[w.heap.size]? = some (.cells (ccells zfi) 60 (0, 0))) := zv2 (by rw [heap_setCell_other w4 _ _ _ (by simp; omega)]; exact HR4.out)
 have v0 : Hid (Tape (w4.setCell ⟨C, 3, none⟩ (.string ⟨v.toArray⟩)) b (k + 1 + 1 + 1)) := zv2 (q8.out.set (by omega) h5 (by intro _ _ g; cases g))
 have v1 : Hid (w.grownBy (w4.setCell ⟨C, 3, none⟩ (.string ⟨v.toArray⟩)) (some b)) := zv2 (zar HG4.out (js w4 C 3 _) k0)
 clear hb3 g7 j8 hg4 g2 j9 hv g3 j5 j6 j7 hC
 have k1 : C < (w4.setCell ⟨C, 3, none⟩ (.string ⟨v.toArray⟩)).heap.size := by simpa [World.setCell] using hz4
 go_wp2_with fail
 clear h5 q2
 generalize w4.setCell ⟨C, 3, none⟩ (.string ⟨v.toArray⟩) = w5 at *
 have h6 : Hid (∀ d : List Int, d.length = 32 -> (∀ n ∈ d, (Lit.int .u8 n).wf = true) -> Made par ⟨par, n, x, v, d⟩) := zv2 (fun d h1 h2 => ⟨⟨g9.out.par, g9.out.sch, g9.out.name, by have := V.yc HV.out; unfold maxLen; show v.length ≤ _; omega, h1, h2⟩, by rw [V.zrz]; exact ⟨HX.out, HV.out⟩, rfl, q6.out⟩)
 refine (kh b (k + 1 + 1 + 1) 3 _ v0.out (by omega) (by omega) (by omega)).mono ?_
 rintro e w6 ⟨r2, y2, rfl, k2, g5⟩
 have k3 := zv2 k2
 have k4 := zv2 (World.grownBy.trans v1.out g5)
 have h7 := zv2 ((g5.block C k1 (by simp; omega)).trans q3.out)
 have h8 := zv2 ((g5.block _ (by omega) (by simp; omega)).trans q9.out)
 have k5 : C < w6.heap.size := Nat.lt_of_lt_of_le k1 g5.size
 clear k2 g5
 by_cases h0 : r2 = 0
 ·subst h0
  go_wp2_with fail
  refine (zs6 b (k + 1 + 1 + 1 + 1) w6 k3.out (by omega)).mono ?_
  rintro e w7 ⟨y, v2, v3, rfl, ht7, hg7⟩
  have h3 : (dig1 (y : Int)).length = 32 := rfl
  have k6 : ∀ n ∈ dig1 (y : Int), (Lit.int .u8 n).wf = true := by
   intro m hm
   have v4 : y = 1 ∨ y = 2 ∨ y = 3 ∨ y = 4 ∨ y = 5 ∨ y = 6 := by omega
   rcases List.mem_cons.1 hm with rfl | hm
   ·rcases v4 with rfl | rfl | rfl | rfl | rfl | rfl <;> decide
   ·rw [(List.mem_replicate.1 hm).2]; decide
  have g0 := zv2 (h6.out (dig1 y) h3 k6)
  have k7 := zv2 (h6.out zu (by decide) (by decide))
  have h9 := zv2 ((hg7.block C k5 (by simp; omega)).trans h7.out)
  have v5 := zv2 ((hg7.block _ (by omega) (by simp; omega)).trans h8.out)
  have v6 := zv2 ht7
  have HG7 := zv2 (World.grownBy.trans k4.out hg7)
  have hz7 : C < w7.heap.size := Nat.lt_of_lt_of_le k5 hg7.size
  have v7 := zv2 (zlk k7.out.wf h9.out)
  obtain ⟨W8, g6⟩ : ∃ W8, W8 = w7.setCells C 4 (dcells (dig1 (y : Int))).toList := ⟨_, rfl⟩
  have HRD : Hid (W8.rangeAt C 0 (qu ⟨par, n, x, v, dig1 y⟩)) := zv2 (by rw [g6]; exact zvp k7.out.wf h9.out h3)
  have k8 : Hid (W8.heap[w.heap.size]? = some (.cells (ccells zfi) 60 (0, 0))) := zv2 (by rw [g6, World.heap_setCells_other w7 C 4 _ (by omega) (by omega)]; exact v5.out)
  have g8 : w7.grownBy W8 (some C) := by rw [g6]; exact zka w7 C 4 _
  have HT8 := zv2 (v6.out.grown g8 (by simp; omega) (by intro b' e; cases e; omega))
  have v8 := zv2 (zar HG7.out g8 k0)
  have v9 := zv2 g6
  have y0 := zv2 h3
  clear ht7 hg7 h3 k6 v2 v3 g6 g8
  go_wp2_with (first | (refine vt rfl _ rfl C 0 rfl ⟨par, n, x, v, dig1 y⟩ g0.out.wf HRD.out ?_) | (refine zg8 rfl _ _ rfl w.heap.size _ _ k8.out rfl ⟨par, n, x, v, dig1 y⟩ g0.out.wf rfl zqr.size ?_) | (refine znj rfl _ _ rfl C 4 (dig1 (y : Int)) y0.out rfl rfl v7.out W8 v9.out ?_) | fail)
  refine bodyPost_ret (v := .agg (ccells ⟨par, n, x, v, dig1 y⟩)) ?_ rfl ⟨_, g0.out, rfl, ?_, ?_⟩
  ·exact qr Tryz.results63 rfl (zhe g0.out.wf (setRow_heap _ w.heap.size _ _ _ _ k8.out))
  ·exact (HT8.out.grown (qc _ w.heap.size _) (by simp; omega) (by intro b' e; cases e; omega)).le (by omega)
  ·exact zar v8.out (qc _ _ _) (zv4 _)
 ·have y3 : ((r2 : Int) == 0) = false := by rw [zv6]; omega
  have g0 := zv2 (h6.out (zu) (by decide) (by decide))
  go_wp2_with (first | (refine vt rfl _ rfl C 0 rfl ⟨par, n, x, v, zu⟩ g0.out.wf (zuh h7.out) ?_) | (refine zg8 rfl _ _ rfl w.heap.size _ _ h8.out rfl ⟨par, n, x, v, zu⟩ g0.out.wf rfl zqr.size ?_) | fail)
  refine bodyPost_ret (v := .agg (ccells ⟨par, n, x, v, zu⟩)) ?_ rfl ⟨_, g0.out, rfl, ?_, ?_⟩
  ·exact qr Tryz.results63 rfl (zhe g0.out.wf (setRow_heap w6 w.heap.size _ _ _ _ h8.out))
  ·exact (k3.out.grown (qc w6 w.heap.size _) (by simp; omega) (by intro b' e; cases e; omega)).le (by omega)
  ·exact zar k4.out (qc _ _ _) (zv4 _)
open Go.RowKit
theorem zct {c : V.Comp} (h : CompWf c) : (qu c).length = 36 := by have := h.size; unfold ccells at this; simpa using this
theorem ztd : ∀ {l : List V.Comp}, (∀ c ∈ l, CompWf c) -> ∀ j (h : j < l.length) i, i < 36 -> (l.flatMap qu)[j * 36 + i]? = (qu l[j])[i]?
 | [], _, j, h, _, _ => by simp at h
 | c :: l, hw, 0, _, i, hi => by
  rw [List.flatMap_cons, List.getElem?_append_left (by rw [zct (hw c (by simp))]; omega)]
  simp
 | c :: l, hw, j + 1, h, i, hi => by
  have hl := zct (hw c (by simp))
  rw [List.flatMap_cons, List.getElem?_append_right (by rw [hl]; omega), hl, show (j + 1) * 36 + i - 36 = j * 36 + i by omega]
  rw [ztd (fun d hd => hw d (by simp [hd])) j (by simpa using h) i hi]
  simp
def CRow (w : World) (N : Nat) (v : Value) (l : List V.Comp) : Prop := w.ownsRow N 60 36 v l.length (l.flatMap qu) /\ ∀ c ∈ l, CompWf c
theorem CRow.nil (w : World) (N : Nat) : CRow w N (.slice none 0 0) [] := ⟨⟨rfl, .inl ⟨rfl, rfl⟩⟩, fun c hc => by simp at hc⟩
theorem CRow.comps {w : World} {N : Nat} {v : Value} {l : List V.Comp} (h : CRow w N v l) : Comps w v l := by
 obtain ⟨⟨hx, h⟩, hw⟩ := h
 rcases h with ⟨rfl, hn⟩ | ⟨g, cap, cur, rfl, hb, hg, g1, hm, g2, g0⟩
 ·have := List.eq_nil_of_length_eq_zero hn
  subst this
  exact Comps.nil w
 ·refine ⟨_, cap, rfl, fun j hj => ⟨hw _ (List.getElem_mem hj), g, 0, rfl, (Array.getElem?_eq_some_iff.1 hg).1, fun i u hu => ?_⟩⟩
  have hi : i < 36 := by
   have := (List.getElem?_eq_some_iff.1 hu).1
   rw [zct (hw _ (List.getElem_mem hj))] at this
   exact this
  rw [cell_of_row w g _ cur _ (0, 0) hg, show 0 + j * 36 + i = j * 36 + i by omega]
  have h1 := ztd hw j hj i hi
  rw [hu, ← g0, List.getElem?_take] at h1
  split at h1
  ·simpa using h1
  ·cases h1
theorem zyt {P : Prop} (h : P := by
 refine .inr ⟨g, cap, cur, rfl, hb, ?_, rest⟩
 rw [hg.block g (Array.getElem?_eq_some_iff.1 hgg).1 (fun e => by have := hr g e.symm; omega)]
 exact hgg) : P := h
theorem CRow.kept {w w' : World} {N : Nat} {v : Value} {l : List V.Comp} (h : CRow w N v l) {row : Option Nat} (hg : w.grownBy w' row) (hr : ∀ b, row = some b -> b < N) : CRow w' N v l := by
 obtain ⟨⟨hx, h⟩, hw⟩ := h
 refine ⟨⟨hx, ?_⟩, hw⟩
 rcases h with h | ⟨g, cap, cur, rfl, hb, hgg, rest⟩
 ·exact .inl h
 ·exact zyt
theorem CRow.block {w : World} {N : Nat} {v : Value} {l : List V.Comp} (h : CRow w N v l) : ∀ b, v.ownBlock = some b -> N ≤ b := by
 obtain ⟨⟨_, h⟩, _⟩ := h
 intro b hb
 rcases h with ⟨rfl, _⟩ | ⟨g, cap, cur, rfl, hbb, _⟩
 ·cases hb
 ·simp [Value.ownBlock] at hb; omega
theorem zwh {P : Prop} (h : P := by
 rw [hq] at h
 simp only [Bool.and_eq_true, beq_iff_eq] at h
 obtain ⟨h1, h2, h3⟩ := h
 cases hz : i.zero with
 | none => rw [hz] at h3; cases h3
 | some z =>
  rw [hz] at h3
  exact ⟨i, z, rfl, hz, h1, h2, by simpa using h3⟩) : P := h
theorem compIE3 : ∃ ie z, Tryz.prog.info? 60 = some ie /\ ie.zero = some z /\ ie.size = 36 /\ ie.bytes = 80 /\ z.cells.size = 36 := by
 have h : (match Tryz.prog.info? 60 with | some i => i.size == 36 && (i.bytes == 80 && (match i.zero with | some z => z.cells.size == 36 | none => false)) | none => false) = true := by kernel_rfl
 cases hq : Tryz.prog.info? 60 with
 | none => rw [hq] at h; cases h
 | some i =>
  exact zwh
theorem zrw {ops : Array Oper} {rest : List Oper} {o : Oper} {a : Act} {w : World} {Q : Exit -> Act -> World -> Prop} (g1 : o.guard = none) (s x : Operand)
  (ho : o.op = .call { callee := .builtin .append, args := #[s, x], argTypes := #[27, 27] })
  (N : Nat) (v : Value) (l : List V.Comp) (hs : a.eval s = v) (g0 : CRow w N v l) (b : Nat) (c : V.Comp) (hc : CompWf c) (hx : a.eval x = .slice (some ⟨b, 0, none⟩) 1 1) (hr : w.rangeAt b 0 (qu c)) (hl : l.length ≤ 1000000) (hN : N ≤ w.heap.size)
  (h : ∀ v' w', CRow w' N v' (l ++ [c]) -> w.grownBy w' v.ownBlock -> wpList Tryz.prog ops Q rest (a.put o.dst v') w') : wpList Tryz.prog ops Q (o :: rest) a w := by
 obtain ⟨ie, z, hi, hz, h1, h2, h3⟩ := compIE3
 refine wpList_append_own w g1 s x 27 ho N 60 ie z 36 80 Tryz.underlying27 hi hz h1 h2 h3 (by decide) v l.length (l.flatMap qu) hs g0.1 ⟨b, 0, none⟩ 1 1 (qu c) hx (zct hc) ?_ ?_ (by unfold maxLen; omega) (by omega) hN ?_
 ·intro j u hj
  rw [Addr.add_mid]
  exact hr j u hj
 ·intro u hu
  have := Array.all_eq_true_iff_forall_mem.1 (zi8 (c := c)) u (by unfold ccells; simpa using hu)
  exact this
 ·intro v' w' ho' hg _
  refine h v' w' ⟨?_, fun d hd => ?_⟩ hg
  ·rw [List.length_append, List.flatMap_append]
   simpa using ho'
  ·rcases List.mem_append.1 hd with hd | hd
   ·exact g0.2 d hd
   ·rw [List.mem_singleton.1 hd]; exact hc
theorem zl8 {ops : Array Oper} {rest : List Oper} {o : Oper} {a : Act} {w : World} {Q : Exit -> Act -> World -> Prop} (g1 : o.guard = none) (x : Operand) (ho : o.op = .buildSlice 27 1 #[(0, x)])
  (c : V.Comp) (hc : CompWf c) (hx : a.eval x = .agg (ccells c))
  (h : wpList Tryz.prog ops Q rest (a.put o.dst (.slice (some ⟨w.heap.size, 0, none⟩) 1 1)) (w.alloc (.cells (ccells c) 60))) : wpList Tryz.prog ops Q (o :: rest) a w := by
 obtain ⟨ie, z, g2, g0, hz⟩ := compIE
 refine wpList_buildSlice g1 _ 60 1 _ ho (ccells c) ie z Tryz.underlying27 g2 hz (by rw [g0]; decide) (by rw [g0]; decide) ?_ h
 have := Great.fill_whole (s := 36) (by decide) [Value.agg (ccells c)] ((Array.range (1 * ie.size)).map (z.cells[· % z.cells.size]!)) (fun v hv => by
   rcases List.mem_cons.1 hv with rfl | hv
   · exact hc.size
   · cases hv) (by rw [g0]; simp)
 rw [g0] at this ⊢
 simp only [hx, List.map_toArray, List.map_cons, List.map_nil]
 exact this.trans (by simp [Value.cells])
theorem zcn {ops : Array Oper} {o : Oper} {a : Act} {w : World} {K : Act -> Prop} {E : Prop} (hw : Region.wanted o (yielded ops a.tmps) = true) (x : Operand) (ho : o.op = .load 60 x)
  (b off : Nat) (hx : a.eval x = .pointer (some ⟨b, off, none⟩)) (c : V.Comp) (hc : CompWf c) (hr : w.rangeAt b off (qu c)) (h : K (a.put o.dst (.agg (ccells c)))) :
  if Region.wanted o (yielded ops a.tmps) = true then o.still Tryz.prog a w K else E := by
 rw [if_pos hw]
 unfold Oper.still execOp
 simp only [ho, hx, Sem.run_bind, zuj hc hr, Result.andThen_ok, Sem.run_pure, Oper.stillUpon_value]
 exact h
theorem zmu {ops : Array Oper} {o : Oper} {a : Act} {w : World} {K : Act -> Prop} {E : Prop} (hw : Region.wanted o (yielded ops a.tmps) = true) (x y : Operand) (ho : o.op = .binOp .eql 60 x y 60)
  (c d : V.Comp) (hc : CompWf c) (hd : CompWf d) (hx : a.eval x = .agg (ccells c)) (hy : a.eval y = .agg (ccells d)) (h : K (a.put o.dst (.bool (decide (c = d))))) :
  if Region.wanted o (yielded ops a.tmps) = true then o.still Tryz.prog a w K else E := by
 rw [if_pos hw]
 unfold Oper.still execOp
 simp only [ho, hx, hy, Sem.run_bind, run_eqGuard_agg w .eql 60 x y _ _ zrr, Result.andThen_ok, run_eql_struct, eq_comp hc hd, Sem.run_pure, Oper.stillUpon_value]
 exact h
theorem zdv (l : List V.Comp) (c : V.Comp) : ∀ k, k ≤ l.length -> V.qb (l ++ [c]) k = V.qb l k
 | 0, _ => rfl
 | k + 1, h => by
  have h1 : k < l.length := by omega
  rw [V.xg h1, V.xg (l := l ++ [c]) (by simp; omega), zdv l c k (by omega)]
  rw [List.getElem_append_left h1]
  unfold V.zbe
  rw [List.take_append_of_le_length (by omega)]
theorem zon {l : List V.Comp} {c : V.Comp} (h : V.qb l l.length = true) (h1 : V.yj c = true) (h2 : -1 ≤ c.par) (h3 : c.par < l.length) (h4 : c ∉ l) : V.qb (l ++ [c]) (l ++ [c]).length = true := by
 rw [List.length_append, List.length_singleton, V.xg (by simp), zdv l c _ (zv4 _), h]
 rw [List.getElem_append_right (zv4 _)]
 simp only [Nat.sub_self, List.getElem_cons_zero, Bool.true_and]
 rw [V.zju]
 refine ⟨h1, h2, h3, ?_⟩
 rw [List.take_append_of_le_length (zv4 _), List.take_length]
 exact h4
def qi (d : List Int) : Prop := d.length = 32 /\ ∀ n ∈ d, (Lit.int .u8 n).wf = true
def Digs (w : World) (v : Value) (l : List (List Int)) : Prop :=
 ∃ a cap, v = .slice a l.length cap /\ ∀ j (h : j < l.length), qi l[j] /\ ∃ b off, a = some ⟨b, off, none⟩ /\ (∃ cs fr, w.heap[b]? = some (.cells cs 26 fr)) /\ w.rangeAt b (off + j * 32) (zn l[j])
theorem Digs.nil (w : World) : Digs w (.slice none 0 0) [] := ⟨none, 0, rfl, fun j h => by simp at h⟩
theorem Digs.below {w w' : World} {v : Value} {l : List (List Int)} (h : Digs w v l) (hb : Below w.heap.size w w') : Digs w' v l := by
 obtain ⟨a, cap, e, hc⟩ := h
 refine ⟨a, cap, e, fun j hj => ?_⟩
 obtain ⟨hw, b, off, ea, hlt, hr⟩ := hc j hj
 obtain ⟨cs, fr, hg⟩ := hlt
 exact ⟨hw, b, off, ea, ⟨cs, fr, (hb.block b (Array.getElem?_eq_some_iff.1 hg).1).trans hg⟩, zi hr hb⟩
theorem Digs.grow {w w' : World} {v : Value} {l : List (List Int)} (h : Digs w v l) {row : Option Nat} (hg : w.grownBy w' row) (hr : ∀ b, row = some b -> ∃ cs t fr, w.heap[b]? = some (.cells cs t fr) /\ t ≠ 26) : Digs w' v l := by
 obtain ⟨a, cap, e, hc⟩ := h
 refine ⟨a, cap, e, fun j hj => ?_⟩
 obtain ⟨hw, b, off, ea, ⟨cs, fr, hb⟩, g0⟩ := hc j hj
 have hk : w'.heap[b]? = w.heap[b]? := hg.block b (Array.getElem?_eq_some_iff.1 hb).1 (fun e => by
   obtain ⟨cs', t, fr', h1, h2⟩ := hr b e.symm
   rw [hb] at h1
   cases h1
   exact h2 rfl)
 refine ⟨hw, b, off, ea, ⟨cs, fr, hk.trans hb⟩, fun i u hu => ?_⟩
 rw [World.cell?_of_block (a := ⟨b, off + j * 32 + i, none⟩) hk]
 exact g0 i u hu
theorem Digs.one {w : World} {v : Value} {l : List (List Int)} (h : Digs w v l) : v.oneCell' = true := by
 obtain ⟨a, cap, rfl, _⟩ := h; rfl
theorem zcy {d : List Int} (h : qi d) : (zn d).length = 32 := by unfold zn; simp [h.1]
theorem zqc : ∀ {l : List (List Int)}, (∀ d ∈ l, qi d) -> ∀ j (h : j < l.length) i, i < 32 -> (l.flatMap zn)[j * 32 + i]? = (zn l[j])[i]?
 | [], _, j, h, _, _ => by simp at h
 | d :: l, hw, 0, _, i, hi => by
  rw [List.flatMap_cons, List.getElem?_append_left (by rw [zcy (hw d (by simp))]; omega)]
  simp
 | d :: l, hw, j + 1, h, i, hi => by
  have hl := zcy (hw d (by simp))
  rw [List.flatMap_cons, List.getElem?_append_right (by rw [hl]; omega), hl, show (j + 1) * 32 + i - 32 = j * 32 + i by omega]
  rw [zqc (fun c hc => hw c (by simp [hc])) j (by simpa using h) i hi]
  simp
theorem Digs.wf {w : World} {v : Value} {l : List (List Int)} (h : Digs w v l) : ∀ d ∈ l, qi d := by
 obtain ⟨a, cap, e, hc⟩ := h
 intro d hd
 obtain ⟨j, hj, rfl⟩ := List.getElem_of_mem hd
 exact (hc j hj).1
theorem digIE3 : ∃ ie z, Tryz.prog.info? 26 = some ie /\ ie.zero = some z /\ ie.size = 32 /\ ie.bytes = 32 /\ z.cells.size = 32 := by
 have h : (match Tryz.prog.info? 26 with | some i => i.size == 32 && (i.bytes == 32 && (match i.zero with | some z => z.cells.size == 32 | none => false)) | none => false) = true := by kernel_rfl
 cases hq : Tryz.prog.info? 26 with
 | none => rw [hq] at h; cases h
 | some i =>
  exact zwh
theorem row_digs {w : World} {N : Nat} {v : Value} {l : List (List Int)} (h : w.ownsRow N 26 32 v l.length (l.flatMap zn)) (hw : ∀ d ∈ l, qi d) : Digs w v l := by
 rcases h.2 with ⟨rfl, h0⟩ | ⟨g, cap, cur, rfl, _, hg, g0⟩
 ·exact ⟨none, 0, by rw [h0], fun j hj => by omega⟩
 ·refine ⟨_, cap, rfl, fun j hj => ⟨hw _ (List.getElem_mem hj), g, 0, rfl, ⟨_, _, hg⟩, fun i u hu => ?_⟩⟩
  have g1 := zcy (hw _ (List.getElem_mem hj))
  have hi : i < 32 := by have := (List.getElem?_eq_some_iff.1 hu).1; omega
  have := World.ownsRow.cellAt h (j * 32 + i) (by omega)
  rw [Nat.zero_add, this, zqc hw j hj i hi]
  exact hu
theorem xe {ops : Array Oper} {o : Oper} {a : Act} {w : World} {K : Act -> Prop} {E : Prop} (hw : Region.wanted o (yielded ops a.tmps) = true) (x : Operand) (ho : o.op = .load 26 x)
  (b off : Nat) (hx : a.eval x = .pointer (some ⟨b, off, none⟩)) (d : List Int) (hd : qi d) (hr : w.rangeAt b off (zn d)) (h : K (a.put o.dst (.agg (dcells d)))) :
  if Region.wanted o (yielded ops a.tmps) = true then o.still Tryz.prog a w K else E := by
 rw [if_pos hw]
 unfold Oper.still execOp
 have hl : (Instr.loadAt 26 (.pointer (some ⟨b, off, none⟩))).run Tryz.prog w = .ok (.agg (dcells d)) w := run_loadAt_mid w b off _ (zn d) _ hr Tryz.underlying26 rfl (by rw [yp, zcy hd])
 simp only [ho, hx, Sem.run_bind, hl, Result.andThen_ok, Sem.run_pure, Oper.stillUpon_value]
 exact h
theorem zjr {ops : Array Oper} {o : Oper} {a : Act} {w : World} {K : Act -> Prop} {E : Prop} (hw : Region.wanted o (yielded ops a.tmps) = true) (x y : Operand) (ho : o.op = .binOp .neq 26 x y 26)
  (c d : List Int) (hc : qi c) (hd : qi d) (hx : a.eval x = .agg (dcells c)) (hy : a.eval y = .agg (dcells d)) (h : K (a.put o.dst (.bool (!decide (c = d))))) :
  if Region.wanted o (yielded ops a.tmps) = true then o.still Tryz.prog a w K else E := by
 rw [if_pos hw]
 unfold Oper.still execOp
 simp only [ho, hx, hy, Sem.run_bind, run_eqGuard_agg w .neq 26 x y _ _ kz, Result.andThen_ok, run_neq_struct, zm6 hc.1 hc.2 hd.1 hd.2, Sem.run_pure, Oper.stillUpon_value]
 exact h
theorem zsl (v v' : Value) (l : List (List Int)) (w : World) (hv : Digs w v l) (g5 : Digs w v' l) (hl : l.length ≤ 100000) :
  Calls Tryz.prog 65 #[v, v'] w fun e w' => e = .returned (.bool true) /\ Below w.heap.size w w' := by
 obtain ⟨va, vc, rfl, g1⟩ := hv
 obtain ⟨va', vc', rfl, g0⟩ := g5
 have HA := zv2 g1
 have g6 := zv2 g0
 clear g1 g0
 go_enter Tryz.func65, Tryz.ntmps65
 go_wp2
 go_loopw [5] (fun jv wx => ∃ j : Nat, j ≤ l.length /\ jv = .int .i64 j /\ Below w.heap.size w wx) (fun jv _ => l.length - (intOf jv).toNat)
 case atStart => exact ⟨0, Nat.zero_le _, rfl, zv5 _ _⟩
 case round =>
  obtain ⟨j, hj, rfl, g2⟩ := hrel
  have HBX := zv2 g2
  clear g2
  by_cases hlt : j < l.length
  ·obtain ⟨g3, g, off, rfl, g9, hc⟩ := HA.out j hlt
   obtain ⟨_, g', off', rfl, g8, g4⟩ := g6.out j hlt
   have HD := zv2 g3
   have HR := zv2 (zi (zi hc HBX.out) (zv5 _ wr).drew)
   have g7 := zv2 (zi (zi g4 HBX.out) (zv5 _ wr).drew)
   have h0 : (0 : Int) ≤ (j : Int) := by omega
   have h1 : (j : Int) < (l.length : Int) := by omega
   clear hc g4 g3
   generalize l[j] = d at *
   go_wp2
   refine wp_region_still_lit (by kernel_rfl) (by kernel_rfl) ?_
   still_step
   still_step
   still_step
   refine wpStill_step (fun K hK => ?_)
   refine xe rfl (.tmp 19) rfl g (off + j * 32) rfl d HD.out HR.out (hK _ ?_)
   clear hK K
   still_step
   still_step
   still_step
   refine wpStill_step (fun K hK => ?_)
   refine xe rfl (.tmp 23) rfl g' (off' + j * 32) rfl d HD.out g7.out (hK _ ?_)
   clear hK K
   refine wpStill_step (fun K hK => ?_)
   refine zjr rfl (.tmp 20) (.tmp 24) rfl d d HD.out HD.out rfl rfl (hK _ ?_)
   clear hK K
   refine wpStill_nil ?_
   have HBD := zv2 HBX.out.drew
   change Exit.then _ _ _ _ wr.drew
   rw [decide_eq_true (rfl : d = d)]
   go_wp2
   go_roundw
   case rel => exact ⟨j + 1, by omega, by go_num, HBD.out⟩
   case measure => simp [intOf]; omega
  ·obtain rfl : j = l.length := by omega
   go_wp2
   go_ret
   exact ⟨zf rfl, HBX.out⟩
theorem zom (c : Int) (s : ByteArray) (sev : Int) (v v' : Value) (l : List (List Int)) (w : World) (hv : Digs w v l) (g0 : Digs w v' l) (hl : l.length ≤ 100000) :
  Calls Tryz.prog 37 #[.agg #[.int .i64 c, .string s, .int .i64 sev, v], .agg #[.int .i64 c, .string s, .int .i64 sev, v']] w fun e w' => e = .returned (.bool true) /\ Below w.heap.size w w' := by
 have HV := zv2 hv
 have g1 := zv2 g0
 obtain ⟨va, vc, rfl, _⟩ := hv
 obtain ⟨va', vc', rfl, _⟩ := g0
 go_enter Tryz.func37, Tryz.ntmps37
 go_wp2_with fail
 have hb : Below w.heap.size w ((w.alloc (.cells #[.int .i64 c, .string s, .int .i64 sev, .slice va l.length vc] 63)).alloc (.cells #[.int .i64 c, .string s, .int .i64 sev, .slice va' l.length vc'] 63)) := ((zv5 _ w).alloc (zv4 _) _).alloc (by simp) _
 have HB := zv2 hb
 clear hb
 refine (zsl _ _ l _ (HV.out.below HB.out) (g1.out.below HB.out) hl).mono ?_
 rintro e w' ⟨rfl, hb⟩
 have HB2 := zv3 HB hb
 clear hb
 go_wp2
 go_ret
 exact ⟨zf rfl, HB2.out⟩
open Go.RowKit
theorem zgt (s : ByteArray) (w : World) :
  Calls Tryz.prog 234 #[.string s] w fun e w' => e = .returned (.string ⟨(V.value s.data.toList).toArray⟩) /\ w = w' := by
 go_enter Tryz.func234, Tryz.ntmps234
 go_wp2_with fail
 refine (Tryz.strings_TrimLeft_one s 48 (by decide) _).mono ?_
 rintro e w' ⟨rfl, rfl⟩
 go_wp2
 go_ret
 exact ⟨rfl, rfl⟩
theorem zx4 {P : Prop} (h : P := by
 clear h0
 go_wp2
 go_round
 case rel => exact ⟨k + 1, by omega, by go_num, HR.out⟩
 case measure => simp [intOf]; omega) : P := h
theorem znm (b : Nat) (xs : List Int) (w : World) (hx : xs.length ≤ 100)
  (hc : ∀ j, j < xs.length -> w.cell? ⟨b, j, none⟩ = some (.int .i64 (xs.getD j 0))) :
  Calls Tryz.prog 152 #[.slice (some ⟨b, 0, none⟩) xs.length xs.length] w fun e w' => e = .returned (.int .i64 (V.orI xs)) /\ w = w' := by
 have HC := zv2 hc
 clear hc
 go_enter Tryz.func152, Tryz.ntmps152
 go_wp2
 go_loop [8] (fun i => ∃ k : Nat, k ≤ xs.length /\ i = .int .i64 k /\ ∀ j, j < k -> xs.getD j 0 = 0) (fun i => xs.length - (intOf i).toNat)
 case atStart => exact ⟨0, Nat.zero_le _, rfl, fun j hj => by omega⟩
 case round =>
  obtain ⟨k, hk, rfl, hz⟩ := hrel
  have HZ := zv2 hz
  clear hz
  by_cases hlt : k < xs.length
  ·have hcell := HC.out k hlt
   by_cases h0 : xs.getD k 0 = 0
   ·have HR : Hid (∀ j, j < k + 1 -> xs.getD j 0 = 0) := fun j hj => by
     by_cases e : j = k
     ·subst e; exact h0
     ·exact HZ.out j (by omega)
    rw [h0] at hcell
    exact zx4
   ·have HR : Hid (V.orI xs = xs.getD k 0) := by
     refine zv2 ?_
     rw [V.zde xs k HZ.out]
     have e : xs.drop k = xs.getD k 0 :: xs.drop (k + 1) := by
      rw [List.drop_eq_getElem_cons hlt]; simp [List.getD, List.getElem?_eq_getElem hlt]
     rw [e]; unfold V.orI V.cor; rw [if_neg h0]
    have hb : (xs.getD k 0 != 0) = true := by simpa using h0
    generalize xs.getD k 0 = x at *
    clear h0
    go_wp2
    go_ret
    exact ⟨zv HR.out.symm, rfl⟩
  ·have HR : Hid (V.orI xs = 0) := by
       refine zv2 ?_
       rw [V.zde xs k HZ.out, List.drop_of_length_le (by omega)]; rfl
   go_wp2
   go_ret
   exact ⟨zv HR.out.symm, rfl⟩
end Go.Proofs.YtbikeahmldobkaaGreatDoor
