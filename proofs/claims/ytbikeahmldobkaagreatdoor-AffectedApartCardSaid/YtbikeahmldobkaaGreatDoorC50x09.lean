/-
  Lemmas for the law.
-/
import Derived.Test.YtbikeahmldobkaaGreatDoorC50x08
import Derived.Test.YtbikeahmldobkaaGreatDoorC50x02
import Derived.Test.YtbikeahmldobkaaGreatDoorC50x07
import Derived.Laws.AppendOwn
import Derived.OwnWalk
import Derived.Still
set_option linter.all false
set_option maxRecDepth 100000
set_option maxHeartbeats 3200000
namespace Go.Proofs.YtbikeahmldobkaaGreatDoor
open Go.RowKit
def vy : List V.Bs := [[122, 108, 105, 98], [115, 115, 108], [108, 105, 98, 115, 47, 112, 110, 103], [97]]
theorem zgq : ∀ x ∈ vy, V.jx x = true := by decide +kernel
structure Made (par : Int) (c : V.Comp) : Prop where
 wf : CompWf c
 ok : V.zbq c = true
 par : c.par = par
 nm : c.name ∈ vy
def CompPost (b k : Nat) (par : Int) (w : World) (e : Ending) (w' : World) : Prop :=
 ∃ c : V.Comp, Made par c /\ e = .returned (.agg (ccells c)) /\ Tape w' b (k + 5) /\ w.grownBy w' (some b)
theorem zoz (c : V.Comp) (v : V.Bs) : (ccells c).setIfInBounds 3 (.string ⟨v.toArray⟩) = ccells { c with ver := v } := by
 unfold ccells qu
 simp
theorem zx8 {P : Prop} (h : P := by
 have h4 : j = 0 ∨ j = 1 ∨ j = 2 ∨ j = 3 := by omega
 rcases h4 with rfl | rfl | rfl | rfl <;> rfl) : P := h
theorem comp_any (b k : Nat) (par : Int) (w : World) (h : Tape w b k) (hk : k ≤ 100000) (hp : (Lit.int .i64 par).wf = true) :
  Calls Tryz.prog 63 #[.pointer (some ⟨b, 0, none⟩), .int .i64 par] w (CompPost b k par w) := by
 have HT := zwg h
 have HP := zwg hp
 have hbw := h.lt
 clear h hp
 go_enter Tryz.func63, Tryz.ntmps63
 go_wp2_with fail
 rw [zr0]
 obtain ⟨W0, hW0⟩ : ∃ W0, W0 = w.alloc (.cells (ccells zf8) 60) := ⟨_, rfl⟩
 have j0 : W0.heap[w.heap.size]? = some (.cells (ccells zf8) 60 (0, 0)) := by rw [hW0]; exact heap_alloc_new w _
 have q3 : W0.heap.size = w.heap.size + 1 := by rw [hW0]; simp
 have h4 : Below w.heap.size w W0 := by rw [hW0]; exact (zwj _ w).alloc (zwi _) _
 rw [← hW0]
 clear hW0
 refine (jf b k 3 _ (HT.out.below h4) (by omega) (by omega) (by omega)).mono ?_
 rintro e w1 ⟨r, hr, rfl, ht1, hg1⟩
 have HG1 := zwg (World.grownBy.trans (zn h4 (some b)) hg1)
 have HT1 := zwg ht1
 have j1 : w.heap.size < w1.heap.size := Nat.lt_of_lt_of_le (by omega) hg1.size
 have j2 : Hid (w1.heap[w.heap.size]? = some (.cells (ccells zf8) 60 (0, 0))) := zwg ((hg1.block _ (by omega) (by simp; omega)).trans j0)
 clear j0 q3 h4 ht1 hg1
 go_wp2_with fail
 refine (ut b (k + 1) _ ⟨w1.heap.size, 0, none⟩ 4 vy (HT1.out.below ((zwj _ w1).alloc (zwi _) _)) (by omega) (by decide) (by decide) (by simp; omega) rfl (fun j hj => by
     rw [World.cell?_alloc_new, Nat.zero_add]
     have : ∀ j : Fin 4, (#[Value.string ⟨#[122, 108, 105, 98]⟩, Value.string ⟨#[115, 115, 108]⟩, Value.string ⟨#[108, 105, 98, 115, 47, 112, 110, 103]⟩, Value.string ⟨#[97]⟩])[j.val]? = some (Value.string ⟨(vy.getD j.val []).toArray⟩) := by
       intro j; rcases j with ⟨j, hj⟩
       exact zx8
     exact this ⟨j, hj⟩)).mono ?_
 rintro e w2 ⟨x, hx, rfl, j3, j4⟩
 have hb1 : Below w1.heap.size w1 (w1.alloc (.cells #[Value.string ⟨#[122, 108, 105, 98]⟩, Value.string ⟨#[115, 115, 108]⟩, Value.string ⟨#[108, 105, 98, 115, 47, 112, 110, 103]⟩, Value.string ⟨#[97]⟩] 9)) := (zwj _ w1).alloc (zwi _) _
 have g1 := World.grownBy.trans (zn hb1 (some b)) j4
 have j5 := zwg (World.grownBy.trans HG1.out g1)
 have j6 := zwg j3
 have q4 : w.heap.size < w2.heap.size := Nat.lt_of_lt_of_le j1 g1.size
 have j7 : Hid (w2.heap[w.heap.size]? = some (.cells (ccells zf8) 60 (0, 0))) := zwg ((g1.block _ j1 (by simp; omega)).trans j2.out)
 have HX := zwg (zgq x hx)
 have q5 := zwg hx
 have y0 : x.length ≤ 200 := by
  have := zgq x hx
  unfold V.jx at this
  simp only [Bool.and_eq_true, decide_eq_true_eq] at this
  exact this.1.1.2
 have hr3 : (1 : Int) + (r : Int) = 1 ∨ (1 : Int) + (r : Int) = 2 ∨ (1 : Int) + (r : Int) = 3 := by omega
 obtain ⟨n, hn⟩ : ∃ n, n = (1 : Int) + (r : Int) := ⟨_, rfl⟩
 rw [← hn] at hr3
 have g9 : Hid (CompWf ⟨par, n, x, [], zu⟩) := zwg ⟨HP.out, by show (Lit.int .i64 n).wf = true; rcases hr3 with rfl | rfl | rfl <;> decide, by unfold maxLen; show x.length ≤ _; omega, (Nat.zero_le _ : ([] : V.Bs).length ≤ maxLen), (by decide : zu.length = 32), (by decide : ∀ n ∈ zu, (Lit.int .u8 n).wf = true)⟩
 have q6 := zwg hr3
 clear j3 j4 hb1 g1 hx hr3 j2 HT1 HG1
 have k8 : (ccells ⟨par, 1 + (r : Int), x, [], zu⟩)[1]? = some (.int .i64 (1 + (r : Int))) := rfl
 have k9 : Hid (CompWf ⟨par, 1 + (r : Int), x, [], zu⟩) := zwg (by rw [← hn]; exact g9.out)
 have HSN : Hid (V.scheme n = true) := zwg (by unfold V.scheme; rcases q6.out with rfl | rfl | rfl <;> rfl)
 go_wp2_with (first | (refine zfw rfl _ _ rfl _ _ rfl ⟨par, 1 + (r : Int), x, [], zu⟩ k9.out rfl rfl ?_) | fail)
 rw [← hn]
 obtain ⟨W3, g4⟩ : ∃ W3, W3 = w2.alloc (.cells (ccells ⟨par, n, x, [], zu⟩) 60) := ⟨_, rfl⟩
 have hb3 : Below w2.heap.size w2 W3 := by rw [g4]; exact (zwj _ w2).alloc (zwi _) _
 have g7 : W3.heap[w2.heap.size]? = some (.cells (ccells ⟨par, n, x, [], zu⟩) 60 (0, 0)) := by rw [g4]; exact heap_alloc_new w2 _
 have j8 : W3.heap.size = w2.heap.size + 1 := by rw [g4]; simp
 rw [← g4]
 clear g4 k8
 refine (yb b (k + 1 + 1) n W3 (j6.out.below hb3) (by omega) HSN.out).mono ?_
 rintro e w4 ⟨v, hv, rfl, j9, hg4⟩
 have q0 : b < w2.heap.size := by omega
 obtain ⟨C, hC⟩ : ∃ C, C = w2.heap.size := ⟨_, rfl⟩
 rw [← hC] at g7 j8 q4 q0 ⊢
 have g2 := (hg4.block C (by omega) (by simp; omega)).trans g7
 have HR4 : Hid (w4.heap[w.heap.size]? = some (.cells (ccells zf8) 60 (0, 0))) := zwg ((hg4.block _ (by omega) (by simp; omega)).trans ((hb3.block _ (by omega)).trans j7.out))
 have k0 : w.heap.size ≤ C := by omega
 have hz4 : C < w4.heap.size := Nat.lt_of_lt_of_le (by omega) hg4.size
 have HG4 := zwg (World.grownBy.trans (World.grownBy.trans j5.out (zn hb3 (some b))) hg4)
 have q7 := zwg j9
 have HV := zwg hv
 have h5 : w4.cell? ⟨C, 3, none⟩ = some (.string ⟨#[]⟩) := by rw [cell_of_row w4 C 3 _ _ _ g2]; rfl
 have q1 : w4.frozen? ⟨C, 3, none⟩ = false := frozen_of_row w4 C 3 _ _ g2
 have g3 := heap_setCell_same w4 C 3 _ _ (.string ⟨v.toArray⟩) g2
 rw [zoz] at g3
 simp only at g3
 have q2 := zwg g3
 have q8 : Hid ((w4.setCell ⟨C, 3, none⟩ (.string ⟨v.toArray⟩)).heap[w.heap.size]? = some (.cells (ccells zf8) 60 (0, 0))) := zwg (by rw [heap_setCell_other w4 _ _ _ (by simp; omega)]; exact HR4.out)
 have q9 : Hid (Tape (w4.setCell ⟨C, 3, none⟩ (.string ⟨v.toArray⟩)) b (k + 1 + 1 + 1)) := zwg (q7.out.set (by omega) h5 (by intro _ _ g; cases g))
 have v0 : Hid (w.grownBy (w4.setCell ⟨C, 3, none⟩ (.string ⟨v.toArray⟩)) (some b)) := zwg (za2 HG4.out (jt w4 C 3 _) k0)
 clear hb3 g7 j8 hg4 g2 j9 hv g3 j5 j6 j7 hC
 have k1 : C < (w4.setCell ⟨C, 3, none⟩ (.string ⟨v.toArray⟩)).heap.size := by simpa [World.setCell] using hz4
 go_wp2_with fail
 clear h5 q1
 generalize w4.setCell ⟨C, 3, none⟩ (.string ⟨v.toArray⟩) = w5 at *
 have h6 : Hid (∀ d : List Int, d.length = 32 -> (∀ n ∈ d, (Lit.int .u8 n).wf = true) -> Made par ⟨par, n, x, v, d⟩) := zwg (fun d h1 h2 => ⟨⟨g9.out.par, g9.out.sch, g9.out.name, by have := V.yg HV.out; unfold maxLen; show v.length ≤ _; omega, h1, h2⟩, by rw [V.zsb]; exact ⟨HX.out, HV.out⟩, rfl, q5.out⟩)
 refine (jf b (k + 1 + 1 + 1) 3 _ q9.out (by omega) (by omega) (by omega)).mono ?_
 rintro e w6 ⟨r2, y1, rfl, k2, g5⟩
 have k3 := zwg k2
 have k4 := zwg (World.grownBy.trans v0.out g5)
 have h7 := zwg ((g5.block C k1 (by simp; omega)).trans q2.out)
 have h8 := zwg ((g5.block _ (by omega) (by simp; omega)).trans q8.out)
 have k5 : C < w6.heap.size := Nat.lt_of_lt_of_le k1 g5.size
 clear k2 g5
 by_cases h0 : r2 = 0
 ·subst h0
  go_wp2_with fail
  refine (ztj b (k + 1 + 1 + 1 + 1) w6 k3.out (by omega)).mono ?_
  rintro e w7 ⟨y, v1, v2, rfl, ht7, hg7⟩
  have h3 : (dig1 (y : Int)).length = 32 := rfl
  have k6 : ∀ n ∈ dig1 (y : Int), (Lit.int .u8 n).wf = true := by
   intro m hm
   have v3 : y = 1 ∨ y = 2 ∨ y = 3 ∨ y = 4 ∨ y = 5 ∨ y = 6 := by omega
   rcases List.mem_cons.1 hm with rfl | hm
   ·rcases v3 with rfl | rfl | rfl | rfl | rfl | rfl <;> decide
   ·rw [(List.mem_replicate.1 hm).2]; decide
  have g0 := zwg (h6.out (dig1 y) h3 k6)
  have k7 := zwg (h6.out zu (by decide) (by decide))
  have h9 := zwg ((hg7.block C k5 (by simp; omega)).trans h7.out)
  have v4 := zwg ((hg7.block _ (by omega) (by simp; omega)).trans h8.out)
  have v5 := zwg ht7
  have HG7 := zwg (World.grownBy.trans k4.out hg7)
  have hz7 : C < w7.heap.size := Nat.lt_of_lt_of_le k5 hg7.size
  have v6 := zwg (zlz k7.out.wf h9.out)
  obtain ⟨W8, g6⟩ : ∃ W8, W8 = w7.setCells C 4 (dcells (dig1 (y : Int))).toList := ⟨_, rfl⟩
  have HRD : Hid (W8.rangeAt C 0 (qu ⟨par, n, x, v, dig1 y⟩)) := zwg (by rw [g6]; exact zv4 k7.out.wf h9.out h3)
  have HR8 : Hid (W8.heap[w.heap.size]? = some (.cells (ccells zf8) 60 (0, 0))) := zwg (by rw [g6, World.heap_setCells_other w7 C 4 _ (by omega) (by omega)]; exact v4.out)
  have g8 : w7.grownBy W8 (some C) := by rw [g6]; exact zks w7 C 4 _
  have HT8 := zwg (v5.out.grown g8 (by simp; omega) (by intro b' e; cases e; omega))
  have v7 := zwg (za2 HG7.out g8 k0)
  have v8 := zwg g6
  have v9 := zwg h3
  clear ht7 hg7 h3 k6 v1 v2 g6 g8
  go_wp2_with (first | (refine zc7 rfl _ rfl C 0 rfl ⟨par, n, x, v, dig1 y⟩ g0.out.wf HRD.out ?_) | (refine zh0 rfl _ _ rfl w.heap.size _ _ HR8.out rfl ⟨par, n, x, v, dig1 y⟩ g0.out.wf rfl zqx.size ?_) | (refine znu rfl _ _ rfl C 4 (dig1 (y : Int)) v9.out rfl rfl v6.out W8 v8.out ?_) | fail)
  refine bodyPost_ret (v := .agg (ccells ⟨par, n, x, v, dig1 y⟩)) ?_ rfl ⟨_, g0.out, rfl, ?_, ?_⟩
  ·exact qr Tryz.results63 rfl (zh5 g0.out.wf (setRow_heap _ w.heap.size _ _ _ _ HR8.out))
  ·exact (HT8.out.grown (qc _ w.heap.size _) (by simp; omega) (by intro b' e; cases e; omega)).le (by omega)
  ·exact za2 v7.out (qc _ _ _) (zwi _)
 ·have y2 : ((r2 : Int) == 0) = false := by rw [zwk]; omega
  have g0 := zwg (h6.out (zu) (by decide) (by decide))
  go_wp2_with (first | (refine zc7 rfl _ rfl C 0 rfl ⟨par, n, x, v, zu⟩ g0.out.wf (zu0 h7.out) ?_) | (refine zh0 rfl _ _ rfl w.heap.size _ _ h8.out rfl ⟨par, n, x, v, zu⟩ g0.out.wf rfl zqx.size ?_) | fail)
  refine bodyPost_ret (v := .agg (ccells ⟨par, n, x, v, zu⟩)) ?_ rfl ⟨_, g0.out, rfl, ?_, ?_⟩
  ·exact qr Tryz.results63 rfl (zh5 g0.out.wf (setRow_heap w6 w.heap.size _ _ _ _ h8.out))
  ·exact (k3.out.grown (qc w6 w.heap.size _) (by simp; omega) (by intro b' e; cases e; omega)).le (by omega)
  ·exact za2 k4.out (qc _ _ _) (zwi _)
theorem zdb {c : V.Comp} (h : CompWf c) : (qu c).length = 36 := by have := h.size; unfold ccells at this; simpa using this
theorem ztr : ∀ {l : List V.Comp}, (∀ c ∈ l, CompWf c) -> ∀ j (h : j < l.length) i, i < 36 -> (l.flatMap qu)[j * 36 + i]? = (qu l[j])[i]?
 | [], _, j, h, _, _ => by simp at h
 | c :: l, hw, 0, _, i, hi => by
  rw [List.flatMap_cons, List.getElem?_append_left (by rw [zdb (hw c (by simp))]; omega)]
  simp
 | c :: l, hw, j + 1, h, i, hi => by
  have hl := zdb (hw c (by simp))
  rw [List.flatMap_cons, List.getElem?_append_right (by rw [hl]; omega), hl, show (j + 1) * 36 + i - 36 = j * 36 + i by omega]
  rw [ztr (fun d hd => hw d (by simp [hd])) j (by simpa using h) i hi]
  simp
def CRow (w : World) (N : Nat) (v : Value) (l : List V.Comp) : Prop := w.ownsRow N 60 36 v l.length (l.flatMap qu) /\ ∀ c ∈ l, CompWf c
theorem CRow.nil (w : World) (N : Nat) : CRow w N (.slice none 0 0) [] := ⟨⟨rfl, .inl ⟨rfl, rfl⟩⟩, fun c hc => by simp at hc⟩
theorem CRow.comps {w : World} {N : Nat} {v : Value} {l : List V.Comp} (h : CRow w N v l) : Comps w v l := by
 obtain ⟨⟨hx, h⟩, hw⟩ := h
 rcases h with ⟨rfl, hn⟩ | ⟨g, cap, cur, rfl, hb, hg, g1, hm, g2, g0⟩
 ·have := List.eq_nil_of_length_eq_zero hn
  subst this
  exact Comps.nil w
 ·refine ⟨_, cap, rfl, fun j hj => ⟨hw _ (List.getElem_mem hj), g, 0, rfl, (Array.getElem?_eq_some_iff.1 hg).1, fun i u hu => ?_⟩⟩
  have hi : i < 36 := by
   have := (List.getElem?_eq_some_iff.1 hu).1
   rw [zdb (hw _ (List.getElem_mem hj))] at this
   exact this
  rw [cell_of_row w g _ cur _ (0, 0) hg, show 0 + j * 36 + i = j * 36 + i by omega]
  have h1 := ztr hw j hj i hi
  rw [hu, ← g0, List.getElem?_take] at h1
  split at h1
  ·simpa using h1
  ·cases h1
theorem zzc {P : Prop} (h : P := by
 refine .inr ⟨g, cap, cur, rfl, hb, ?_, rest⟩
 rw [hg.block g (Array.getElem?_eq_some_iff.1 hgg).1 (fun e => by have := hr g e.symm; omega)]
 exact hgg) : P := h
theorem CRow.kept {w w' : World} {N : Nat} {v : Value} {l : List V.Comp} (h : CRow w N v l) {row : Option Nat} (hg : w.grownBy w' row) (hr : ∀ b, row = some b -> b < N) : CRow w' N v l := by
 obtain ⟨⟨hx, h⟩, hw⟩ := h
 refine ⟨⟨hx, ?_⟩, hw⟩
 rcases h with h | ⟨g, cap, cur, rfl, hb, hgg, rest⟩
 ·exact .inl h
 ·exact zzc
theorem CRow.block {w : World} {N : Nat} {v : Value} {l : List V.Comp} (h : CRow w N v l) : ∀ b, v.ownBlock = some b -> N ≤ b := by
 obtain ⟨⟨_, h⟩, _⟩ := h
 intro b hb
 rcases h with ⟨rfl, _⟩ | ⟨g, cap, cur, rfl, hbb, _⟩
 ·cases hb
 ·simp [Value.ownBlock] at hb; omega
theorem zwv {P : Prop} (h : P := by
 rw [hq] at h
 simp only [Bool.and_eq_true, beq_iff_eq] at h
 obtain ⟨h1, h2, h3⟩ := h
 cases hz : i.zero with
 | none => rw [hz] at h3; cases h3
 | some z =>
  rw [hz] at h3
  exact ⟨i, z, rfl, hz, h1, h2, by simpa using h3⟩) : P := h
theorem compIE3 : ∃ ie z, Tryz.prog.info? 60 = some ie /\ ie.zero = some z /\ ie.size = 36 /\ ie.bytes = 80 /\ z.cells.size = 36 := by
 have h : (match Tryz.prog.info? 60 with | some i => i.size == 36 && (i.bytes == 80 && (match i.zero with | some z => z.cells.size == 36 | none => false)) | none => false) = true := by kernel_rfl
 cases hq : Tryz.prog.info? 60 with
 | none => rw [hq] at h; cases h
 | some i =>
  exact zwv
theorem zr8 {ops : Array Oper} {rest : List Oper} {o : Oper} {a : Act} {w : World} {Q : Exit -> Act -> World -> Prop} (g1 : o.guard = none) (s x : Operand)
  (ho : o.op = .call { callee := .builtin .append, args := #[s, x], argTypes := #[27, 27] })
  (N : Nat) (v : Value) (l : List V.Comp) (hs : a.eval s = v) (g0 : CRow w N v l) (b : Nat) (c : V.Comp) (hc : CompWf c) (hx : a.eval x = .slice (some ⟨b, 0, none⟩) 1 1) (hr : w.rangeAt b 0 (qu c)) (hl : l.length ≤ 1000000) (hN : N ≤ w.heap.size)
  (h : ∀ v' w', CRow w' N v' (l ++ [c]) -> w.grownBy w' v.ownBlock -> wpList Tryz.prog ops Q rest (a.put o.dst v') w') : wpList Tryz.prog ops Q (o :: rest) a w := by
 obtain ⟨ie, z, hi, hz, h1, h2, h3⟩ := compIE3
 refine wpList_append_own w g1 s x 27 ho N 60 ie z 36 80 Tryz.underlying27 hi hz h1 h2 h3 (by decide) v l.length (l.flatMap qu) hs g0.1 ⟨b, 0, none⟩ 1 1 (qu c) hx (zdb hc) ?_ ?_ (by unfold maxLen; omega) (by omega) hN ?_
 ·intro j u hj
  rw [Addr.add_mid]
  exact hr j u hj
 ·intro u hu
  have := Array.all_eq_true_iff_forall_mem.1 (zju (c := c)) u (by unfold ccells; simpa using hu)
  exact this
 ·intro v' w' g2 hg _
  refine h v' w' ⟨?_, fun d hd => ?_⟩ hg
  ·rw [List.length_append, List.flatMap_append]
   simpa using g2
  ·rcases List.mem_append.1 hd with hd | hd
   ·exact g0.2 d hd
   ·rw [List.mem_singleton.1 hd]; exact hc
theorem zmk {ops : Array Oper} {rest : List Oper} {o : Oper} {a : Act} {w : World} {Q : Exit -> Act -> World -> Prop} (g1 : o.guard = none) (x : Operand) (ho : o.op = .buildSlice 27 1 #[(0, x)])
  (c : V.Comp) (hc : CompWf c) (hx : a.eval x = .agg (ccells c))
  (h : wpList Tryz.prog ops Q rest (a.put o.dst (.slice (some ⟨w.heap.size, 0, none⟩) 1 1)) (w.alloc (.cells (ccells c) 60))) : wpList Tryz.prog ops Q (o :: rest) a w := by
 obtain ⟨ie, z, g2, g0, hz⟩ := compIE
 refine wpList_buildSlice g1 _ 60 1 _ ho (ccells c) ie z Tryz.underlying27 g2 hz (by rw [g0]; decide) (by rw [g0]; decide) ?_ h
 have := Great.fill_whole (s := 36) (by decide) [Value.agg (ccells c)] ((Array.range (1 * ie.size)).map (z.cells[· % z.cells.size]!)) (fun v hv => by
   rcases List.mem_cons.1 hv with rfl | hv
   · exact hc.size
   · cases hv) (by rw [g0]; simp)
 rw [g0] at this ⊢
 simp only [hx, List.map_toArray, List.map_cons, List.map_nil]
 exact this.trans (by simp [Value.cells])
theorem zjc {ops : Array Oper} {o : Oper} {a : Act} {w : World} {K : Act -> Prop} {E : Prop} (hw : Region.wanted o (yielded ops a.tmps) = true) (x : Operand) (ho : o.op = .load 60 x)
  (b off : Nat) (hx : a.eval x = .pointer (some ⟨b, off, none⟩)) (c : V.Comp) (hc : CompWf c) (hr : w.rangeAt b off (qu c)) (h : K (a.put o.dst (.agg (ccells c)))) :
  if Region.wanted o (yielded ops a.tmps) = true then o.still Tryz.prog a w K else E := by
 rw [if_pos hw]
 unfold Oper.still execOp
 simp only [ho, hx, Sem.run_bind, zu1 hc hr, Result.andThen_ok, Sem.run_pure, Oper.stillUpon_value]
 exact h
theorem zv6 {ops : Array Oper} {o : Oper} {a : Act} {w : World} {K : Act -> Prop} {E : Prop} (hw : Region.wanted o (yielded ops a.tmps) = true) (x y : Operand) (ho : o.op = .binOp .eql 60 x y 60)
  (c d : V.Comp) (hc : CompWf c) (hd : CompWf d) (hx : a.eval x = .agg (ccells c)) (hy : a.eval y = .agg (ccells d)) (h : K (a.put o.dst (.bool (decide (c = d))))) :
  if Region.wanted o (yielded ops a.tmps) = true then o.still Tryz.prog a w K else E := by
 rw [if_pos hw]
 unfold Oper.still execOp
 simp only [ho, hx, hy, Sem.run_bind, run_eqGuard_agg w .eql 60 x y _ _ zr3, Result.andThen_ok, run_eql_struct, eq_comp hc hd, Sem.run_pure, Oper.stillUpon_value]
 exact h
theorem zee (l : List V.Comp) (c : V.Comp) : ∀ k, k ≤ l.length -> V.qg (l ++ [c]) k = V.qg l k
 | 0, _ => rfl
 | k + 1, h => by
  have h1 : k < l.length := by omega
  rw [V.yl h1, V.yl (l := l ++ [c]) (by simp; omega), zee l c k (by omega)]
  rw [List.getElem_append_left h1]
  unfold V.zdj
  rw [List.take_append_of_le_length (by omega)]
theorem zoy {l : List V.Comp} {c : V.Comp} (h : V.qg l l.length = true) (h1 : V.zbq c = true) (h2 : -1 ≤ c.par) (h3 : c.par < l.length) (h4 : c ∉ l) : V.qg (l ++ [c]) (l ++ [c]).length = true := by
 rw [List.length_append, List.length_singleton, V.yl (by simp), zee l c _ (zwi _), h]
 rw [List.getElem_append_right (zwi _)]
 simp only [Nat.sub_self, List.getElem_cons_zero, Bool.true_and]
 rw [V.zke]
 refine ⟨h1, h2, h3, ?_⟩
 rw [List.take_append_of_le_length (zwi _), List.take_length]
 exact h4
open Go.RowKit
def qj (d : List Int) : Prop := d.length = 32 /\ ∀ n ∈ d, (Lit.int .u8 n).wf = true
def Digs (w : World) (v : Value) (l : List (List Int)) : Prop :=
 ∃ a cap, v = .slice a l.length cap /\ ∀ j (h : j < l.length), qj l[j] /\ ∃ b off, a = some ⟨b, off, none⟩ /\ (∃ cs fr, w.heap[b]? = some (.cells cs 26 fr)) /\ w.rangeAt b (off + j * 32) (zq l[j])
theorem Digs.nil (w : World) : Digs w (.slice none 0 0) [] := ⟨none, 0, rfl, fun j h => by simp at h⟩
theorem Digs.below {w w' : World} {v : Value} {l : List (List Int)} (h : Digs w v l) (hb : Below w.heap.size w w') : Digs w' v l := by
 obtain ⟨a, cap, e, hc⟩ := h
 refine ⟨a, cap, e, fun j hj => ?_⟩
 obtain ⟨hw, b, off, ea, hlt, hr⟩ := hc j hj
 obtain ⟨cs, fr, hg⟩ := hlt
 exact ⟨hw, b, off, ea, ⟨cs, fr, (hb.block b (Array.getElem?_eq_some_iff.1 hg).1).trans hg⟩, zk hr hb⟩
theorem Digs.grow {w w' : World} {v : Value} {l : List (List Int)} (h : Digs w v l) {row : Option Nat} (hg : w.grownBy w' row) (hr : ∀ b, row = some b -> ∃ cs t fr, w.heap[b]? = some (.cells cs t fr) /\ t ≠ 26) : Digs w' v l := by
 obtain ⟨a, cap, e, hc⟩ := h
 refine ⟨a, cap, e, fun j hj => ?_⟩
 obtain ⟨hw, b, off, ea, ⟨cs, fr, hb⟩, g0⟩ := hc j hj
 have hk : w'.heap[b]? = w.heap[b]? := hg.block b (Array.getElem?_eq_some_iff.1 hb).1 (fun e => by
   obtain ⟨cs', t, fr', h1, h2⟩ := hr b e.symm
   rw [hb] at h1
   cases h1
   exact h2 rfl)
 refine ⟨hw, b, off, ea, ⟨cs, fr, hk.trans hb⟩, fun i u hu => ?_⟩
 rw [World.cell?_of_block (a := ⟨b, off + j * 32 + i, none⟩) hk]
 exact g0 i u hu
theorem zdg {d : List Int} (h : qj d) : (zq d).length = 32 := by unfold zq; simp [h.1]
theorem zqe : ∀ {l : List (List Int)}, (∀ d ∈ l, qj d) -> ∀ j (h : j < l.length) i, i < 32 -> (l.flatMap zq)[j * 32 + i]? = (zq l[j])[i]?
 | [], _, j, h, _, _ => by simp at h
 | d :: l, hw, 0, _, i, hi => by
  rw [List.flatMap_cons, List.getElem?_append_left (by rw [zdg (hw d (by simp))]; omega)]
  simp
 | d :: l, hw, j + 1, h, i, hi => by
  have hl := zdg (hw d (by simp))
  rw [List.flatMap_cons, List.getElem?_append_right (by rw [hl]; omega), hl, show (j + 1) * 32 + i - 32 = j * 32 + i by omega]
  rw [zqe (fun c hc => hw c (by simp [hc])) j (by simpa using h) i hi]
  simp
theorem Digs.wf {w : World} {v : Value} {l : List (List Int)} (h : Digs w v l) : ∀ d ∈ l, qj d := by
 obtain ⟨a, cap, e, hc⟩ := h
 intro d hd
 obtain ⟨j, hj, rfl⟩ := List.getElem_of_mem hd
 exact (hc j hj).1
theorem digIE3 : ∃ ie z, Tryz.prog.info? 26 = some ie /\ ie.zero = some z /\ ie.size = 32 /\ ie.bytes = 32 /\ z.cells.size = 32 := by
 have h : (match Tryz.prog.info? 26 with | some i => i.size == 32 && (i.bytes == 32 && (match i.zero with | some z => z.cells.size == 32 | none => false)) | none => false) = true := by kernel_rfl
 cases hq : Tryz.prog.info? 26 with
 | none => rw [hq] at h; cases h
 | some i =>
  exact zwv
theorem row_digs {w : World} {N : Nat} {v : Value} {l : List (List Int)} (h : w.ownsRow N 26 32 v l.length (l.flatMap zq)) (hw : ∀ d ∈ l, qj d) : Digs w v l := by
 rcases h.2 with ⟨rfl, h0⟩ | ⟨g, cap, cur, rfl, _, hg, g0⟩
 ·exact ⟨none, 0, by rw [h0], fun j hj => by omega⟩
 ·refine ⟨_, cap, rfl, fun j hj => ⟨hw _ (List.getElem_mem hj), g, 0, rfl, ⟨_, _, hg⟩, fun i u hu => ?_⟩⟩
  have g1 := zdg (hw _ (List.getElem_mem hj))
  have hi : i < 32 := by have := (List.getElem?_eq_some_iff.1 hu).1; omega
  have := World.ownsRow.cellAt h (j * 32 + i) (by omega)
  rw [Nat.zero_add, this, zqe hw j hj i hi]
  exact hu
theorem xg {ops : Array Oper} {o : Oper} {a : Act} {w : World} {K : Act -> Prop} {E : Prop} (hw : Region.wanted o (yielded ops a.tmps) = true) (x : Operand) (ho : o.op = .load 26 x)
  (b off : Nat) (hx : a.eval x = .pointer (some ⟨b, off, none⟩)) (d : List Int) (hd : qj d) (hr : w.rangeAt b off (zq d)) (h : K (a.put o.dst (.agg (dcells d)))) :
  if Region.wanted o (yielded ops a.tmps) = true then o.still Tryz.prog a w K else E := by
 rw [if_pos hw]
 unfold Oper.still execOp
 have hl : (Instr.loadAt 26 (.pointer (some ⟨b, off, none⟩))).run Tryz.prog w = .ok (.agg (dcells d)) w := run_loadAt_mid w b off _ (zq d) _ hr Tryz.underlying26 rfl (by rw [vd, zdg hd])
 simp only [ho, hx, Sem.run_bind, hl, Result.andThen_ok, Sem.run_pure, Oper.stillUpon_value]
 exact h
theorem zkb {ops : Array Oper} {o : Oper} {a : Act} {w : World} {K : Act -> Prop} {E : Prop} (hw : Region.wanted o (yielded ops a.tmps) = true) (x y : Operand) (ho : o.op = .binOp .neq 26 x y 26)
  (c d : List Int) (hc : qj c) (hd : qj d) (hx : a.eval x = .agg (dcells c)) (hy : a.eval y = .agg (dcells d)) (h : K (a.put o.dst (.bool (!decide (c = d))))) :
  if Region.wanted o (yielded ops a.tmps) = true then o.still Tryz.prog a w K else E := by
 rw [if_pos hw]
 unfold Oper.still execOp
 simp only [ho, hx, hy, Sem.run_bind, run_eqGuard_agg w .neq 26 x y _ _ wg, Result.andThen_ok, run_neq_struct, zrv hc.1 hc.2 hd.1 hd.2, Sem.run_pure, Oper.stillUpon_value]
 exact h
theorem zsx (v v' : Value) (l : List (List Int)) (w : World) (hv : Digs w v l) (g5 : Digs w v' l) (hl : l.length ≤ 100000) :
  Calls Tryz.prog 65 #[v, v'] w fun e w' => e = .returned (.bool true) /\ Below w.heap.size w w' := by
 obtain ⟨va, vc, rfl, g1⟩ := hv
 obtain ⟨va', vc', rfl, g0⟩ := g5
 have HA := zwg g1
 have g6 := zwg g0
 clear g1 g0
 go_enter Tryz.func65, Tryz.ntmps65
 go_wp2
 go_loopw [5] (fun jv wx => ∃ j : Nat, j ≤ l.length /\ jv = .int .i64 j /\ Below w.heap.size w wx) (fun jv _ => l.length - (intOf jv).toNat)
 case atStart => exact ⟨0, Nat.zero_le _, rfl, zwj _ _⟩
 case round =>
  obtain ⟨j, hj, rfl, g2⟩ := hrel
  have HBX := zwg g2
  clear g2
  by_cases hlt : j < l.length
  ·obtain ⟨g3, g, off, rfl, g9, hc⟩ := HA.out j hlt
   obtain ⟨_, g', off', rfl, g8, g4⟩ := g6.out j hlt
   have HD := zwg g3
   have HR := zwg (zk (zk hc HBX.out) (zwj _ wr).drew)
   have g7 := zwg (zk (zk g4 HBX.out) (zwj _ wr).drew)
   have h0 : (0 : Int) ≤ (j : Int) := by omega
   have h1 : (j : Int) < (l.length : Int) := by omega
   clear hc g4 g3
   generalize l[j] = d at *
   go_wp2
   refine wp_region_still_lit (by kernel_rfl) (by kernel_rfl) ?_
   still_step
   still_step
   still_step
   refine wpStill_step (fun K hK => ?_)
   refine xg rfl (.tmp 19) rfl g (off + j * 32) rfl d HD.out HR.out (hK _ ?_)
   clear hK K
   still_step
   still_step
   still_step
   refine wpStill_step (fun K hK => ?_)
   refine xg rfl (.tmp 23) rfl g' (off' + j * 32) rfl d HD.out g7.out (hK _ ?_)
   clear hK K
   refine wpStill_step (fun K hK => ?_)
   refine zkb rfl (.tmp 20) (.tmp 24) rfl d d HD.out HD.out rfl rfl (hK _ ?_)
   clear hK K
   refine wpStill_nil ?_
   have HBD := zwg HBX.out.drew
   change Exit.then _ _ _ _ wr.drew
   rw [decide_eq_true (rfl : d = d)]
   go_wp2
   go_roundw
   case rel => exact ⟨j + 1, by omega, by go_num, HBD.out⟩
   case measure => simp [intOf]; omega
  ·obtain rfl : j = l.length := by omega
   go_wp2
   go_ret
   exact ⟨zg rfl, HBX.out⟩
theorem zox (c : Int) (s : ByteArray) (sev : Int) (v v' : Value) (l : List (List Int)) (w : World) (hv : Digs w v l) (g0 : Digs w v' l) (hl : l.length ≤ 100000) :
  Calls Tryz.prog 37 #[.agg #[.int .i64 c, .string s, .int .i64 sev, v], .agg #[.int .i64 c, .string s, .int .i64 sev, v']] w fun e w' => e = .returned (.bool true) /\ Below w.heap.size w w' := by
 have HV := zwg hv
 have g1 := zwg g0
 obtain ⟨va, vc, rfl, _⟩ := hv
 obtain ⟨va', vc', rfl, _⟩ := g0
 go_enter Tryz.func37, Tryz.ntmps37
 go_wp2_with fail
 have hb : Below w.heap.size w ((w.alloc (.cells #[.int .i64 c, .string s, .int .i64 sev, .slice va l.length vc] 63)).alloc (.cells #[.int .i64 c, .string s, .int .i64 sev, .slice va' l.length vc'] 63)) := ((zwj _ w).alloc (zwi _) _).alloc (by simp) _
 have HB := zwg hb
 clear hb
 refine (zsx _ _ l _ (HV.out.below HB.out) (g1.out.below HB.out) hl).mono ?_
 rintro e w' ⟨rfl, hb⟩
 have HB2 := zwh HB hb
 clear hb
 go_wp2
 go_ret
 exact ⟨zg rfl, HB2.out⟩
theorem zhj (s : ByteArray) (w : World) :
  Calls Tryz.prog 234 #[.string s] w fun e w' => e = .returned (.string ⟨(V.value s.data.toList).toArray⟩) /\ w = w' := by
 go_enter Tryz.func234, Tryz.ntmps234
 go_wp2_with fail
 refine (Tryz.strings_TrimLeft_one s 48 (by decide) _).mono ?_
 rintro e w' ⟨rfl, rfl⟩
 go_wp2
 go_ret
 exact ⟨rfl, rfl⟩
theorem zym {P : Prop} (h : P := by
 clear h0
 go_wp2
 go_round
 case rel => exact ⟨k + 1, by omega, by go_num, HR.out⟩
 case measure => simp [intOf]; omega) : P := h
theorem znw (b : Nat) (xs : List Int) (w : World) (hx : xs.length ≤ 100)
  (hc : ∀ j, j < xs.length -> w.cell? ⟨b, j, none⟩ = some (.int .i64 (xs.getD j 0))) :
  Calls Tryz.prog 152 #[.slice (some ⟨b, 0, none⟩) xs.length xs.length] w fun e w' => e = .returned (.int .i64 (V.orI xs)) /\ w = w' := by
 have HC := zwg hc
 clear hc
 go_enter Tryz.func152, Tryz.ntmps152
 go_wp2
 go_loop [8] (fun i => ∃ k : Nat, k ≤ xs.length /\ i = .int .i64 k /\ ∀ j, j < k -> xs.getD j 0 = 0) (fun i => xs.length - (intOf i).toNat)
 case atStart => exact ⟨0, Nat.zero_le _, rfl, fun j hj => by omega⟩
 case round =>
  obtain ⟨k, hk, rfl, hz⟩ := hrel
  have HZ := zwg hz
  clear hz
  by_cases hlt : k < xs.length
  ·have hcell := HC.out k hlt
   by_cases h0 : xs.getD k 0 = 0
   ·have HR : Hid (∀ j, j < k + 1 -> xs.getD j 0 = 0) := fun j hj => by
     by_cases e : j = k
     ·subst e; exact h0
     ·exact HZ.out j (by omega)
    rw [h0] at hcell
    exact zym
   ·have HR : Hid (V.orI xs = xs.getD k 0) := by
     refine zwg ?_
     rw [V.zdx xs k HZ.out]
     have e : xs.drop k = xs.getD k 0 :: xs.drop (k + 1) := by
      rw [List.drop_eq_getElem_cons hlt]; simp [List.getD, List.getElem?_eq_getElem hlt]
     rw [e]; unfold V.orI V.cor; rw [if_neg h0]
    have hb : (xs.getD k 0 != 0) = true := by simpa using h0
    generalize xs.getD k 0 = x at *
    clear h0
    go_wp2
    go_ret
    exact ⟨zv HR.out.symm, rfl⟩
  ·have HR : Hid (V.orI xs = 0) := by
       refine zwg ?_
       rw [V.zdx xs k HZ.out, List.drop_of_length_le (by omega)]; rfl
   go_wp2
   go_ret
   exact ⟨zv HR.out.symm, rfl⟩
open Go.RowKit
theorem z0f {P : Prop} (h : P := by
 intro j hj
 rw [World.cell?_alloc_new]
 have : j = 0 ∨ j = 1 := by simp at hj; omega
 rcases this with rfl | rfl <;> rfl) : P := h
theorem ws (s t : ByteArray) (w : World) :
  Calls Tryz.prog 229 #[.string s, .string t] w fun e w' => e = .returned (.int .i64 (V.numbers s.data.toList t.data.toList)) /\ Below w.heap.size w w' := by
 have HF : Hid (V.numbers s.data.toList t.data.toList = V.orI [Lib.compareInt (V.value s.data.toList).length (V.value t.data.toList).length, Lib.compareBytes (V.value s.data.toList) (V.value t.data.toList)]) := zwg (by
   unfold V.numbers V.orI V.orI V.orI V.cor; split <;> simp)
 go_enter Tryz.func229, Tryz.ntmps229
 go_wp2_with fail
 refine (zhj s _).mono ?_
 rintro e w' ⟨rfl, rfl⟩
 go_wp2_with fail
 refine (zhj t _).mono ?_
 rintro e w' ⟨rfl, rfl⟩
 generalize V.value s.data.toList = x at *
 generalize V.value t.data.toList = y at *
 go_wp2_with fail
 refine (Tryz.cmp_Compare_int _ _ _).mono ?_
 rintro e w' ⟨rfl, rfl⟩
 go_wp2_with fail
 refine (Tryz.strings_Compare _ _ _).mono ?_
 rintro e w' ⟨rfl, rfl⟩
 go_wp2_with fail
 generalize Lib.compareInt _ _ = p at *
 generalize Lib.compareBytes _ _ = q at *
 refine (znw _ [p, q] _ (by simp) ?_).mono ?_
 ·exact z0f
 rintro e w' ⟨rfl, rfl⟩
 go_wp2
 go_ret
 exact ⟨zv HF.out.symm, (zwj _ _).alloc (zwi _) _⟩
theorem zjj (s t : ByteArray) (w : World) (hs : s.size ≤ maxLen) (ht : t.size ≤ maxLen) :
  Calls Tryz.prog 231 #[.string s, .string t] w fun e w' => e = .returned (.int .i64 (V.kf s.data.toList t.data.toList)) /\ Below w.heap.size w w' := by
 have HF : Hid (V.kf s.data.toList t.data.toList = if V.digits s.data.toList && V.digits t.data.toList then V.numbers s.data.toList t.data.toList else if V.digits s.data.toList then -1 else if V.digits t.data.toList then 1 else Lib.compareBytes s.data.toList t.data.toList) := rfl
 rcases hx : V.digits s.data.toList with _ | _ <;> rcases hy : V.digits t.data.toList with _ | _
 all_goals
  have HX := zwg hx
  have HY := zwg hy
  clear hx hy
  rw [HX.out, HY.out] at HF
  go_enter Tryz.func231, Tryz.ntmps231
  go_wp2_with fail
  refine (yh s _ hs).mono ?_
  rintro e w' ⟨rfl, rfl⟩
  simp only [HX.out]
  go_wp2_with fail
  refine (yh t _ ht).mono ?_
  rintro e w' ⟨rfl, rfl⟩
  simp only [HY.out]
  go_wp2_with fail
 ·refine (Tryz.strings_Compare _ _ _).mono ?_
  rintro e w' ⟨rfl, rfl⟩
  go_wp2
  go_ret
  exact ⟨zv HF.out.symm, zwj _ _⟩
 ·go_ret
  exact ⟨zv HF.out.symm, zwj _ _⟩
 ·go_ret
  exact ⟨zv HF.out.symm, zwj _ _⟩
 ·refine (ws _ _ _).mono ?_
  rintro e w' ⟨rfl, hb⟩
  go_wp2
  go_ret
  exact ⟨zv HF.out.symm, hb⟩
theorem zao {f : V.Bs -> V.Bs -> Int} : ∀ (k : Nat) (l1 l2 : List V.Bs), k ≤ l1.length -> k ≤ l2.length -> (∀ j, j < k -> f (l1.getD j []) (l2.getD j []) = 0) -> V.je f l1 l2 = V.je f (l1.drop k) (l2.drop k)
 | 0, _, _, _, _, _ => rfl
 | k + 1, [], _, h, _, _ => by simp at h
 | k + 1, _ :: _, [], _, h, _ => by simp at h
 | k + 1, a :: l1, b :: l2, h1, h2, h => by
  have h0 : f a b = 0 := h 0 (by omega)
  rw [V.je, h0]
  exact zao k l1 l2 (by simpa using h1) (by simpa using h2) (fun j hj => h (j + 1) (by omega))
theorem zh6 {f : V.Bs -> V.Bs -> Int} (k : Nat) (l1 l2 : List V.Bs) (h1 : k < l1.length) (h2 : k < l2.length) (h : ∀ j, j < k -> f (l1.getD j []) (l2.getD j []) = 0) (h0 : f (l1.getD k []) (l2.getD k []) ≠ 0) :
  V.je f l1 l2 = f (l1.getD k []) (l2.getD k []) := by
 rw [zao k l1 l2 (by omega) (by omega) h, List.drop_eq_getElem_cons h1, List.drop_eq_getElem_cons h2]
 have e1 : l1.getD k [] = l1[k] := by simp [List.getD, List.getElem?_eq_getElem h1]
 have e2 : l2.getD k [] = l2[k] := by simp [List.getD, List.getElem?_eq_getElem h2]
 rw [e1, e2] at h0 ⊢
 rw [V.je, V.ke h0]
theorem zf2 {f : V.Bs -> V.Bs -> Int} (k : Nat) (l1 l2 : List V.Bs) (h1 : k < l1.length) (h2 : l2.length = k) (h : ∀ j, j < k -> f (l1.getD j []) (l2.getD j []) = 0) : V.je f l1 l2 = 1 := by
 rw [zao k l1 l2 (by omega) (by omega) h, List.drop_eq_getElem_cons h1, List.drop_of_length_le (l := l2) (by omega)]; rfl
theorem zfb {f : V.Bs -> V.Bs -> Int} (k : Nat) (l1 l2 : List V.Bs) (h1 : l1.length = k) (h2 : k ≤ l2.length) (h : ∀ j, j < k -> f (l1.getD j []) (l2.getD j []) = 0) : V.je f l1 l2 = if k < l2.length then -1 else 0 := by
 rw [zao k l1 l2 (by omega) (by omega) h, List.drop_of_length_le (by omega)]
 by_cases hlt : k < l2.length
 ·rw [List.drop_eq_getElem_cons hlt, if_pos hlt]; rfl
 ·rw [List.drop_of_length_le (by omega), if_neg hlt]; rfl
theorem zdp (v1 v2 : Value) (l1 l2 : List V.Bs) (K : Nat) (cap : Array Value) (f : V.Bs -> V.Bs -> Int) (w : World) (h1 : Strs w v1 l1) (h2 : Strs w v2 l2)
  (n1 : l1.length ≤ 2000) (_n2 : l2.length ≤ 2000) (m1 : ∀ x ∈ l1, x.length ≤ 1000) (m2 : ∀ x ∈ l2, x.length ≤ 1000)
  (eg : ∀ args w, (callFunc K args).run Tryz.prog w = .ok (.enter K args) w)
  (hK : ∀ (a b : V.Bs) W, a.length ≤ 1000 -> b.length ≤ 1000 -> Calls Tryz.prog K (#[.string ⟨a.toArray⟩, .string ⟨b.toArray⟩] ++ cap) W fun e w' => e = .returned (.int .i64 (f a b)) /\ Below W.heap.size W w') :
  Calls Tryz.prog 230 #[v1, v2, .func (.func K) #[] cap] w fun e w' => e = .returned (.int .i64 (V.je f l1 l2)) /\ Below w.heap.size w w' := by
 obtain ⟨a1, c1, rfl, hc1⟩ := h1
 obtain ⟨a2, c2, rfl, g2⟩ := h2
 have HK := zwg hK
 have g4 := zwg hc1
 have g5 := zwg g2
 have M1 := zwg m1
 have M2 := zwg m2
 clear hK hc1 g2 m1 m2
 go_enter Tryz.func230, Tryz.ntmps230
 go_wp2
 go_loopw [13] (fun i wr => ∃ k : Nat, k ≤ l1.length /\ k ≤ l2.length /\ i = .int .i64 k /\ (∀ j, j < k -> f (l1.getD j []) (l2.getD j []) = 0) /\ Below w.heap.size w wr) (fun i _ => l1.length - (intOf i).toNat)
 case atStart => exact ⟨0, Nat.zero_le _, Nat.zero_le _, rfl, fun j hj => by omega, zwj _ _⟩
 case round =>
  obtain ⟨k, h3, hk2, rfl, hz, hB⟩ := hrel
  have HZ := zwg hz
  have HB := zwg hB
  clear hz hB
  by_cases hlt1 : k < l1.length
  ·obtain ⟨b1, o1, g3, hb1, g0⟩ := g4.out k hlt1
   have g6 := (HB.out.cell (p := ⟨b1, o1 + k, none⟩) hb1).trans g0
   rw [← jw hlt1] at g6
   by_cases hlt2 : k < l2.length
   ·obtain ⟨b2, o2, g7, hb2, g1⟩ := g5.out k hlt2
    have g8 := (HB.out.cell (p := ⟨b2, o2 + k, none⟩) hb2).trans g1
    rw [← jw hlt2] at g8
    have s1 := M1.out _ (List.getElem_mem hlt1)
    have s2 := M2.out _ (List.getElem_mem hlt2)
    rw [← jw hlt1] at s1
    rw [← jw hlt2] at s2
    have g9 := zwg (zh6 k l1 l2 hlt1 hlt2 HZ.out)
    have NEXT : Hid (f (l1.getD k []) (l2.getD k []) = 0 -> ∀ j, j < k + 1 -> f (l1.getD j []) (l2.getD j []) = 0) := zwg (fun h0 j hj => by
      by_cases e : j = k
      · subst e; exact h0
      · exact HZ.out j (by omega))
    subst g3
    subst g7
    clear g0 g1
    generalize l1.getD k [] = x at *
    generalize l2.getD k [] = y at *
    go_wp2_with fail
    refine (HK.out x y _ s1 s2).mono ?_
    rintro e w1 ⟨rfl, hb⟩
    have HB1 := zwh HB hb
    clear hb
    by_cases h0 : f x y = 0
    ·have HN := zwg (NEXT.out h0)
     rw [h0]
     clear h0
     go_wp2
     go_roundw
     case rel => exact ⟨k + 1, by omega, by omega, by go_num, HN.out, HB1.out⟩
     case measure => simp [intOf]; omega
    ·have HN := zwg (g9.out h0)
     have hb : (f x y != 0) = true := by simpa using h0
     generalize f x y = c at *
     clear h0
     go_wp2
     go_ret
     exact ⟨zv HN.out.symm, HB1.out⟩
   ·have HN := zwg (zf2 k l1 l2 hlt1 (by omega) HZ.out)
    subst g3
    clear g0
    go_wp2
    go_ret
    exact ⟨zv HN.out.symm, HB.out⟩
  ·have HN := zwg (zfb k l1 l2 (by omega) hk2 HZ.out)
   by_cases hlt2 : k < l2.length
   ·rw [if_pos hlt2] at HN
    go_wp2
    go_ret
    exact ⟨zv HN.out.symm, HB.out⟩
   ·rw [if_neg hlt2] at HN
    go_wp2
    go_ret
    exact ⟨zv HN.out.symm, HB.out⟩
end Go.Proofs.YtbikeahmldobkaaGreatDoor
