/-
  Lemmas for the law.
-/
import Derived.Test.YtbikeahmldobkaaGreatDoorC51x08
import Derived.DeepKeys5
import Derived.Laws.StructEq
import Derived.Maps.Own
import Derived.Maps.OwnSet
import Derived.Laws.AppendOwn
import Derived.OwnWalk
import Derived.Still
set_option linter.all false
set_option maxRecDepth 100000
set_option maxHeartbeats 3200000
namespace Go.Proofs.YtbikeahmldobkaaGreatDoor
open Go.RowKit
theorem laidOutK : laidOutB Tryz.prog = true := by kernel_rfl
theorem zmx : ∃ m, Tryz.prog.types.size = m + 2 := ⟨Tryz.prog.types.size - 2, by
  have h : decide (2 ≤ Tryz.prog.types.size) = true := by kernel_rfl
  have := of_decide_eq_true h
  omega⟩
theorem zlg {α β : Type} {f : α -> Option β} {g : α -> β} : ∀ {l : List α}, (∀ x ∈ l, f x = some (g x)) -> l.mapM f = some (l.map g)
 | [], _ => rfl
 | a :: l, h => by
  rw [List.mapM_cons, h a (by simp), zlg (fun x hx => h x (by simp [hx]))]
  rfl
theorem cells_u8 : Tryz.prog.cellsOf 5 = 1 := by kernel_rfl
theorem zgn : Tryz.prog.cellsOf 26 = 32 := by kernel_rfl
theorem zh9 : Tryz.prog.cellsOf 60 = 36 := by kernel_rfl
theorem zuk : Tryz.prog.cellsOf 3 = 1 := by kernel_rfl
theorem zt0 : Tryz.prog.cellsOf 9 = 1 := by kernel_rfl
def za3 (l : List Int) : List Lit := l.map fun n => Lit.int .u8 n
theorem zqn (l : List Int) : ((List.range l.length).map fun i => [Lit.int .u8 (l.getD i 0)]).flatten = za3 l := by
 unfold za3
 apply List.ext_getElem?
 intro i
 have e : ∀ r : List Nat, (r.map fun i => [Lit.int .u8 (l.getD i 0)]).flatten = r.map fun i => Lit.int .u8 (l.getD i 0) := fun r => by
  induction r with
  | nil => rfl
  | cons a r ih => rw [List.map_cons, List.map_cons, List.flatten_cons, ih]; rfl
 rw [e, List.getElem?_map, List.getElem?_map]
 by_cases h : i < l.length
 ·rw [List.getElem?_range h, List.getElem?_eq_getElem h]
  simp [List.getD, List.getElem?_eq_getElem h]
 ·rw [List.getElem?_eq_none (by simpa using h), List.getElem?_eq_none (by omega)]
  rfl
theorem zf1 (d : Nat) {l : List Int} (hl : l.length = 32) (hw : ∀ n ∈ l, (Lit.int .u8 n).wf = true) : Tryz.prog.keyLits (d + 2) 26 (zn l) = some (za3 l) := by
 have g0 : (zn l).length = 32 := by unfold zn; simp [hl]
 unfold Program.keyLits
 simp only [Tryz.underlying26]
 rw [if_pos (by rw [g0, zgn])]
 rw [zlg (g := fun i => [Lit.int .u8 (l.getD i 0)]) (fun i hi => ?_)]
 ·rw [Option.map_some, ← zqn l, hl]
 ·have g1 : i < l.length := by rw [hl]; simpa using hi
  have e : ((zn l).drop (i * Tryz.prog.cellsOf 5)).take (Tryz.prog.cellsOf 5) = [Value.int .u8 (l.getD i 0)] := by
   rw [cells_u8, Nat.mul_one, List.drop_eq_getElem_cons (by rw [g0]; omega)]
   unfold zn
   simp [List.getD, List.getElem?_eq_getElem g1]
  rw [e]
  unfold Program.keyLits
  simp only [Tryz.underlying5]
  rw [if_pos ⟨by trivial, hw _ (by rw [List.getD_eq_getElem?_getD, List.getElem?_eq_getElem g1]; exact List.getElem_mem _)⟩]
def yh (c : V.Comp) : List Lit := .int .i64 c.par :: .int .i64 c.sch :: .string c.name :: .string c.ver :: za3 c.dig
theorem zbt (d : Nat) {c : V.Comp} (h : CompWf c) : Tryz.prog.keyLits (d + 3) 60 (qb c) = some (yh c) := by
 have g1 : (qb c).length = 36 := by have := h.size; unfold ccells at this; simpa using this
 have hd := zf1 d h.len h.dig
 have hn : (⟨c.name.toArray⟩ : ByteArray).size ≤ maxLen := by show c.name.toArray.size ≤ _; simpa using h.name
 have hv : (⟨c.ver.toArray⟩ : ByteArray).size ≤ maxLen := by show c.ver.toArray.size ≤ _; simpa using h.ver
 have k1 : ∀ n : Int, (Lit.int .i64 n).wf = true -> Tryz.prog.keyLits (d + 2) 3 [.int .i64 n] = some [.int .i64 n] := fun n hw => by
  unfold Program.keyLits
  simp only [Tryz.underlying3]
  rw [if_pos ⟨by trivial, hw⟩]
 have k2 : ∀ s : ByteArray, s.size ≤ maxLen -> Tryz.prog.keyLits (d + 2) 9 [.string s] = some [.string s.data.toList] := fun s hw => by
  unfold Program.keyLits
  simp only [Tryz.underlying9]
  rw [if_pos hw]
 have g0 : (zn c.dig).take 32 = zn c.dig := List.take_of_length_le (by unfold zn; simp [h.len])
 unfold Program.keyLits
 simp only [Tryz.underlying60]
 rw [if_pos ⟨by rw [g1, zh9], by decide +kernel⟩]
 have e4 : ((qb c).drop 4).take 32 = zn c.dig := g0
 simp only [List.mapM_cons, List.mapM_nil, zuk, zt0, zgn]
 rw [show ((qb c).drop 0).take 1 = [.int .i64 c.par] from rfl, show ((qb c).drop 1).take 1 = [.int .i64 c.sch] from rfl, show ((qb c).drop 2).take 1 = [.string ⟨c.name.toArray⟩] from rfl, show ((qb c).drop 3).take 1 = [.string ⟨c.ver.toArray⟩] from rfl, e4,
   k1 _ h.par, k1 _ h.sch, k2 _ hn, k2 _ hv, hd]
 simp [yh]
theorem zsw {l : List Int} (hl : l.length = 32) (hw : ∀ n ∈ l, (Lit.int .u8 n).wf = true) : keyOf Tryz.prog 26 (.agg (dcells l)) = some (.string (keyBytes (za3 l))) := by
 obtain ⟨m, hm⟩ := zmx
 unfold keyOf
 simp only [Tryz.underlying26]
 rw [if_pos (by rw [Bool.and_eq_true]; exact ⟨by kernel_rfl, by simp [Value.formed, Tryz.underlying26, ji hl, zgn]⟩), hm]
 show Option.map _ (Tryz.prog.keyLits (m + 1 + 2) 26 (dcells l).toList) = _
 rw [show (dcells l).toList = zn l from rfl, zf1 (m + 1) hl hw]
 rfl
theorem ze8 {c : V.Comp} (h : CompWf c) : keyOf Tryz.prog 60 (.agg (ccells c)) = some (.string (keyBytes (yh c))) := by
 obtain ⟨m, hm⟩ := zmx
 unfold keyOf
 simp only [Tryz.underlying60]
 rw [if_pos (by rw [Bool.and_eq_true]; exact ⟨by kernel_rfl, by simp [Value.formed, Tryz.underlying60, h.size, zh9]⟩), hm]
 show Option.map _ (Tryz.prog.keyLits (m + 3) 60 (ccells c).toList) = _
 rw [show (ccells c).toList = qb c from rfl, zbt m h]
 rfl
theorem zgw {a b : List Int} (h : za3 a = za3 b) : a = b := by
 unfold za3 at h
 exact List.map_inj_right (fun x y e => by injection e) |>.1 h
theorem ze7 {a b : V.Comp} (h : yh a = yh b) : a = b := by
 unfold yh at h
 simp only [List.cons.injEq, Lit.int.injEq, Lit.string.injEq, true_and] at h
 obtain ⟨h1, h2, h3, h4, h5⟩ := h
 have := zgw h5
 cases a; cases b
 simp_all
theorem zyr {P : Prop} (h : P := by
 by_cases h : a = b
 ·rw [this.2 h]; simp [h]
 ·rcases r with _ | _
  ·simp [h]
  ·exact absurd (this.1 rfl) h) : P := h
theorem eq_comp {a b : V.Comp} (ha : CompWf a) (hb : CompWf b) (w : World) : (Op.equalIn 10000 60 (.agg (ccells a)) (.agg (ccells b))).run Tryz.prog w = .ok (decide (a = b)) w := by
 obtain ⟨r, hr, g0⟩ := run_equal_deep (P := Tryz.prog) w (m := 20) (by decide) (k := 60) (by kernel_rfl) (by kernel_rfl) (ze8 ha) (ze8 hb)
 have : (r = true ↔ a = b) := by
  rw [g0]
  constructor
  ·intro e
   obtain ⟨m, hm⟩ := zmx
   exact ze7 (keyLits_inj (zbt 0 ha) (zbt 0 hb) (by simpa using e))
  ·intro e; rw [e]
 have e : r = decide (a = b) := by
  exact zyr
 rw [e] at hr
 exact hr
theorem zmr {a b : List Int} (ha : a.length = 32) (wa : ∀ n ∈ a, (Lit.int .u8 n).wf = true) (hb : b.length = 32) (wb : ∀ n ∈ b, (Lit.int .u8 n).wf = true) (w : World) :
  (Op.equalIn 10000 26 (.agg (dcells a)) (.agg (dcells b))).run Tryz.prog w = .ok (decide (a = b)) w := by
 obtain ⟨r, hr, g0⟩ := run_equal_deep (P := Tryz.prog) w (m := 20) (by decide) (k := 26) (by kernel_rfl) (by kernel_rfl) (zsw ha wa) (zsw hb wb)
 have : (r = true ↔ a = b) := by
  rw [g0]
  constructor
  ·intro e
   exact zgw (keyLits_inj (zf1 0 ha wa) (zf1 0 hb wb) (by simpa using e))
  ·intro e; rw [e]
 have e : r = decide (a = b) := by
  exact zyr
 rw [e] at hr
 exact hr
theorem zcu {P : Program} {ops : Array Oper} {rest : List Oper} {o : Oper} {a : Act} {w : World} {Q : Exit -> Act -> World -> Prop} (g0 : o.guard = none) (T T2 : TypeId) (x y : Operand) (ho : o.op = .binOp .eql T x y T2)
  (xs ys : Array Value) (hx : a.eval x = .agg xs) (hy : a.eval y = .agg ys) (hm : P.eqGuardType P.depth T = false) (r : Bool) (hr : (Op.equalIn 10000 T (.agg xs) (.agg ys)).run P w = .ok r w)
  (h : wpList P ops Q rest (a.put o.dst (.bool r)) w) : wpList P ops Q (o :: rest) a w := by
 refine wpList_plain g0 fun K hK => ?_
 unfold Oper.wp execOp
 simp only [ho, hx, hy, Sem.run_bind, run_eqGuard_agg w .eql T x y xs ys hm, Result.andThen_ok, run_eql_struct, hr, Sem.run_pure]
 exact hK _ _ h
theorem zq1 : Tryz.prog.eqGuardType Tryz.prog.depth 60 = false := by kernel_rfl
theorem kr : Tryz.prog.eqGuardType Tryz.prog.depth 26 = false := by kernel_rfl
def icells (d : List Int) (time : Int) (v : Value) : Array Value := (zn d ++ [.int .i64 time, v]).toArray
theorem zf0 (w : World) (t : TypeId) {d : List Int} (time : Int) (v : Value) (hd : d.length = 32) : (w.alloc (.cells (icells d time v) t)).rangeAt w.heap.size 0 (zn d) := fun j u hj => by
 rw [Nat.zero_add, World.cell?_alloc_new]
 unfold icells
 have : j < (zn d).length := (List.getElem?_eq_some_iff.1 hj).1
 rw [List.getElem?_toArray, List.getElem?_append_left this]
 exact hj
open Go.RowKit
def Comps (w : World) (v : Value) (l : List V.Comp) : Prop :=
 ∃ a cap, v = .slice a l.length cap /\ ∀ j (h : j < l.length), CompWf l[j] /\ ∃ b off, a = some ⟨b, off, none⟩ /\ b < w.heap.size /\ w.rangeAt b (off + j * 36) (qb l[j])
theorem Comps.nil (w : World) : Comps w (.slice none 0 0) [] := ⟨none, 0, rfl, fun j h => by simp at h⟩
theorem Comps.below {w w' : World} {v : Value} {l : List V.Comp} (h : Comps w v l) (hb : Below w.heap.size w w') : Comps w' v l := by
 obtain ⟨a, cap, e, hc⟩ := h
 refine ⟨a, cap, e, fun j hj => ?_⟩
 obtain ⟨hw, b, off, ea, hlt, hr⟩ := hc j hj
 exact ⟨hw, b, off, ea, Nat.lt_of_lt_of_le hlt hb.size, zi hr hb⟩
theorem Comps.at {w : World} {a : Option Addr} {n cap : Nat} {l : List V.Comp} (h : Comps w (.slice a n cap) l) (j : Nat) (hj : j < l.length) :
  CompWf l[j] /\ ∃ b off, a = some ⟨b, off, none⟩ /\ b < w.heap.size /\ w.rangeAt b (off + j * 36) (qb l[j]) := by
 obtain ⟨a', c, e, hc⟩ := h
 cases e
 exact hc j hj
theorem zlw {P : Program} {ops : Array Oper} {rest : List Oper} {o : Oper} {a : Act} {w : World} {Q : Exit -> Act -> World -> Prop} (hw : Region.wanted o (yielded ops a.tmps) = true)
  (h : ∀ K : Act -> World -> Prop, (∀ a w, wpList P ops Q rest a w -> K a w) -> o.wp P a w K Q) : wpList P ops Q (o :: rest) a w :=
 wpList_step fun K hK => by rw [if_pos hw]; exact h K hK
theorem zsn {ops : Array Oper} {rest : List Oper} {o : Oper} {a : Act} {w : World} {Q : Exit -> Act -> World -> Prop} (hw : Region.wanted o (yielded ops a.tmps) = true) (x : Operand) (ho : o.op = .load 60 x)
  (b off : Nat) (hx : a.eval x = .pointer (some ⟨b, off, none⟩)) (c : V.Comp) (hc : CompWf c) (hr : w.rangeAt b off (qb c))
  (h : wpList Tryz.prog ops Q rest (a.put o.dst (.agg (ccells c))) w) : wpList Tryz.prog ops Q (o :: rest) a w :=
 zlw hw fun K hK => by
  obtain ⟨d, hu, hd⟩ := zh5
  exact wp_load_mid _ x ho b off hx (qb c) d hr hu hd (by rw [zbl]; have := hc.size; unfold ccells at this; simp at this; rw [this]) (hK _ _ h)
def CMap (w : World) (b n : Nat) (l : List V.Comp) : Prop :=
 ∃ D : DataW Unit, w.ownsMap Tryz.prog 60 (Go.plainElem Tryz.prog 4) b n D /\ (∃ es, D = .map es) /\ ∀ c, CompWf c -> D.atKey (.string (keyBytes (yh c))) (.lit (.bool false)) = .lit (.bool (decide (c ∈ l)))
theorem zps : Go.Maps.Keyed Tryz.prog 60 := by
 refine Go.Maps.Keyed.of_law (deep_law_gate laidOutK ?_ ?_ ?_ ?_)
 ·exact of_decide_eq_true (by kernel_rfl)
 ·exact of_decide_eq_true (by kernel_rfl)
 ·kernel_rfl
 ·kernel_rfl
theorem zuc (w : World) : (zeroValue 4).run Tryz.prog w = .ok (.bool false) w := by kernel_rfl
theorem CMap.made (w : World) : CMap (w.alloc (.map #[] 0)) w.heap.size 0 [] :=
 ⟨.map [], World.ownsMap_made _ _ _ _, ⟨[], rfl⟩, fun c _ => by simp [DataW.atKey]⟩
theorem CMap.kept {w w' : World} {b n : Nat} {l : List V.Comp} (h : CMap w b n l) (hb : Below w.heap.size w w') : CMap w' b n l := by
 obtain ⟨D, h1, h2, h3⟩ := h
 exact ⟨D, h1.kept (row := none) ⟨hb.os, hb.tape, hb.output, hb.size, fun k hk _ => hb.block k hk⟩ (by simp), h2, h3⟩
theorem zms {a b : V.Comp} (ha : CompWf a) (hb : CompWf b) (h : Lit.string (keyBytes (yh a)) = .string (keyBytes (yh b))) : a = b :=
 ze7 (keyLits_inj (zbt 0 ha) (zbt 0 hb) (by simpa using h))
theorem zum {v : Value} {z : DataW Unit × List MemPlace} (h : Go.plainElem Tryz.prog 4 v = some z) : ∃ x, v = .bool x /\ z = (.lit (.bool x), []) := by
 unfold Go.plainElem at h
 rw [Tryz.underlying4] at h
 cases v <;> simp at h
 exact ⟨_, rfl, h.symm⟩
theorem CMap.look {w : World} {b n : Nat} {l : List V.Comp} (h : CMap w b n l) {c : V.Comp} (hc : CompWf c) : (Instr.lookup 105 (.map (some b)) (.agg (ccells c)) false).run Tryz.prog w = .ok (.bool (decide (c ∈ l))) w := by
 obtain ⟨D, h1, _, h3⟩ := h
 obtain ⟨v, ps, g0, hv⟩ := h1.lookup zps Tryz.underlying105 (zuc w) (Go.plainElem_bool Tryz.underlying4 false) (ze8 hc)
 obtain ⟨x, rfl, hz⟩ := zum hv
 rw [g0]
 have := (Prod.mk.inj hz).1
 rw [h3 c hc] at this
 injection this with this
 injection this with this
 rw [this]
theorem zky {ops : Array Oper} {rest : List Oper} {o : Oper} {a : Act} {w : World} {Q : Exit -> Act -> World -> Prop} (hw : Region.wanted o (yielded ops a.tmps) = true) (m x : Operand) (ho : o.op = .lookup 105 m x false)
  (b n : Nat) (l : List V.Comp) (hm : a.eval m = .map (some b)) (g0 : CMap w b n l) (c : V.Comp) (hc : CompWf c) (hx : a.eval x = .agg (ccells c))
  (h : wpList Tryz.prog ops Q rest (a.put o.dst (.bool (decide (c ∈ l)))) w) : wpList Tryz.prog ops Q (o :: rest) a w :=
 zlw hw fun K hK => by
  unfold Oper.wp
  simp [execOp, ho, hm, hx, g0.look hc, Result.andThen]
  exact hK _ _ h
theorem zt3 {ops : Array Oper} {rest : List Oper} {o : Oper} {a : Act} {w : World} {Q : Exit -> Act -> World -> Prop} (hg : o.guard = none) (m x v : Operand) (ho : o.op = .mapUpdate 105 m x v)
  (b n : Nat) (l : List V.Comp) (hm : a.eval m = .map (some b)) (g3 : CMap w b n l) (hn : n < maxLen) (c : V.Comp) (hc : CompWf c) (hx : a.eval x = .agg (ccells c)) (hv : a.eval v = .bool true)
  (h : ∀ w', CMap w' b (n + 1) (l ++ [c]) -> w.grownBy w' (some b) -> wpList Tryz.prog ops Q rest (a.put o.dst undef) w') : wpList Tryz.prog ops Q (o :: rest) a w := by
 obtain ⟨D, h1, ⟨es, he⟩, h3⟩ := g3
 refine wpList_mapUpdate_own w hg m x v 105 ho 60 4 zps Tryz.underlying105 (Go.plainElem Tryz.prog 4) b n D hm h1 hn _ _ _ hx hv (ze8 hc) (.lit (.bool true)) [] (Go.plainElem_bool Tryz.underlying4 true) ?_
 intro w' g1 g2
 refine h w' ⟨_, g1, Go.Maps.IsMap.put ⟨es, he⟩ _ _, fun c' g0 => ?_⟩ g2
 by_cases e : c' = c
 ·subst e
  rw [Go.Maps.atKey_put_same (k := Lit.string (keyBytes (yh c'))) ⟨es, he⟩ trivial]
  simp
 ·rw [Go.Maps.atKey_put_other (fun g => e (zms g0 hc g)), h3 c' g0]
  congr 2
  simp [e]
def xy : List V.Bs := [[122, 108, 105, 98], [115, 115, 108], [108, 105, 98, 115, 47, 112, 110, 103], [97]]
theorem zfx : ∀ x ∈ xy, V.jo x = true := by decide +kernel
structure Made (par : Int) (c : V.Comp) : Prop where
 wf : CompWf c
 ok : V.xq c = true
 par : c.par = par
 nm : c.name ∈ xy
def CompPost (b k : Nat) (par : Int) (w : World) (e : Ending) (w' : World) : Prop :=
 ∃ c : V.Comp, Made par c /\ e = .returned (.agg (ccells c)) /\ Tape w' b (k + 5) /\ w.grownBy w' (some b)
theorem zn7 (c : V.Comp) (v : V.Bs) : (ccells c).setIfInBounds 3 (.string ⟨v.toArray⟩) = ccells { c with ver := v } := by
 unfold ccells qb
 simp
theorem zy0 {P : Prop} (h : P := by
 have h4 : j = 0 ∨ j = 1 ∨ j = 2 ∨ j = 3 := by omega
 rcases h4 with rfl | rfl | rfl | rfl <;> rfl) : P := h
theorem comp_any (b k : Nat) (par : Int) (w : World) (h : Tape w b k) (hk : k ≤ 100000) (hp : (Lit.int .i64 par).wf = true) :
  Calls Tryz.prog 63 #[.pointer (some ⟨b, 0, none⟩), .int .i64 par] w (CompPost b k par w) := by
 have HT := zu8 h
 have HP := zu8 hp
 have hbw := h.lt
 clear h hp
 go_enter Tryz.func63, Tryz.ntmps63
 go_wp2_with fail
 rw [zqy]
 obtain ⟨W0, hW0⟩ : ∃ W0, W0 = w.alloc (.cells (ccells zfi) 60) := ⟨_, rfl⟩
 have j0 : W0.heap[w.heap.size]? = some (.cells (ccells zfi) 60 (0, 0)) := by rw [hW0]; exact heap_alloc_new w _
 have q4 : W0.heap.size = w.heap.size + 1 := by rw [hW0]; simp
 have h4 : Below w.heap.size w W0 := by rw [hW0]; exact (zvb _ w).alloc (zva _) _
 rw [← hW0]
 clear hW0
 refine (jq b k 3 _ (HT.out.below h4) (by omega) (by omega) (by omega)).mono ?_
 rintro e w1 ⟨r, hr, rfl, ht1, hg1⟩
 have HG1 := zu8 (World.grownBy.trans (zm h4 (some b)) hg1)
 have HT1 := zu8 ht1
 have j1 : w.heap.size < w1.heap.size := Nat.lt_of_lt_of_le (by omega) hg1.size
 have j2 : Hid (w1.heap[w.heap.size]? = some (.cells (ccells zfi) 60 (0, 0))) := zu8 ((hg1.block _ (by omega) (by simp; omega)).trans j0)
 clear j0 q4 h4 ht1 hg1
 go_wp2_with fail
 refine (zao b (k + 1) _ ⟨w1.heap.size, 0, none⟩ 4 xy (HT1.out.below ((zvb _ w1).alloc (zva _) _)) (by omega) (by decide) (by decide) (by simp; omega) rfl (fun j hj => by
     rw [World.cell?_alloc_new, Nat.zero_add]
     have : ∀ j : Fin 4, (#[Value.string ⟨#[122, 108, 105, 98]⟩, Value.string ⟨#[115, 115, 108]⟩, Value.string ⟨#[108, 105, 98, 115, 47, 112, 110, 103]⟩, Value.string ⟨#[97]⟩])[j.val]? = some (Value.string ⟨(xy.getD j.val []).toArray⟩) := by
       intro j; rcases j with ⟨j, hj⟩
       exact zy0
     exact this ⟨j, hj⟩)).mono ?_
 rintro e w2 ⟨x, hx, rfl, j3, j4⟩
 have hb1 : Below w1.heap.size w1 (w1.alloc (.cells #[Value.string ⟨#[122, 108, 105, 98]⟩, Value.string ⟨#[115, 115, 108]⟩, Value.string ⟨#[108, 105, 98, 115, 47, 112, 110, 103]⟩, Value.string ⟨#[97]⟩] 9)) := (zvb _ w1).alloc (zva _) _
 have g1 := World.grownBy.trans (zm hb1 (some b)) j4
 have j5 := zu8 (World.grownBy.trans HG1.out g1)
 have j6 := zu8 j3
 have q5 : w.heap.size < w2.heap.size := Nat.lt_of_lt_of_le j1 g1.size
 have j7 : Hid (w2.heap[w.heap.size]? = some (.cells (ccells zfi) 60 (0, 0))) := zu8 ((g1.block _ j1 (by simp; omega)).trans j2.out)
 have HX := zu8 (zfx x hx)
 have q6 := zu8 hx
 have y2 : x.length ≤ 200 := by
  have := zfx x hx
  unfold V.jo at this
  simp only [Bool.and_eq_true, decide_eq_true_eq] at this
  exact this.1.1.2
 have hr3 : (1 : Int) + (r : Int) = 1 ∨ (1 : Int) + (r : Int) = 2 ∨ (1 : Int) + (r : Int) = 3 := by omega
 obtain ⟨n, hn⟩ : ∃ n, n = (1 : Int) + (r : Int) := ⟨_, rfl⟩
 rw [← hn] at hr3
 have g9 : Hid (CompWf ⟨par, n, x, [], zq⟩) := zu8 ⟨HP.out, by show (Lit.int .i64 n).wf = true; rcases hr3 with rfl | rfl | rfl <;> decide, by unfold maxLen; show x.length ≤ _; omega, (Nat.zero_le _ : ([] : V.Bs).length ≤ maxLen), (by decide : zq.length = 32), (by decide : ∀ n ∈ zq, (Lit.int .u8 n).wf = true)⟩
 have q7 := zu8 hr3
 clear j3 j4 hb1 g1 hx hr3 j2 HT1 HG1
 have k9 : (ccells ⟨par, 1 + (r : Int), x, [], zq⟩)[1]? = some (.int .i64 (1 + (r : Int))) := rfl
 have q0 : Hid (CompWf ⟨par, 1 + (r : Int), x, [], zq⟩) := zu8 (by rw [← hn]; exact g9.out)
 have HSN : Hid (V.scheme n = true) := zu8 (by unfold V.scheme; rcases q7.out with rfl | rfl | rfl <;> rfl)
 go_wp2_with (first | (refine zbp rfl _ _ rfl _ _ rfl ⟨par, 1 + (r : Int), x, [], zq⟩ q0.out rfl rfl ?_) | fail)
 rw [← hn]
 obtain ⟨W3, g4⟩ : ∃ W3, W3 = w2.alloc (.cells (ccells ⟨par, n, x, [], zq⟩) 60) := ⟨_, rfl⟩
 have hb3 : Below w2.heap.size w2 W3 := by rw [g4]; exact (zvb _ w2).alloc (zva _) _
 have g7 : W3.heap[w2.heap.size]? = some (.cells (ccells ⟨par, n, x, [], zq⟩) 60 (0, 0)) := by rw [g4]; exact heap_alloc_new w2 _
 have j8 : W3.heap.size = w2.heap.size + 1 := by rw [g4]; simp
 rw [← g4]
 clear g4 k9
 refine (za4 b (k + 1 + 1) n W3 (j6.out.below hb3) (by omega) HSN.out).mono ?_
 rintro e w4 ⟨v, hv, rfl, j9, hg4⟩
 have q1 : b < w2.heap.size := by omega
 obtain ⟨C, hC⟩ : ∃ C, C = w2.heap.size := ⟨_, rfl⟩
 rw [← hC] at g7 j8 q5 q1 ⊢
 have g2 := (hg4.block C (by omega) (by simp; omega)).trans g7
 have HR4 : Hid (w4.heap[w.heap.size]? = some (.cells (ccells zfi) 60 (0, 0))) := zu8 ((hg4.block _ (by omega) (by simp; omega)).trans ((hb3.block _ (by omega)).trans j7.out))
 have k0 : w.heap.size ≤ C := by omega
 have hz4 : C < w4.heap.size := Nat.lt_of_lt_of_le (by omega) hg4.size
 have q8 := zu8 (World.grownBy.trans (World.grownBy.trans j5.out (zm hb3 (some b))) hg4)
 have q9 := zu8 j9
 have HV := zu8 hv
 have h5 : w4.cell? ⟨C, 3, none⟩ = some (.string ⟨#[]⟩) := by rw [cell_of_row w4 C 3 _ _ _ g2]; rfl
 have q2 : w4.frozen? ⟨C, 3, none⟩ = false := frozen_of_row w4 C 3 _ _ g2
 have g3 := heap_setCell_same w4 C 3 _ _ (.string ⟨v.toArray⟩) g2
 rw [zn7] at g3
 simp only at g3
 have q3 := zu8 g3
 have v0 : Hid ((w4.setCell ⟨C, 3, none⟩ (.string ⟨v.toArray⟩)).heap[w.heap.size]? = some (.cells (ccells zfi) 60 (0, 0))) := zu8 (by rw [heap_setCell_other w4 _ _ _ (by simp; omega)]; exact HR4.out)
 have v1 : Hid (Tape (w4.setCell ⟨C, 3, none⟩ (.string ⟨v.toArray⟩)) b (k + 1 + 1 + 1)) := zu8 (q9.out.set (by omega) h5 (by intro _ _ g; cases g))
 have v2 : Hid (w.grownBy (w4.setCell ⟨C, 3, none⟩ (.string ⟨v.toArray⟩)) (some b)) := zu8 (zak q8.out (qv w4 C 3 _) k0)
 clear hb3 g7 j8 hg4 g2 j9 hv g3 j5 j6 j7 hC
 have k1 : C < (w4.setCell ⟨C, 3, none⟩ (.string ⟨v.toArray⟩)).heap.size := by simpa [World.setCell] using hz4
 go_wp2_with fail
 clear h5 q2
 generalize w4.setCell ⟨C, 3, none⟩ (.string ⟨v.toArray⟩) = w5 at *
 have h6 : Hid (∀ d : List Int, d.length = 32 -> (∀ n ∈ d, (Lit.int .u8 n).wf = true) -> Made par ⟨par, n, x, v, d⟩) := zu8 (fun d h1 h2 => ⟨⟨g9.out.par, g9.out.sch, g9.out.name, by have := V.xp HV.out; unfold maxLen; show v.length ≤ _; omega, h1, h2⟩, by rw [V.zis]; exact ⟨HX.out, HV.out⟩, rfl, q6.out⟩)
 refine (jq b (k + 1 + 1 + 1) 3 _ v1.out (by omega) (by omega) (by omega)).mono ?_
 rintro e w6 ⟨r2, y3, rfl, k2, g5⟩
 have k3 := zu8 k2
 have k4 := zu8 (World.grownBy.trans v2.out g5)
 have h7 := zu8 ((g5.block C k1 (by simp; omega)).trans q3.out)
 have h8 := zu8 ((g5.block _ (by omega) (by simp; omega)).trans v0.out)
 have k5 : C < w6.heap.size := Nat.lt_of_lt_of_le k1 g5.size
 clear k2 g5
 by_cases h0 : r2 = 0
 ·subst h0
  go_wp2_with fail
  refine (zsk b (k + 1 + 1 + 1 + 1) w6 k3.out (by omega)).mono ?_
  rintro e w7 ⟨y, v3, v4, rfl, ht7, hg7⟩
  have h3 : (dig1 (y : Int)).length = 32 := rfl
  have k6 : ∀ n ∈ dig1 (y : Int), (Lit.int .u8 n).wf = true := by
   intro m hm
   have v5 : y = 1 ∨ y = 2 ∨ y = 3 ∨ y = 4 ∨ y = 5 ∨ y = 6 := by omega
   rcases List.mem_cons.1 hm with rfl | hm
   ·rcases v5 with rfl | rfl | rfl | rfl | rfl | rfl <;> decide
   ·rw [(List.mem_replicate.1 hm).2]; decide
  have g0 := zu8 (h6.out (dig1 y) h3 k6)
  have k7 := zu8 (h6.out zq (by decide) (by decide))
  have h9 := zu8 ((hg7.block C k5 (by simp; omega)).trans h7.out)
  have v6 := zu8 ((hg7.block _ (by omega) (by simp; omega)).trans h8.out)
  have v7 := zu8 ht7
  have HG7 := zu8 (World.grownBy.trans k4.out hg7)
  have hz7 : C < w7.heap.size := Nat.lt_of_lt_of_le k5 hg7.size
  have v8 := zu8 (zk9 k7.out.wf h9.out)
  obtain ⟨W8, g6⟩ : ∃ W8, W8 = w7.setCells C 4 (dcells (dig1 (y : Int))).toList := ⟨_, rfl⟩
  have HRD : Hid (W8.rangeAt C 0 (qb ⟨par, n, x, v, dig1 y⟩)) := zu8 (by rw [g6]; exact zuy k7.out.wf h9.out h3)
  have k8 : Hid (W8.heap[w.heap.size]? = some (.cells (ccells zfi) 60 (0, 0))) := zu8 (by rw [g6, World.heap_setCells_other w7 C 4 _ (by omega) (by omega)]; exact v6.out)
  have g8 : w7.grownBy W8 (some C) := by rw [g6]; exact zj1 w7 C 4 _
  have HT8 := zu8 (v7.out.grown g8 (by simp; omega) (by intro b' e; cases e; omega))
  have v9 := zu8 (zak HG7.out g8 k0)
  have y0 := zu8 g6
  have y1 := zu8 h3
  clear ht7 hg7 h3 k6 v3 v4 g6 g8
  go_wp2_with (first | (refine vm rfl _ rfl C 0 rfl ⟨par, n, x, v, dig1 y⟩ g0.out.wf HRD.out ?_) | (refine zg4 rfl _ _ rfl w.heap.size _ _ k8.out rfl ⟨par, n, x, v, dig1 y⟩ g0.out.wf rfl zp1.size ?_) | (refine zm2 rfl _ _ rfl C 4 (dig1 (y : Int)) y1.out rfl rfl v8.out W8 y0.out ?_) | fail)
  refine bodyPost_ret (v := .agg (ccells ⟨par, n, x, v, dig1 y⟩)) ?_ rfl ⟨_, g0.out, rfl, ?_, ?_⟩
  ·exact qp Tryz.results63 rfl (zha g0.out.wf (setRow_heap _ w.heap.size _ _ _ _ k8.out))
  ·exact (HT8.out.grown (zz _ w.heap.size _) (by simp; omega) (by intro b' e; cases e; omega)).le (by omega)
  ·exact zak v9.out (zz _ _ _) (zva _)
 ·have y4 : ((r2 : Int) == 0) = false := by rw [zvc]; omega
  have g0 := zu8 (h6.out (zq) (by decide) (by decide))
  go_wp2_with (first | (refine vm rfl _ rfl C 0 rfl ⟨par, n, x, v, zq⟩ g0.out.wf (ztu h7.out) ?_) | (refine zg4 rfl _ _ rfl w.heap.size _ _ h8.out rfl ⟨par, n, x, v, zq⟩ g0.out.wf rfl zp1.size ?_) | fail)
  refine bodyPost_ret (v := .agg (ccells ⟨par, n, x, v, zq⟩)) ?_ rfl ⟨_, g0.out, rfl, ?_, ?_⟩
  ·exact qp Tryz.results63 rfl (zha g0.out.wf (setRow_heap w6 w.heap.size _ _ _ _ h8.out))
  ·exact (k3.out.grown (zz w6 w.heap.size _) (by simp; omega) (by intro b' e; cases e; omega)).le (by omega)
  ·exact zak k4.out (zz _ _ _) (zva _)
open Go.RowKit
theorem yq {c : V.Comp} (h : CompWf c) : (qb c).length = 36 := by have := h.size; unfold ccells at this; simpa using this
theorem zmu : ∀ {l : List V.Comp}, (∀ c ∈ l, CompWf c) -> ∀ j (h : j < l.length) i, i < 36 -> (l.flatMap qb)[j * 36 + i]? = (qb l[j])[i]?
 | [], _, j, h, _, _ => by simp at h
 | c :: l, hw, 0, _, i, hi => by
  rw [List.flatMap_cons, List.getElem?_append_left (by rw [yq (hw c (by simp))]; omega)]
  simp
 | c :: l, hw, j + 1, h, i, hi => by
  have hl := yq (hw c (by simp))
  rw [List.flatMap_cons, List.getElem?_append_right (by rw [hl]; omega), hl, show (j + 1) * 36 + i - 36 = j * 36 + i by omega]
  rw [zmu (fun d hd => hw d (by simp [hd])) j (by simpa using h) i hi]
  simp
theorem zi5 : ∀ {l : List V.Comp}, (∀ c ∈ l, CompWf c) -> (l.flatMap qb).length = l.length * 36
 | [], _ => rfl
 | c :: l, hw => by
  rw [List.flatMap_cons, List.length_append, yq (hw c (by simp)), zi5 (fun d hd => hw d (by simp [hd])), List.length_cons]
  omega
def CRow (w : World) (N : Nat) (v : Value) (l : List V.Comp) : Prop := w.ownsRow N 60 36 v l.length (l.flatMap qb) /\ ∀ c ∈ l, CompWf c
theorem CRow.nil (w : World) (N : Nat) : CRow w N (.slice none 0 0) [] := ⟨⟨rfl, .inl ⟨rfl, rfl⟩⟩, fun c hc => by simp at hc⟩
theorem CRow.comps {w : World} {N : Nat} {v : Value} {l : List V.Comp} (h : CRow w N v l) : Comps w v l := by
 obtain ⟨⟨hx, h⟩, hw⟩ := h
 rcases h with ⟨rfl, hn⟩ | ⟨g, cap, cur, rfl, hb, hg, g1, hm, g2, g0⟩
 ·have := List.eq_nil_of_length_eq_zero hn
  subst this
  exact Comps.nil w
 ·refine ⟨_, cap, rfl, fun j hj => ⟨hw _ (List.getElem_mem hj), g, 0, rfl, (Array.getElem?_eq_some_iff.1 hg).1, fun i u hu => ?_⟩⟩
  have hi : i < 36 := by
   have := (List.getElem?_eq_some_iff.1 hu).1
   rw [yq (hw _ (List.getElem_mem hj))] at this
   exact this
  rw [cell_of_row w g _ cur _ (0, 0) hg, show 0 + j * 36 + i = j * 36 + i by omega]
  have h1 := zmu hw j hj i hi
  rw [hu, ← g0, List.getElem?_take] at h1
  split at h1
  ·simpa using h1
  ·cases h1
theorem zxo {P : Prop} (h : P := by
 refine .inr ⟨g, cap, cur, rfl, hb, ?_, rest⟩
 rw [hg.block g (Array.getElem?_eq_some_iff.1 hgg).1 (fun e => by have := hr g e.symm; omega)]
 exact hgg) : P := h
theorem CRow.kept {w w' : World} {N : Nat} {v : Value} {l : List V.Comp} (h : CRow w N v l) {row : Option Nat} (hg : w.grownBy w' row) (hr : ∀ b, row = some b -> b < N) : CRow w' N v l := by
 obtain ⟨⟨hx, h⟩, hw⟩ := h
 refine ⟨⟨hx, ?_⟩, hw⟩
 rcases h with h | ⟨g, cap, cur, rfl, hb, hgg, rest⟩
 ·exact .inl h
 ·exact zxo
theorem CRow.block {w : World} {N : Nat} {v : Value} {l : List V.Comp} (h : CRow w N v l) : ∀ b, v.ownBlock = some b -> N ≤ b := by
 obtain ⟨⟨_, h⟩, _⟩ := h
 intro b hb
 rcases h with ⟨rfl, _⟩ | ⟨g, cap, cur, rfl, hbb, _⟩
 ·cases hb
 ·simp [Value.ownBlock] at hb; omega
theorem zvk {P : Prop} (h : P := by
 rw [hq] at h
 simp only [Bool.and_eq_true, beq_iff_eq] at h
 obtain ⟨h1, h2, h3⟩ := h
 cases hz : i.zero with
 | none => rw [hz] at h3; cases h3
 | some z =>
  rw [hz] at h3
  exact ⟨i, z, rfl, hz, h1, h2, by simpa using h3⟩) : P := h
theorem zss : ∃ ie z, Tryz.prog.info? 60 = some ie /\ ie.zero = some z /\ ie.size = 36 /\ ie.bytes = 80 /\ z.cells.size = 36 := by
 have h : (match Tryz.prog.info? 60 with | some i => i.size == 36 && (i.bytes == 80 && (match i.zero with | some z => z.cells.size == 36 | none => false)) | none => false) = true := by kernel_rfl
 cases hq : Tryz.prog.info? 60 with
 | none => rw [hq] at h; cases h
 | some i =>
  exact zvk
theorem zq7 {ops : Array Oper} {rest : List Oper} {o : Oper} {a : Act} {w : World} {Q : Exit -> Act -> World -> Prop} (g1 : o.guard = none) (s x : Operand)
  (ho : o.op = .call { callee := .builtin .append, args := #[s, x], argTypes := #[27, 27] })
  (N : Nat) (v : Value) (l : List V.Comp) (hs : a.eval s = v) (g0 : CRow w N v l) (b : Nat) (c : V.Comp) (hc : CompWf c) (hx : a.eval x = .slice (some ⟨b, 0, none⟩) 1 1) (hr : w.rangeAt b 0 (qb c)) (hl : l.length ≤ 1000000) (hN : N ≤ w.heap.size)
  (h : ∀ v' w', CRow w' N v' (l ++ [c]) -> w.grownBy w' v.ownBlock -> wpList Tryz.prog ops Q rest (a.put o.dst v') w') : wpList Tryz.prog ops Q (o :: rest) a w := by
 obtain ⟨ie, z, hi, hz, h1, h2, h3⟩ := zss
 refine wpList_append_own w g1 s x 27 ho N 60 ie z 36 80 Tryz.underlying27 hi hz h1 h2 h3 (by decide) v l.length (l.flatMap qb) hs g0.1 ⟨b, 0, none⟩ 1 1 (qb c) hx (yq hc) ?_ ?_ (by unfold maxLen; omega) (by omega) hN ?_
 ·intro j u hj
  rw [Addr.add_mid]
  exact hr j u hj
 ·intro u hu
  have := Array.all_eq_true_iff_forall_mem.1 (zff (c := c)) u (by unfold ccells; simpa using hu)
  exact this
 ·intro v' w' g2 hg _
  refine h v' w' ⟨?_, fun d hd => ?_⟩ hg
  ·rw [List.length_append, List.flatMap_append]
   simpa using g2
  ·rcases List.mem_append.1 hd with hd | hd
   ·exact g0.2 d hd
   ·rw [List.mem_singleton.1 hd]; exact hc
theorem zlv {ops : Array Oper} {rest : List Oper} {o : Oper} {a : Act} {w : World} {Q : Exit -> Act -> World -> Prop} (g1 : o.guard = none) (x : Operand) (ho : o.op = .buildSlice 27 1 #[(0, x)])
  (c : V.Comp) (hc : CompWf c) (hx : a.eval x = .agg (ccells c))
  (h : wpList Tryz.prog ops Q rest (a.put o.dst (.slice (some ⟨w.heap.size, 0, none⟩) 1 1)) (w.alloc (.cells (ccells c) 60))) : wpList Tryz.prog ops Q (o :: rest) a w := by
 obtain ⟨ie, z, g2, g0, hz⟩ := compIE
 refine wpList_buildSlice g1 _ 60 1 _ ho (ccells c) ie z Tryz.underlying27 g2 hz (by rw [g0]; decide) (by rw [g0]; decide) ?_ h
 have := Great.fill_whole (s := 36) (by decide) [Value.agg (ccells c)] ((Array.range (1 * ie.size)).map (z.cells[· % z.cells.size]!)) (fun v hv => by
   rcases List.mem_cons.1 hv with rfl | hv
   · exact hc.size
   · cases hv) (by rw [g0]; simp)
 rw [g0] at this ⊢
 simp only [hx, List.map_toArray, List.map_cons, List.map_nil]
 exact this.trans (by simp [Value.cells])
theorem zce {ops : Array Oper} {o : Oper} {a : Act} {w : World} {K : Act -> Prop} {E : Prop} (hw : Region.wanted o (yielded ops a.tmps) = true) (x : Operand) (ho : o.op = .load 60 x)
  (b off : Nat) (hx : a.eval x = .pointer (some ⟨b, off, none⟩)) (c : V.Comp) (hc : CompWf c) (hr : w.rangeAt b off (qb c)) (h : K (a.put o.dst (.agg (ccells c)))) :
  if Region.wanted o (yielded ops a.tmps) = true then o.still Tryz.prog a w K else E := by
 rw [if_pos hw]
 unfold Oper.still execOp
 simp only [ho, hx, Sem.run_bind, ztv hc hr, Result.andThen_ok, Sem.run_pure, Oper.stillUpon_value]
 exact h
theorem zmg {ops : Array Oper} {o : Oper} {a : Act} {w : World} {K : Act -> Prop} {E : Prop} (hw : Region.wanted o (yielded ops a.tmps) = true) (x y : Operand) (ho : o.op = .binOp .eql 60 x y 60)
  (c d : V.Comp) (hc : CompWf c) (hd : CompWf d) (hx : a.eval x = .agg (ccells c)) (hy : a.eval y = .agg (ccells d)) (h : K (a.put o.dst (.bool (decide (c = d))))) :
  if Region.wanted o (yielded ops a.tmps) = true then o.still Tryz.prog a w K else E := by
 rw [if_pos hw]
 unfold Oper.still execOp
 simp only [ho, hx, hy, Sem.run_bind, run_eqGuard_agg w .eql 60 x y _ _ zq1, Result.andThen_ok, run_eql_struct, eq_comp hc hd, Sem.run_pure, Oper.stillUpon_value]
 exact h
theorem zdo (l : List V.Comp) (c : V.Comp) : ∀ k, k ≤ l.length -> V.qf (l ++ [c]) k = V.qf l k
 | 0, _ => rfl
 | k + 1, h => by
  have h1 : k < l.length := by omega
  rw [V.kx h1, V.kx (l := l ++ [c]) (by simp; omega), zdo l c k (by omega)]
  rw [List.getElem_append_left h1]
  unfold V.za0
  rw [List.take_append_of_le_length (by omega)]
theorem zn5 {l : List V.Comp} {c : V.Comp} (h : V.qf l l.length = true) (h1 : V.xq c = true) (h2 : -1 ≤ c.par) (h3 : c.par < l.length) (h4 : c ∉ l) : V.qf (l ++ [c]) (l ++ [c]).length = true := by
 rw [List.length_append, List.length_singleton, V.kx (by simp), zdo l c _ (zva _), h]
 rw [List.getElem_append_right (zva _)]
 simp only [Nat.sub_self, List.getElem_cons_zero, Bool.true_and]
 rw [V.zez]
 refine ⟨h1, h2, h3, ?_⟩
 rw [List.take_append_of_le_length (zva _), List.take_length]
 exact h4
end Go.Proofs.YtbikeahmldobkaaGreatDoor
