/-
  Lemmas for the law.
-/
import Derived.Test.YtbikeahmldobkaaGreatDoorC50x20
import Derived.Test.YtbikeahmldobkaaGreatDoorC50x04
import Derived.Test.YtbikeahmldobkaaGreatDoorC50x24
import Derived.Great.FillDense
import Derived.Great.BuildSlice
set_option linter.all false
set_option maxRecDepth 100000
set_option maxHeartbeats 6400000
namespace Go.Proofs.YtbikeahmldobkaaGreatDoor
open Go.RowKit
theorem zdo {P : Program} {o : Oper} {ev : Operand -> Value} {w : World} {ty : TypeId} {x : Operand} {p v : Value} (ho : o.op = .load ty x) (hx : ev x = p) (h : (Instr.loadAt ty p).run P w = .ok v w) : (execOp ev o).run P w = .ok (.value v) w := by
 unfold execOp
 simp only [ho, hx, Sem.run_bind, h, Result.andThen_ok, Sem.run_pure]
theorem zet {ops : Array Oper} {rest : List Oper} {o : Oper} {a : Act} {w : World} {Q : Exit -> Act -> World -> Prop} (hw : Region.wanted o (yielded ops a.tmps) = true) (v : Value) (he : (execOp a.eval o).run Tryz.prog w = .ok (.value v) w)
  (h : wpList Tryz.prog ops Q rest (a.put o.dst v) w) : wpList Tryz.prog ops Q (o :: rest) a w := by
 unfold wpList
 rw [if_pos hw]
 refine Or.inl ?_
 unfold Oper.wp
 rw [he]
 exact h
theorem zc5 {w : World} {g : Nat} {cs : Array Value} {t ty : TypeId} {fr : Nat × Nat} {d : TypeDesc} (hg : w.heap[g]? = some (.cells cs t fr)) (hu : Tryz.prog.underlying ty = some d) (hd : d.isRow = true) (hs : (Tryz.prog.info? ty).map (·.size) = some cs.size) : (Instr.loadAt ty (.pointer (some ⟨g, 0, none⟩))).run Tryz.prog w = .ok (.agg cs) w := by
 have := run_loadAt_mid w g 0 ty cs.toList d (fun i u hu => by rw [Nat.zero_add, cell_of_row w g i _ _ _ hg]; simpa using hu) hu hd (by simpa using hs)
 simpa using this
section
variable {α : Type} {enc : α -> List Value} {k : Nat} {T : TypeId}
theorem jp.sz {bytes : Nat} (h : jp T k bytes) : (Tryz.prog.info? T).map (·.size) = some k := by
 obtain ⟨i, z, hi, _, hs, _⟩ := h
 rw [hi, ← hs]; rfl
def ERow (T : TypeId) (k : Nat) (enc : α -> List Value) (w : World) (g : Nat) (l : List α) : Prop := ∃ cs, w.heap[g]? = some (.cells cs T (0, 0)) /\ l.length * k ≤ cs.size /\ ∀ i, i < l.length * k -> cs[i]? = (l.flatMap enc)[i]?
theorem ERow.lt {w : World} {g : Nat} {l : List α} (h : ERow T k enc w g l) : g < w.heap.size := by
 obtain ⟨cs, hg, _⟩ := h
 exact (Array.getElem?_eq_some_iff.1 hg).1
theorem ERow.at (hk : ∀ x, (enc x).length = k) {w : World} {g : Nat} {l : List α} (h : ERow T k enc w g l) {j : Nat} (hj : j < l.length) : w.rangeAt g (j * k) (enc l[j]) := fun i u hu => by
 obtain ⟨cs, hg, hs, hc⟩ := h
 have hi : i < k := by have := (List.getElem?_eq_some_iff.1 hu).1; rwa [hk] at this
 have hm : (j + 1) * k ≤ l.length * k := Nat.mul_le_mul_right k hj
 have e : (j + 1) * k = j * k + k := Nat.succ_mul j k
 rw [cell_of_row w g _ _ _ _ hg, hc _ (by omega), wu hk j hj i hi]
 exact hu
theorem ERow.below {w w' : World} {g : Nat} {l : List α} (h : ERow T k enc w g l) (hb : Below w.heap.size w w') : ERow T k enc w' g l := by
 have hlt := h.lt
 obtain ⟨cs, hg, hr⟩ := h
 exact ⟨cs, (hb.block g hlt).trans hg, hr⟩
theorem zy7 {P : Prop} (h : P := by
 exact ⟨by rw [cell_of_row w g _ _ _ _ hg, Array.getElem?_eq_getElem (by omega)]; rfl, ko hg⟩) : P := h
theorem ERow.there {w : World} {g : Nat} {l : List α} (h : ERow T k enc w g l) {j : Nat} (hj : j < l.length) : w.there g (j * k) k := fun i hi => by
 obtain ⟨cs, hg, hs, _⟩ := h
 have hm : (j + 1) * k ≤ l.length * k := Nat.mul_le_mul_right k hj
 have e : (j + 1) * k = j * k + k := Nat.succ_mul j k
 exact zy7
theorem zb4 {g : Nat} {t : TypeId} {fr : Nat × Nat} : ∀ (vs : List Value) (o : Nat) (w : World) (cs : Array Value), w.heap[g]? = some (.cells cs t fr) ->
  ∃ cs', (w.setCells g o vs).heap[g]? = some (.cells cs' t fr) /\ cs'.size = cs.size /\ ∀ i, cs'[i]? = if o ≤ i /\ i < o + vs.length /\ i < cs.size then vs[i - o]? else cs[i]?
 | [], o, w, cs, h => ⟨cs, h, rfl, fun i => by rw [if_neg (by simp; omega)]⟩
 | v :: r, o, w, cs, h => by
  obtain ⟨cs', h1, h2, h3⟩ := zb4 r (o + 1) _ _ (yj o v h)
  refine ⟨cs', h1, by rw [h2]; simp, fun i => ?_⟩
  rw [h3]
  simp only [Array.size_setIfInBounds, List.length_cons]
  by_cases hi : i = o
  ·subst hi
   rw [if_neg (by omega), Array.getElem?_setIfInBounds]
   by_cases hs : i < cs.size
   ·rw [if_pos rfl, if_pos hs, if_pos ⟨by omega, by omega, hs⟩]
    simp
   ·rw [if_pos rfl, if_neg hs, if_neg (by omega)]
    exact (Array.getElem?_eq_none (by omega)).symm
  ·by_cases hb : o + 1 ≤ i /\ i < o + 1 + r.length /\ i < cs.size
   ·rw [if_pos hb, if_pos (by omega), show i - o = (i - (o + 1)) + 1 by omega]
    rfl
   ·rw [if_neg hb, if_neg (by omega), Array.getElem?_setIfInBounds_ne (by omega)]
theorem vt (w : World) (row : Option Nat) : w.grownBy w row := ⟨rfl, rfl, rfl, zwi _, fun _ _ _ => rfl⟩
theorem uk (g : Nat) : ∀ (vs : List Value) (o : Nat) (w : World), w.grownBy (w.setCells g o vs) (some g)
 | [], _, w => vt w _
 | v :: r, o, w => (jt w g o v).trans (uk g r (o + 1) _)
theorem zko (hk : ∀ x, (enc x).length = k) {l : List α} {i : Nat} (hi : i < l.length * k) : 0 < k /\ i / k < l.length /\ i = i / k * k + i % k /\ i % k < k := by
 have h0 : 0 < k := Nat.pos_of_ne_zero (fun h => by rw [h] at hi; simp at hi)
 exact ⟨h0, (Nat.div_lt_iff_lt_mul h0).2 hi, by rw [Nat.mul_comm]; exact (Nat.div_add_mod i k).symm, Nat.mod_lt _ h0⟩
theorem ERow.set (hk : ∀ x, (enc x).length = k) {w : World} {g : Nat} {l : List α} (h : ERow T k enc w g l) {j : Nat} (hj : j < l.length) (x : α) : ERow T k enc (w.setCells g (j * k) (enc x)) g (l.set j x) := by
 obtain ⟨cs, hg, hs, hc⟩ := h
 obtain ⟨cs', h1, h2, h3⟩ := zb4 (enc x) (j * k) w cs hg
 refine ⟨cs', h1, by rw [List.length_set, h2]; exact hs, fun i hi => ?_⟩
 rw [List.length_set] at hi
 obtain ⟨h0, hq, he, hr⟩ := zko hk hi
 have g0 : i / k < (l.set j x).length := by rw [List.length_set]; exact hq
 rw [h3, hk]
 have hR : ((l.set j x).flatMap enc)[i]? = (enc (l.set j x)[i / k])[i % k]? := by
  conv => lhs; rw [he]
  exact wu hk (i / k) g0 (i % k) hr
 have hL : (l.flatMap enc)[i]? = (enc l[i / k])[i % k]? := by
  conv => lhs; rw [he]
  exact wu hk (i / k) hq (i % k) hr
 rw [hR, List.getElem_set]
 by_cases e : j = i / k
 ·rw [if_pos (by rw [e]; omega), if_pos e, show i - j * k = i % k by rw [e]; omega]
 ·rw [if_neg e, ← hL, ← hc i hi, if_neg]
  rintro ⟨q1, q2, _⟩
  apply e
  have m1 : j * k < (i / k + 1) * k := by rw [Nat.succ_mul]; omega
  have m2 : i / k * k < (j + 1) * k := by rw [Nat.succ_mul]; omega
  have := Nat.lt_of_mul_lt_mul_right m1
  have := Nat.lt_of_mul_lt_mul_right m2
  omega
theorem ERow.tail (hk : ∀ x, (enc x).length = k) {w : World} {g : Nat} {l : List α} (h : ERow T k enc w g l) {m : Nat} (hm : m ≤ l.length) (vs : List Value) : ERow T k enc (w.setCells g (m * k) vs) g (l.take m) := by
 obtain ⟨cs, hg, hs, hc⟩ := h
 obtain ⟨cs', h1, h2, h3⟩ := zb4 vs (m * k) w cs hg
 have hl : (l.take m).length = m := by rw [List.length_take]; omega
 have g0 : m * k ≤ l.length * k := Nat.mul_le_mul_right k hm
 refine ⟨cs', h1, by rw [hl, h2]; omega, fun i hi => ?_⟩
 rw [hl] at hi
 rw [h3, if_neg (by omega), hc i (by omega)]
 have e : l.flatMap enc = (l.take m).flatMap enc ++ (l.drop m).flatMap enc := by rw [← List.flatMap_append, List.take_append_drop]
 rw [e, List.getElem?_append_left (by rw [za4 hk, hl]; exact hi)]
theorem GRow.row (hk : ∀ x, (enc x).length = k) {w : World} {N : Nat} {v : Value} {l : List α} (h : GRow T k enc w N v l) : v = .slice none 0 0 /\ l = [] ∨ ∃ g cap, v = .slice (some ⟨g, 0, none⟩) l.length cap /\ N ≤ g /\ l.length ≤ cap /\ ERow T k enc w g l := by
 rcases h.2 with ⟨rfl, hn⟩ | ⟨g, cap, cur, rfl, hN, hg, h1, h2, h3, h4⟩
 ·exact .inl ⟨rfl, List.eq_nil_of_length_eq_zero hn⟩
 ·have hm : l.length * k ≤ cap * k := Nat.mul_le_mul_right k h1
  refine .inr ⟨g, cap, rfl, hN, h1, cur, hg, by omega, fun i hi => ?_⟩
  rw [← h4, List.getElem?_take, if_pos hi]
  simp
theorem ERow.gsl (hk : ∀ x, (enc x).length = k) {w : World} {g cap : Nat} {l : List α} (h : ERow T k enc w g l) : GSl k enc w (.slice (some ⟨g, 0, none⟩) l.length cap) l :=
 ⟨_, cap, rfl, fun j hj => ⟨g, 0, rfl, h.lt, fun i u hu => by have := h.at hk hj i u hu; rw [Nat.zero_add]; exact this⟩⟩
theorem zkw {ops : Array Oper} {rest : List Oper} {o : Oper} {a : Act} {w : World} {Q : Exit -> Act -> World -> Prop} (hk : ∀ x, (enc x).length = k) {bytes : Nat} (hi : jp T k bytes) {d : TypeDesc} (hu : Tryz.prog.underlying T = some d) (hd : d.isRow = true) (g0 : o.guard = none) (y : Operand) (ho : o.op = .load T y)
  (g off : Nat) (hy : a.eval y = .pointer (some ⟨g, off, none⟩)) (x : α) (hr : w.rangeAt g off (enc x))
  (h : wpList Tryz.prog ops Q rest (a.put o.dst (.agg (enc x).toArray)) w) : wpList Tryz.prog ops Q (o :: rest) a w :=
 wpList_load_mid g0 _ y ho g off hy (enc x) d hr hu hd (by rw [hi.sz, hk]) h
theorem zif {S : TypeId} (hk : ∀ x, (enc x).length = k) (g1 : 0 < k) (g3 : k ≤ 1000) {bytes : Nat} (hi : jp T k bytes) (hu : Tryz.prog.underlying S = some (.slice T)) (x : α) (w : World) :
  (Instr.buildSlice S 1 #[(0, .agg (enc x).toArray)]).run Tryz.prog w = .ok (.slice (some ⟨w.heap.size, 0, none⟩) 1 1) (w.alloc (.cells (enc x).toArray T)) := by
 obtain ⟨ie, z, g2, hz, g0, _, g4⟩ := hi
 have hf := Great.fill_whole (s := k) g1 [Value.agg (enc x).toArray] ((Array.range (1 * ie.size)).map (z.cells[· % z.cells.size]!)) (fun v hv => by
   rcases List.mem_cons.1 hv with rfl | hv
   · show (enc x).toArray.size = k
     rw [List.size_toArray, hk]
   · cases hv) (by rw [g0]; simp)
 refine run_buildSlice w S T 1 _ (enc x).toArray ie z hu g2 hz (by rw [g0]; omega) (by rw [g0]; omega) ?_
 rw [g0] at hf ⊢
 exact hf.trans (by simp [Value.cells])
theorem zc9 {ops : Array Oper} {rest : List Oper} {o : Oper} {a : Act} {w : World} {Q : Exit -> Act -> World -> Prop} {S : TypeId} (hk : ∀ x, (enc x).length = k) (g0 : 0 < k) (g1 : k ≤ 1000) {bytes : Nat} (hi : jp T k bytes) (hu : Tryz.prog.underlying S = some (.slice T)) (g2 : o.guard = none) (e1 : Operand) (ho : o.op = .buildSlice S 1 #[(0, e1)])
  (x : α) (h1 : a.eval e1 = .agg (enc x).toArray)
  (h : wpList Tryz.prog ops Q rest (a.put o.dst (.slice (some ⟨w.heap.size, 0, none⟩) 1 1)) (w.alloc (.cells (enc x).toArray T))) : wpList Tryz.prog ops Q (o :: rest) a w := by
 refine wpList_plain g2 fun K hK => ?_
 unfold Oper.wp execOp
 have hb := zif (S := S) hk g0 g1 hi hu x w
 simp only [ho, List.map_toArray, List.map_cons, List.map_nil, h1, Sem.run_bind, hb, Result.andThen_ok, Sem.run_pure]
 exact hK _ _ h
theorem znp {ops : Array Oper} {o : Oper} {a : Act} {w : World} {K : Act -> World -> Prop} {Q : Exit -> Act -> World -> Prop} {E : Prop} {S : TypeId} (hk : ∀ x, (enc x).length = k) (g0 : 0 < k) (g1 : k ≤ 1000) {bytes : Nat} (hi : jp T k bytes) (hu : Tryz.prog.underlying S = some (.slice T)) (g2 : o.guard = none) (e1 : Operand) (ho : o.op = .buildSlice S 1 #[(0, e1)])
  (x : α) (h1 : a.eval e1 = .agg (enc x).toArray)
  (h : K (a.put o.dst (.slice (some ⟨w.heap.size, 0, none⟩) 1 1)) (w.alloc (.cells (enc x).toArray T))) : if Region.wanted o (yielded ops a.tmps) = true then Oper.wp Tryz.prog o a w K Q else E := by
 rw [if_pos (by simp [Region.wanted, g2])]
 unfold Oper.wp execOp
 have hb := zif (S := S) hk g0 g1 hi hu x w
 simp only [ho, List.map_toArray, List.map_cons, List.map_nil, h1, Sem.run_bind, hb, Result.andThen_ok, Sem.run_pure]
 exact h
theorem GSl.one {w : World} {b : Nat} {c : α} (hb : b < w.heap.size) (hc : ∀ j u, (enc c)[j]? = some u -> w.cell? ⟨b, j, none⟩ = some u) : GSl k enc w (.slice (some ⟨b, 0, none⟩) 1 1) [c] := by
 refine ⟨_, 1, rfl, fun j hj => ⟨b, 0, rfl, hb, fun i u hu => ?_⟩⟩
 have h0 : j = 0 := by simpa using hj
 subst h0
 rw [Nat.zero_add, Nat.zero_mul, Nat.zero_add]
 exact hc i u hu
theorem ze7 {w : World} (N : Nat) (S ty : TypeId) {bytes : Nat} (hi : jp T k bytes) (hu : Tryz.prog.underlying S = some (.slice T)) (v : Value) (n : Nat) (xs : List Value) (g1 : w.ownsRow N T k v n xs) (c : Nat) :
  (Builtin.append_ #[S, S] ty #[v, .slice none 0 c]).run Tryz.prog w = .ok v w := by
 obtain ⟨ie, z, g0, _⟩ := hi
 rcases g1.2 with ⟨rfl, rfl⟩ | ⟨g, cap, cur, rfl, _, _, g2, _⟩
 ·simp [Builtin.append_, run_underlying hu, sizeOf, typeInfo, g0, Builtin.lenOf, Builtin.firstCells]
 ·simp [Builtin.append_, run_underlying hu, sizeOf, typeInfo, g0, Builtin.lenOf, Builtin.firstCells, g2, storeCells]
theorem zhr {w : World} (hk : ∀ x, (enc x).length = k) (g1 : 0 < k) (g2 : ∀ x, ∀ u ∈ enc x, u.oneCell' = true) {bytes : Nat} (hi : jp T k bytes) (g3 : bytes ≤ 1000) (S ty : TypeId) (hu : Tryz.prog.underlying S = some (.slice T))
  (N : Nat) (v : Value) (l : List α) (g0 : GRow T k enc w N v l) (u : Value) (ys : List α) (hy : GSl k enc w u ys) (hl : l.length + ys.length ≤ 1000000) (hN : N ≤ w.heap.size) :
  ∃ v' w', (Builtin.append_ #[S, S] ty #[v, u]).run Tryz.prog w = .ok v' w' /\ GRow T k enc w' N v' (l ++ ys) /\ w.grownBy w' v.ownBlock /\ (v'.ownBlock = v.ownBlock ∨ v'.ownBlock = some w.heap.size) := by
 obtain ⟨a, c, rfl⟩ := hy.slice
 rcases a with _ | ad
 ·have hn : ys = [] := by
   cases ys with
   | nil => rfl
   | cons y r => obtain ⟨g, off, e, _⟩ := hy.at 0 (by simp); cases e
  subst hn
  exact ⟨v, w, ze7 N S ty hi hu v _ _ g0 c, by rw [List.append_nil]; exact g0, vt w _, .inl rfl⟩
 ·obtain ⟨ie, z, g4, hz, h1, h2, h3⟩ := hi
  obtain ⟨v', w', g5, g6, hg, _, g7⟩ := run_append_own_at (P := Tryz.prog) w N S ty T ie z k bytes hu g4 hz h1 h2 h3 g1 v l.length (l.flatMap enc) g0 ad ys.length c (ys.flatMap enc) (za4 hk ys) (fun j u hu => by
    have hj := (List.getElem?_eq_some_iff.1 hu).1
    rw [za4 hk] at hj
    obtain ⟨h0, hq, he, hr⟩ := zko hk hj
    obtain ⟨g, off, e, hg, hc⟩ := hy.at (j / k) hq
    cases e
    rw [he, wu hk (j / k) hq (j % k) hr] at hu
    rw [Addr.add_mid]
    have := hc _ _ hu
    rw [show off + j = off + j / k * k + j % k by omega]
    exact this) (fun u hu => by
      obtain ⟨y, _, hy⟩ := List.mem_flatMap.1 hu
      exact g2 y u hy) (by unfold maxLen; omega) (by
        have : (l.length + ys.length) * bytes ≤ 1000000 * 1000 := Nat.mul_le_mul hl g3
        omega) hN
  refine ⟨v', w', g5, ?_, hg, g7⟩
  unfold GRow
  rw [List.length_append, List.flatMap_append]
  exact g6
theorem xj {ops : Array Oper} {rest : List Oper} {o : Oper} {a : Act} {w : World} {Q : Exit -> Act -> World -> Prop} (hk : ∀ x, (enc x).length = k) (g1 : 0 < k) (g2 : ∀ x, ∀ u ∈ enc x, u.oneCell' = true) {bytes : Nat} (hi : jp T k bytes) (g3 : bytes ≤ 1000) (g4 : o.guard = none) (s x : Operand) (S : TypeId)
  (ho : o.op = .call { callee := .builtin .append, args := #[s, x], argTypes := #[S, S] }) (hu : Tryz.prog.underlying S = some (.slice T))
  (N : Nat) (v : Value) (l : List α) (hs : a.eval s = v) (g0 : GRow T k enc w N v l) (u : Value) (ys : List α) (hx : a.eval x = u) (hy : GSl k enc w u ys) (hl : l.length + ys.length ≤ 1000000) (hN : N ≤ w.heap.size)
  (h : ∀ v' w', GRow T k enc w' N v' (l ++ ys) -> w.grownBy w' v.ownBlock -> (v'.ownBlock = v.ownBlock ∨ v'.ownBlock = some w.heap.size) -> wpList Tryz.prog ops Q rest (a.put o.dst v') w') : wpList Tryz.prog ops Q (o :: rest) a w := by
 refine wpList_plain g4 fun K hK => ?_
 obtain ⟨v', w', hr, h2, h3, h4⟩ := zhr hk g1 g2 hi g3 S o.type hu N v l g0 u ys hy hl hN
 unfold Oper.wp execOp
 simp only [ho, resolve, invoke, builtin, Sem.run_bind, Sem.run_pure, Result.andThen_ok, List.map_toArray, List.map_cons, List.map_nil, hs, hx, hr]
 exact hK _ _ (h v' w' h2 h3 h4)
theorem zg2 {ops : Array Oper} {o : Oper} {a : Act} {w : World} {K : Act -> World -> Prop} {Q : Exit -> Act -> World -> Prop} {E : Prop} (hk : ∀ x, (enc x).length = k) (g1 : 0 < k) (g2 : ∀ x, ∀ u ∈ enc x, u.oneCell' = true) {bytes : Nat} (hi : jp T k bytes) (g3 : bytes ≤ 1000) (g4 : o.guard = none) (s x : Operand) (S : TypeId)
  (ho : o.op = .call { callee := .builtin .append, args := #[s, x], argTypes := #[S, S] }) (hu : Tryz.prog.underlying S = some (.slice T))
  (N : Nat) (v : Value) (l : List α) (hs : a.eval s = v) (g0 : GRow T k enc w N v l) (u : Value) (ys : List α) (hx : a.eval x = u) (hy : GSl k enc w u ys) (hl : l.length + ys.length ≤ 1000000) (hN : N ≤ w.heap.size)
  (h : ∀ v' w', GRow T k enc w' N v' (l ++ ys) -> w.grownBy w' v.ownBlock -> (v'.ownBlock = v.ownBlock ∨ v'.ownBlock = some w.heap.size) -> K (a.put o.dst v') w') : if Region.wanted o (yielded ops a.tmps) = true then Oper.wp Tryz.prog o a w K Q else E := by
 rw [if_pos (by simp [Region.wanted, g4])]
 obtain ⟨v', w', hr, h2, h3, h4⟩ := zhr hk g1 g2 hi g3 S o.type hu N v l g0 u ys hy hl hN
 unfold Oper.wp execOp
 simp only [ho, resolve, invoke, builtin, Sem.run_bind, Sem.run_pure, Result.andThen_ok, List.map_toArray, List.map_cons, List.map_nil, hs, hx, hr]
 exact h v' w' h2 h3 h4
theorem zmh {ops : Array Oper} {o : Oper} {a : Act} {w : World} {K : Act -> World -> Prop} {Q : Exit -> Act -> World -> Prop} {E : Prop} (g1 : o.guard = none) (ty : TypeId) (x y : Operand) (ho : o.op = .store ty x y)
  (g off : Nat) (old : Array Value) (t : TypeId) (hg : w.heap[g]? = some (.cells old t (0, 0))) (g0 : off < old.size) (hx : a.eval x = .pointer (some ⟨g, off, none⟩)) (v : Value) (hy : a.eval y = v) (hi : (Tryz.prog.info? ty).map (·.size) = some 1) (h1 : v.oneCell' = true)
  (h : ∀ W, PutAt w W g (old.setIfInBounds off v) t -> K (a.put o.dst undef) W) : if Region.wanted o (yielded ops a.tmps) = true then Oper.wp Tryz.prog o a w K Q else E := by
 rw [if_pos (by simp [Region.wanted, g1])]
 have hc : w.cell? ⟨g, off, none⟩ = some old[off] := by rw [cell_of_row w g off _ _ _ hg, Array.getElem?_eq_getElem g0]
 have hr : (Instr.storeAt ty (.pointer (some ⟨g, off, none⟩)) v).run Tryz.prog w = .ok () (w.setCell ⟨g, off, none⟩ v) := by
  have := zq7 (P := Tryz.prog) hc (ko hg) hi h1
  simp only [Instr.storeAt, Instr.sureAddr, Sem.run_bind, Sem.run_pure, Result.andThen_ok, this]
 unfold Oper.wp execOp
 simp only [ho, hx, hy, Sem.run_bind, hr, Result.andThen_ok, Sem.run_pure]
 exact h _ (zmo hg v)
theorem ztv {ops : Array Oper} {rest : List Oper} {o : Oper} {a : Act} {w : World} {Q : Exit -> Act -> World -> Prop} (hk : ∀ x, (enc x).length = k) (g0 : ∀ x, ∀ u ∈ enc x, u.oneCell' = true) {bytes : Nat} (hi : jp T k bytes) (g1 : o.guard = none) (x y : Operand) (ho : o.op = .store T x y)
  (g : Nat) (l : List α) (hr : ERow T k enc w g l) (j : Nat) (hj : j < l.length) (hx : a.eval x = .pointer (some ⟨g, j * k, none⟩)) (z : α) (hy : a.eval y = .agg (enc z).toArray)
  (h : ∀ W, ERow T k enc W g (l.set j z) -> w.grownBy W (some g) -> wpList Tryz.prog ops Q rest (a.put o.dst undef) W) : wpList Tryz.prog ops Q (o :: rest) a w := by
 have hs : (enc z).toArray.size = k := by rw [List.size_toArray, hk]
 refine wpList_store_mid g1 T x y ho g (j * k) (enc z).toArray hx hy (by rw [hs]; exact hr.there hj) (by rw [hi.sz, hs]) (all_oneCell_toArray (g0 z)) ?_
 exact h _ (hr.set hk hj z) (uk g _ _ w)
end
open Go.RowKit
def dE (d : List Int) : List Value := (List.range 32).map fun i => .int .u8 (d.getD i 0)
theorem xi (d : List Int) : (dE d).length = 32 := by simp [dE]
theorem zb3 (d : List Int) : ∀ u ∈ dE d, u.oneCell' = true := fun u hu => by
 unfold dE at hu
 obtain ⟨_, _, rfl⟩ := List.mem_map.1 hu
 rfl
theorem zg5 {d : List Int} (h : qj d) : dE d = zq d := by
 apply List.ext_getElem?
 intro i
 unfold dE zq
 rw [List.getElem?_map, List.getElem?_map]
 by_cases hi : i < 32
 ·rw [List.getElem?_range hi, List.getElem?_eq_getElem (show i < d.length by rw [h.1]; exact hi)]
  simp only [Option.map_some]
  rw [List.getD_eq_getElem?_getD, List.getElem?_eq_getElem (show i < d.length by rw [h.1]; exact hi)]
  rfl
 ·rw [List.getElem?_eq_none (by simpa using hi), List.getElem?_eq_none (by rw [h.1]; omega)]
  rfl
theorem zcm {d : List Int} (h : qj d) : (dE d).toArray = dcells d := by rw [zg5 h]; rfl
theorem zot : ∀ {l : List (List Int)}, (∀ d ∈ l, qj d) -> l.flatMap dE = l.flatMap zq
 | [], _ => rfl
 | d :: l, h => by rw [List.flatMap_cons, List.flatMap_cons, zg5 (h d (by simp)), zot (fun c hc => h c (List.mem_cons_of_mem _ hc))]
theorem zd5 : jp 26 32 32 := digIE3
theorem GRow.digs {w : World} {N : Nat} {v : Value} {l : List (List Int)} (h : GRow 26 32 dE w N v l) (hw : ∀ d ∈ l, qj d) : Digs w v l :=
 row_digs (by rw [← zot hw]; exact h) hw
theorem ERow.digs {w : World} {g cap : Nat} {l : List (List Int)} (h : ERow 26 32 dE w g l) (hw : ∀ d ∈ l, qj d) : Digs w (.slice (some ⟨g, 0, none⟩) l.length cap) l := by
 have h0 := h
 obtain ⟨cs, hg, _⟩ := h0
 refine ⟨_, cap, rfl, fun j hj => ⟨hw _ (List.getElem_mem hj), g, 0, rfl, ⟨_, _, hg⟩, fun i u hu => ?_⟩⟩
 rw [← zg5 (hw _ (List.getElem_mem hj))] at hu
 have := h.at xi hj i u hu
 rw [Nat.zero_add]; exact this
theorem zgo (w : World) (d : List Int) (h : qj d) : ∀ j u, (dE d)[j]? = some u -> (w.alloc (.cells (dcells d) 26)).cell? ⟨w.heap.size, j, none⟩ = some u := fun j u hu => by
 rw [World.cell?_alloc_new, ← zcm h]
 simpa using hu
theorem zfu {ops : Array Oper} {rest : List Oper} {o : Oper} {a : Act} {w : World} {Q : Exit -> Act -> World -> Prop} (g0 : o.guard = none) (y : Operand) (ho : o.op = .load 26 y)
  (g off : Nat) (hy : a.eval y = .pointer (some ⟨g, off, none⟩)) (d : List Int) (hd : qj d) (hr : w.rangeAt g off (zq d))
  (h : wpList Tryz.prog ops Q rest (a.put o.dst (.agg (dcells d))) w) : wpList Tryz.prog ops Q (o :: rest) a w :=
 wpList_load_mid g0 _ y ho g off hy (zq d) _ hr Tryz.underlying26 rfl (by rw [vd, zdg hd]) h
theorem zpk {ops : Array Oper} {rest : List Oper} {o : Oper} {a : Act} {w : World} {Q : Exit -> Act -> World -> Prop} (g0 : o.guard = none) (e1 : Operand) (ho : o.op = .buildSlice 55 1 #[(0, e1)]) (d : List Int) (hd : qj d) (h1 : a.eval e1 = .agg (dcells d))
  (h : wpList Tryz.prog ops Q rest (a.put o.dst (.slice (some ⟨w.heap.size, 0, none⟩) 1 1)) (w.alloc (.cells (dcells d) 26))) : wpList Tryz.prog ops Q (o :: rest) a w :=
 zc9 xi (by decide) (by decide) zd5 Tryz.underlying55 g0 e1 ho d (by rw [zcm hd]; exact h1) (by rw [zcm hd]; exact h)
theorem zfl {ops : Array Oper} {o : Oper} {a : Act} {w : World} {K : Act -> World -> Prop} {Q : Exit -> Act -> World -> Prop} {E : Prop} (g0 : o.guard = none) (e1 : Operand) (ho : o.op = .buildSlice 55 1 #[(0, e1)]) (d : List Int) (hd : qj d) (h1 : a.eval e1 = .agg (dcells d))
  (h : K (a.put o.dst (.slice (some ⟨w.heap.size, 0, none⟩) 1 1)) (w.alloc (.cells (dcells d) 26))) : if Region.wanted o (yielded ops a.tmps) = true then Oper.wp Tryz.prog o a w K Q else E :=
 znp xi (by decide) (by decide) zd5 Tryz.underlying55 g0 e1 ho d (by rw [zcm hd]; exact h1) (by rw [zcm hd]; exact h)
theorem zgm {ops : Array Oper} {o : Oper} {a : Act} {w : World} {K : Act -> World -> Prop} {Q : Exit -> Act -> World -> Prop} {E : Prop} {T : TypeId} {k bytes : Nat} (g1 : o.guard = none) (s x : Operand) {S : TypeId} (ho : o.op = .call { callee := .builtin .append, args := #[s, x], argTypes := #[S, S] }) (hu : Tryz.prog.underlying S = some (.slice T)) (hi : jp T k bytes)
  (N : Nat) (v : Value) {n : Nat} {xs : List Value} (g0 : w.ownsRow N T k v n xs) (hs : a.eval s = v) {c : Nat} (hx : a.eval x = .slice none 0 c)
  (h : K (a.put o.dst v) w) : if Region.wanted o (yielded ops a.tmps) = true then Oper.wp Tryz.prog o a w K Q else E := by
 rw [if_pos (by simp [Region.wanted, g1])]
 have hr := ze7 N S o.type hi hu v _ _ g0 c
 unfold Oper.wp execOp
 simp only [ho, resolve, invoke, builtin, Sem.run_bind, Sem.run_pure, Result.andThen_ok, List.map_toArray, List.map_cons, List.map_nil, hs, hx, hr]
 exact h
theorem zy0 {P : Prop} (h : P := by
 refine ⟨_, if_pos h, fun W hW j u hu => ?_⟩
 rw [List.drop_eq_nil_of_le (by omega)] at hu
 simp at hu) : P := h
theorem zqy {w : World} {g off cap : Nat} {l : List (List Int)} (hv : GSl 32 dE w (.slice (some ⟨g, off, none⟩) l.length cap) l) (hg : g < w.heap.size) (hc : l.length ≤ cap) (i : Nat) :
  ∃ ad : Addr, (if cap = i then some (⟨g, off, none⟩ : Addr) else some ⟨g, off + i * 32, none⟩) = some ad /\ ∀ W : World, Below w.heap.size w W -> ∀ j u, ((l.drop i).flatMap dE)[j]? = some u -> W.cell? (ad.add j) = some u := by
 by_cases h : cap = i
 ·exact zy0
 ·refine ⟨_, if_neg h, fun W hW j u hu => ?_⟩
  rw [Addr.add_mid]
  exact (hW.cell (p := ⟨g, off + i * 32 + j, none⟩) hg).trans (GSl.cells xi hv i j u hu)
theorem Digs.gsl {w : World} {v : Value} {l : List (List Int)} (h : Digs w v l) : GSl 32 dE w v l := by
 obtain ⟨a, cap, e, hc⟩ := h
 refine ⟨a, cap, e, fun j hj => ?_⟩
 obtain ⟨hd, b, off, ea, ⟨cs, fr, hb⟩, hr⟩ := hc j hj
 exact ⟨b, off, ea, (Array.getElem?_eq_some_iff.1 hb).1, fun i u hu => hr i u (by rw [← zg5 hd]; exact hu)⟩
def SlOk (w : World) (v : Value) (n : Nat) : Prop := v = .slice none 0 0 /\ n = 0 ∨ ∃ g off cap, v = .slice (some ⟨g, off, none⟩) n cap /\ g < w.heap.size /\ n ≤ cap
theorem SlOk.nil (w : World) : SlOk w (.slice none 0 0) 0 := .inl ⟨rfl, rfl⟩
theorem SlOk.below {w w' : World} {v : Value} {n : Nat} (h : SlOk w v n) (hb : w.heap.size ≤ w'.heap.size) : SlOk w' v n := by
 rcases h with h | ⟨g, off, cap, e, hg, hc⟩
 ·exact .inl h
 ·exact .inr ⟨g, off, cap, e, Nat.lt_of_lt_of_le hg hb, hc⟩
theorem GRow.slok {α : Type} {enc : α -> List Value} {k : Nat} {T : TypeId} {w : World} {N : Nat} {v : Value} {l : List α} (h : GRow T k enc w N v l) : SlOk w v l.length := by
 rcases h.2 with ⟨rfl, hn⟩ | ⟨g, cap, cur, rfl, _, hg, h1, _⟩
 ·exact .inl ⟨rfl, hn⟩
 ·exact .inr ⟨g, 0, cap, rfl, (Array.getElem?_eq_some_iff.1 hg).1, h1⟩
def Fresh (N : Nat) (v : Value) : Prop := ∀ g o n c, v = .slice (some ⟨g, o, none⟩) n c -> N ≤ g
theorem Fresh.nil (N : Nat) : Fresh N (.slice none 0 0) := fun g o n c h => by cases h
theorem Fresh.le {N M : Nat} {v : Value} (h : Fresh N v) (hM : M ≤ N) : Fresh M v := fun g o n c e => Nat.le_trans hM (h g o n c e)
theorem GRow.fresh {α : Type} {enc : α -> List Value} {k : Nat} {T : TypeId} {w : World} {N : Nat} {v : Value} {l : List α} (h : GRow T k enc w N v l) : Fresh N v := by
 rcases h.2 with ⟨rfl, hn⟩ | ⟨g, cap, cur, rfl, hN, hg, h1, _⟩
 ·exact Fresh.nil N
 ·intro g' o n c e
  cases e
  exact hN
theorem zzq {P : Prop} (h : P := by
 go_wp2
 go_roundw
 case rel => exact ⟨i + 1, _, HST.out, by omega, by go_num, HR9.out, HB9.out, HNN.out⟩
 case measure => simp [intOf]; omega) : P := h
theorem zz6 {P : Prop} (h : P := by
 go_wp2
 go_ret
 exact ⟨_, rfl, HRE.out.digs HFE.out, HRE.out.slok, .inr (HRE.out.fresh.le (Nat.le_of_lt HZ.out)), HBE.out⟩) : P := h
theorem z0q {P : Prop} (h : P := by
 rcases hsl with ⟨e, h0⟩ | ⟨g, off, cap, e, _, hc⟩
 ·omega
 ·rw [(Value.slice.inj e).2.2]; exact hc) : P := h
theorem zse (v : Value) (l : List (List Int)) (d : List Int) (w : World) (hv : Digs w v l) (hsl : SlOk w v l.length) (hd : qj d) (hl : l.length ≤ 1000) :
  Calls Tryz.prog 40 #[v, .agg (dcells d)] w fun e w' => ∃ u, e = .returned u /\ Digs w' u (V.addC V.cmpI l d) /\ SlOk w' u (V.addC V.cmpI l d).length /\ (u = v ∨ Fresh w.heap.size u) /\ Below w.heap.size w w' := by
 have HV := zwg hv
 have h6 := zwg hv.wf
 obtain ⟨va, vc, rfl, h7⟩ := hv
 have h8 := zwg hsl
 have h9 : l.length ≤ vc := by
  exact z0q
 obtain ⟨W0, hW0⟩ : ∃ W0, W0 = w.alloc (.cells (dcells d) 26) := ⟨_, rfl⟩
 have HB0 : Hid (Below w.heap.size w W0) := zwg (by rw [hW0]; exact (zwj _ w).alloc (zwi _) _)
 have K0 : Hid (W0.heap[w.heap.size]? = some (.cells (dcells d) 26 (0, 0))) := zwg (by rw [hW0]; exact heap_alloc_new w _)
 have HZ : Hid (w.heap.size < W0.heap.size) := zwg (by rw [hW0]; simp)
 have HAT := zwg h7
 have g1 := zwg hd
 have HW := zwg hW0
 have g6 := zwg (ziu K0.out)
 clear h7 hd hW0 hsl
 go_enter Tryz.func40, Tryz.ntmps40
 go_wp2_with (first | (rw [← HW.out]; refine zfu rfl _ rfl w.heap.size 0 rfl d g1.out g6.out ?_) | fail)
 refine (zvd (.slice va l.length vc) l d W0 (HV.out.below HB0.out) g1.out (by omega)).mono ?_
 rintro e w1 ⟨rfl, hb1⟩
 have HB1 := zwh HB0 hb1
 have j5 := zwg hb1
 clear hb1
 by_cases hm : d ∈ l
 ·rw [decide_eq_true hm]
  have HE : Hid (V.addC V.cmpI l d = l) := zwg (by unfold V.addC; rw [if_pos hm])
  clear hm
  go_wp2
  go_ret
  exact ⟨_, rfl, by rw [HE.out]; exact HV.out.below HB1.out, by rw [HE.out]; exact h8.out.below HB1.out.size, .inl rfl, HB1.out⟩
 ·rw [decide_eq_false hm]
  have HE : Hid (V.addC V.cmpI l d = V.insC V.cmpI d l) := zwg (by unfold V.addC; rw [if_neg hm])
  clear hm
  go_wp2
  go_loopw [5, 6] (fun ov iv wx => ∃ (i : Nat) (S : List (List Int)), S = l.take i /\ i ≤ l.length /\ iv = .int .i64 i /\ GRow 26 32 dE wx W0.heap.size ov S /\ Below W0.heap.size W0 wx /\ (∀ j (h : j < l.length), j < i -> V.cmpI l[j] d < 0)) (fun _ iv _ => l.length - (intOf iv).toNat)
  case atStart => exact ⟨0, [], rfl, Nat.zero_le _, rfl, GRow.nil _ _, j5.out, fun j _ hj => absurd hj (by omega)⟩
  case round =>
   obtain ⟨i, S, hS, hi, rfl, g9, h2, h3⟩ := hrel
   have HS := zwg hS
   have g4 : Hid (S.length ≤ 1000) := zwg (by rw [hS, List.length_take]; omega)
   have h1 := zwg g9
   have HBX := zwg h2
   have HLT := zwg h3
   obtain ⟨oa, oc, j7⟩ := g9.slice
   subst j7
   have HBW := zwh HB0 h2
   clear g9 h2 h3 hS
   by_cases hlt : i < l.length
   ·obtain ⟨j0, g, off, rfl, j1, hc⟩ := HAT.out i hlt
    have HX := zwg j0
    have HR := zwg (zk hc HBW.out)
    have j2 := zwg (zk g6.out HBX.out)
    have k2 : (0 : Int) ≤ (i : Int) := by omega
    have k3 : (i : Int) < (l.length : Int) := by omega
    have HST : Hid (S ++ [l[i]] = l.take (i + 1)) := zwg (by rw [HS.out]; exact (List.take_succ_eq_append_getElem hlt).symm)
    have HN : Hid (V.cmpI l[i] d < 0 -> ∀ j (h : j < l.length), j < i + 1 -> V.cmpI l[j] d < 0) := zwg (fun hn j h hj => by
      by_cases e : j = i
      · subst e; exact hn
      · exact HLT.out j h (by omega))
    have HF : Hid (¬ V.cmpI l[i] d < 0 -> V.addC V.cmpI l d = S ++ [d] ++ l.drop i) := zwg (fun hn => by rw [HE.out, V.zgj hi HLT.out (fun _ => hn), ← HS.out]; simp)
    have HG := zwg j1
    clear hc j0 j1
    generalize j3 : l[i] = x at *
    have k4 := zwg j3
    clear j3
    by_cases hls : V.cmpI x d < 0
    ·have HNN := zwg (HN.out hls)
     have g7 : decide (V.cmpI x d < 0) = true := decide_eq_true hls
     clear hls HF
     go_wp2_with fail
     refine wp_region_held_drew (S := (fun W' => Below wr.heap.size wr W')) (by kernel_rfl) ((zwj _ _).drew) (fun hHeld => ?_)
     refine tk 0 ?_
     refine tk 1 ?_
     refine tk 2 ?_
     refine tk 3 ?_
     refine tk 4 ?_
     refine tk 5 ?_
     refine tk 6 ?_
     refine tk 7 ?_
     refine tv 8 (.agg (dcells x)) ?_ ?_
     ·exact fun w' hSw => zbj rfl rfl HX.out (zk HR.out hSw)
     refine tv 9 (.agg (dcells d)) ?_ ?_
     ·exact fun w' hSw => zbj rfl rfl g1.out (zk j2.out hSw)
     refine rd 10 fun K hK => ?_
     go_simp
     refine (zl9 x d _ HX.out g1.out).mono ?_
     rintro e w7 ⟨rfl, hb7⟩
     try dsimp only
     refine hK.out _ _ ?_ (fun hHeld => nx ?_)
     ·(try dsimp only); exact hHeld.trans (hb7.mono hHeld.size)
     clear hK K
     refine tk 11 ?_
     refine wpAnyH_done (by kernel_rfl) ?_ _
     rw [g7]
     have HB7 := zwh HBX hHeld
     have h5 := zwg (GRow.below h1.out hHeld)
     have j8 := zwg (zk HR.out hHeld)
     clear hb7 hHeld g7
     have g0 : Hid (Below W0.heap.size W0 (w7.alloc (.cells (dcells x) 26))) := zwg (HB7.out.alloc HB7.out.size _)
     have g3 := zwg (GRow.below h5.out ((zwj w7.heap.size w7).alloc (zwi _) (.cells (dcells x) 26)))
     have HNW := zwg (zgo w7 x HX.out)
     go_wp2_with (first | (refine zfu rfl _ rfl g (off + i * 32) rfl x HX.out j8.out ?_) | (refine zpk rfl _ rfl x HX.out rfl ?_) | (refine yf xi (by decide) zb3 zd5 (by decide) rfl _ _ 55 rfl Tryz.underlying55 W0.heap.size _ S rfl g3.out w7.heap.size x rfl HNW.out (by have := g4.out; omega) g0.out.size ?_; intro v9 w9 hr9 j4) | fail)
     have HR9 := zwg hr9
     have HB9 := zwg (g0.out.trans (zx j4 (GRow.block g3.out) (zwi _) g0.out.size))
     clear hr9 j4
     exact zzq
    ·have HFF := zwg (HF.out hls)
     have g7 : decide (V.cmpI x d < 0) = false := decide_eq_false hls
     clear hls HF HN
     go_wp2_with fail
     refine wp_region_held_drew (S := (fun W' => Below wr.heap.size wr W')) (by kernel_rfl) ((zwj _ _).drew) (fun hHeld => ?_)
     refine tk 0 ?_
     refine tk 1 ?_
     refine tk 2 ?_
     refine tk 3 ?_
     refine tk 4 ?_
     refine tk 5 ?_
     refine tk 6 ?_
     refine tk 7 ?_
     refine tv 8 (.agg (dcells x)) ?_ ?_
     ·exact fun w' hSw => zbj rfl rfl HX.out (zk HR.out hSw)
     refine tv 9 (.agg (dcells d)) ?_ ?_
     ·exact fun w' hSw => zbj rfl rfl g1.out (zk j2.out hSw)
     refine rd 10 fun K hK => ?_
     go_simp
     refine (zl9 x d _ HX.out g1.out).mono ?_
     rintro e w7 ⟨rfl, hb7⟩
     try dsimp only
     refine hK.out _ _ ?_ (fun hHeld => nx ?_)
     ·(try dsimp only); exact hHeld.trans (hb7.mono hHeld.size)
     clear hK K
     refine tk 11 ?_
     refine wpAnyH_done (by kernel_rfl) ?_ _
     rw [g7]
     have g2 := zwh HBX hHeld
     have g5 := zwg (GRow.below h1.out hHeld)
     clear hb7 hHeld g7
     generalize w7 = wx at *
     obtain ⟨ad, j6, g8⟩ := zqy HV.out.gsl (by obtain ⟨cs, fr, hb⟩ := HG.out; exact (Array.getElem?_eq_some_iff.1 hb).1) h9 i
     have h4 : Hid (∀ W : World, Below W0.heap.size W0 W -> ∀ j u, ((l.drop i).flatMap dE)[j]? = some u -> W.cell? (ad.add j) = some u) := zwg (fun W hW => g8 W (HB0.out.trans (hW.mono HB0.out.size)))
     have j9 : (i : Int) ≤ (l.length : Int) := by omega
     have k0 : (i : Int).toNat = i := by omega
     have k1 : (l.length : Int) - (i : Int) = ((l.length - i : Nat) : Int) := by omega
     clear g8
     go_wp2_with fail
     refine wp_region_held_drew (S := (fun W' => Below W0.heap.size W0 W')) (by kernel_rfl) (g2.out.drew) (fun hHeld => ?_)
     refine tk 0 ?_
     refine tv 1 (.agg (dcells d)) ?_ ?_
     ·exact fun w' hSw => zbj rfl rfl g1.out (zk g6.out hSw)
     refine tk 4 ?_
     refine tk 5 ?_
     refine tk 6 ?_
     refine rd 2 fun K hK => ?_
     refine zfl rfl _ rfl d g1.out rfl ?_
     have g3 := zwg (GRow.below g5.out (((zwj wx.heap.size wx).drew).alloc (zwi _) (.cells (dcells d) 26)))
     have HNW := zwg (zgo wx.drew d g1.out)
     have g0 : Hid (Below W0.heap.size W0 (wx.drew.alloc (.cells (dcells d) 26))) := zwg (g2.out.drew.alloc g2.out.size _)
     refine hK.out _ _ ?_ (fun hHeld => nx ?_)
     ·(try dsimp only); exact g0.out
     clear hK K
     refine rd 3 fun K hK => ?_
     refine ja xi (by decide) zb3 zd5 (by decide) rfl _ _ 55 rfl Tryz.underlying55 W0.heap.size _ S rfl g3.out wx.heap.size d rfl HNW.out (by have := g4.out; omega) g0.out.size (fun v3 W3 hr3 hg3 => ?_)
     have HB3 := zwg (g0.out.trans (zx hg3 (GRow.block g3.out) (zwi _) g0.out.size))
     refine hK.out _ _ ?_ (fun hHeld => nx ?_)
     ·(try dsimp only); exact HB3.out
     clear hK K
     refine rd 7 fun K hK => ?_
     refine kg xi (by decide) zb3 zd5 (by decide) rfl _ _ 55 rfl Tryz.underlying55 W0.heap.size v3 (S ++ [d]) rfl hr3 ad (vc - i) (l.drop i) (l.length - i) (by simp) (by rfl) (h4.out _ HB3.out) (by have := g4.out; simp; omega) HB3.out.size (fun v4 W4 hr4 hg4 => ?_)
     have HB4 := zwg (HB3.out.trans (zx hg4 (GRow.block hr3) (zwi _) HB3.out.size))
     refine hK.out _ _ ?_ (fun hHeld => nx ?_)
     ·(try dsimp only); exact HB4.out
     clear hK K
     refine tk 8 ?_
     refine wpAnyH_done (by kernel_rfl) ?_ _
     have HBE := zwg (HB0.out.trans (HB4.out.mono HB0.out.size))
     have HRE := zwg hr4
     rw [← HFF.out] at HRE
     clear hr3 hg3 hr4 hg4 hHeld
     go_wp2
     go_ret
     exact ⟨_, rfl, HRE.out.digs (fun c hc => by
       rcases V.zjh.1 hc with h | rfl
       · exact h6.out c h
       · exact g1.out), HRE.out.slok, .inr (HRE.out.fresh.le (Nat.le_of_lt HZ.out)), HBE.out⟩
   ·obtain rfl : i = l.length := by omega
    have HFF : Hid (V.addC V.cmpI l d = S ++ [d] ++ l.drop l.length) := zwg (by rw [HE.out, V.zgj hi HLT.out (fun h => absurd h (Nat.lt_irrefl _)), ← HS.out]; simp)
    go_wp2_with fail
    refine wp_region_held_drew (S := (fun W' => Below wr.heap.size wr W')) (by kernel_rfl) ((zwj _ _).drew) (fun hHeld => ?_)
    refine tk 0 ?_
    refine tk 1 ?_
    refine tk 2 ?_
    refine tk 3 ?_
    refine tk 4 ?_
    refine tu 5 ?_
    refine tu 6 ?_
    refine tu 7 ?_
    refine tu 8 ?_
    refine tu 9 ?_
    refine tu 10 ?_
    refine tk 11 ?_
    refine wpAnyH_done (by kernel_rfl) ?_ _
    have g2 := zwg (HBX.out.drew)
    have g5 : Hid (GRow 26 32 dE wr.drew W0.heap.size (.slice oa S.length oc) S) := zwg (GRow.below h1.out (zwj _ wr).drew)
    clear hHeld
    generalize wr.drew = wx at *
    have HFE : Hid (∀ c ∈ V.addC V.cmpI l d, qj c) := zwg (fun c hc => by
      rcases V.zjh.1 hc with h | rfl
      · exact h6.out c h
      · exact g1.out)
    rcases h8.out with ⟨e, h0⟩ | ⟨g, off, cap, e, hg, hc⟩
    ·obtain ⟨e1, _, e3⟩ := Value.slice.inj e
     subst e1 e3
     obtain rfl : l = [] := List.eq_nil_of_length_eq_zero h0
     clear h0
     simp only [List.length_nil] at *
     go_wp2_with fail
     refine wp_region_held_drew (S := (fun W' => Below W0.heap.size W0 W')) (by kernel_rfl) (g2.out.drew) (fun hHeld => ?_)
     refine tk 0 ?_
     refine tv 1 (.agg (dcells d)) ?_ ?_
     ·exact fun w' hSw => zbj rfl rfl g1.out (zk g6.out hSw)
     refine tk 4 ?_
     refine tk 5 ?_
     refine tk 6 ?_
     refine rd 2 fun K hK => ?_
     refine zfl rfl _ rfl d g1.out rfl ?_
     have g3 := zwg (GRow.below g5.out (((zwj wx.heap.size wx).drew).alloc (zwi _) (.cells (dcells d) 26)))
     have HNW := zwg (zgo wx.drew d g1.out)
     have g0 : Hid (Below W0.heap.size W0 (wx.drew.alloc (.cells (dcells d) 26))) := zwg (g2.out.drew.alloc g2.out.size _)
     refine hK.out _ _ ?_ (fun hHeld => nx ?_)
     ·(try dsimp only); exact g0.out
     clear hK K
     refine rd 3 fun K hK => ?_
     refine ja xi (by decide) zb3 zd5 (by decide) rfl _ _ 55 rfl Tryz.underlying55 W0.heap.size _ S rfl g3.out wx.heap.size d rfl HNW.out (by have := g4.out; omega) g0.out.size (fun v3 W3 hr3 hg3 => ?_)
     have HB3 := zwg (g0.out.trans (zx hg3 (GRow.block g3.out) (zwi _) g0.out.size))
     refine hK.out _ _ ?_ (fun hHeld => nx ?_)
     ·(try dsimp only); exact HB3.out
     clear hK K
     refine rd 7 fun K hK => ?_
     refine zgm rfl _ _ rfl Tryz.underlying55 zd5 W0.heap.size v3 (by exact hr3) rfl rfl ?_
     refine hK.out _ _ ?_ (fun hHeld => nx ?_)
     ·(try dsimp only); exact HB3.out
     clear hK K
     refine tk 8 ?_
     refine wpAnyH_done (by kernel_rfl) ?_ _
     have HBE := zwg (HB0.out.trans (HB3.out.mono HB0.out.size))
     have HRE : Hid (GRow 26 32 dE W3 W0.heap.size v3 (V.addC V.cmpI [] d)) := zwg (by rw [HFF.out, List.drop_nil, List.append_nil]; exact hr3)
     clear hr3 hg3 hHeld
     exact zz6
    ·obtain ⟨e1, _, e3⟩ := Value.slice.inj e
     subst e1 e3
     clear e
     obtain ⟨ad, j6, g8⟩ := zqy HV.out.gsl hg h9 l.length
     have h4 : Hid (∀ W : World, Below W0.heap.size W0 W -> ∀ j u, ((l.drop l.length).flatMap dE)[j]? = some u -> W.cell? (ad.add j) = some u) := zwg (fun W hW => g8 W (HB0.out.trans (hW.mono HB0.out.size)))
     have j9 : (l.length : Int) ≤ (l.length : Int) := by omega
     have k0 : (l.length : Int).toNat = l.length := by omega
     have k1 : (l.length : Int) - (l.length : Int) = ((l.length - l.length : Nat) : Int) := by omega
     clear g8
     go_wp2_with fail
     refine wp_region_held_drew (S := (fun W' => Below W0.heap.size W0 W')) (by kernel_rfl) (g2.out.drew) (fun hHeld => ?_)
     refine tk 0 ?_
     refine tv 1 (.agg (dcells d)) ?_ ?_
     ·exact fun w' hSw => zbj rfl rfl g1.out (zk g6.out hSw)
     refine tk 4 ?_
     refine tk 5 ?_
     refine tk 6 ?_
     refine rd 2 fun K hK => ?_
     refine zfl rfl _ rfl d g1.out rfl ?_
     have g3 := zwg (GRow.below g5.out (((zwj wx.heap.size wx).drew).alloc (zwi _) (.cells (dcells d) 26)))
     have HNW := zwg (zgo wx.drew d g1.out)
     have g0 : Hid (Below W0.heap.size W0 (wx.drew.alloc (.cells (dcells d) 26))) := zwg (g2.out.drew.alloc g2.out.size _)
     refine hK.out _ _ ?_ (fun hHeld => nx ?_)
     ·(try dsimp only); exact g0.out
     clear hK K
     refine rd 3 fun K hK => ?_
     refine ja xi (by decide) zb3 zd5 (by decide) rfl _ _ 55 rfl Tryz.underlying55 W0.heap.size _ S rfl g3.out wx.heap.size d rfl HNW.out (by have := g4.out; omega) g0.out.size (fun v3 W3 hr3 hg3 => ?_)
     have HB3 := zwg (g0.out.trans (zx hg3 (GRow.block g3.out) (zwi _) g0.out.size))
     refine hK.out _ _ ?_ (fun hHeld => nx ?_)
     ·(try dsimp only); exact HB3.out
     clear hK K
     refine rd 7 fun K hK => ?_
     refine kg xi (by decide) zb3 zd5 (by decide) rfl _ _ 55 rfl Tryz.underlying55 W0.heap.size v3 (S ++ [d]) rfl hr3 ad (vc - l.length) (l.drop l.length) 0 (by simp) (by rfl) (h4.out _ HB3.out) (by have := g4.out; simp; omega) HB3.out.size (fun v4 W4 hr4 hg4 => ?_)
     have HB4 := zwg (HB3.out.trans (zx hg4 (GRow.block hr3) (zwi _) HB3.out.size))
     refine hK.out _ _ ?_ (fun hHeld => nx ?_)
     ·(try dsimp only); exact HB4.out
     clear hK K
     refine tk 8 ?_
     refine wpAnyH_done (by kernel_rfl) ?_ _
     have HBE := zwg (HB0.out.trans (HB4.out.mono HB0.out.size))
     have HRE := zwg hr4
     rw [← HFF.out] at HRE
     clear hr3 hg3 hr4 hg4 hHeld
     exact zz6
end Go.Proofs.YtbikeahmldobkaaGreatDoor
