/-
  Lemmas for the law.
-/
import Derived.Test.YtbikeahmldobkaaGreatDoorC41x26
import Derived.Test.YtbikeahmldobkaaGreatDoorC41x04
import Derived.Great.FillDense
import Derived.Great.BuildSlice
set_option linter.all false
namespace Go.Proofs.YtbikeahmldobkaaGreatDoor
open Go.RowKit
theorem ul {P : Program} {o : Oper} {ev : Operand -> Value} {w : World} {ty : TypeId} {x : Operand} {p v : Value} (ho : o.op = .load ty x) (hx : ev x = p) (h : (Instr.loadAt ty p).run P w = .ok v w) : (execOp ev o).run P w = .ok (.value v) w := by
 unfold execOp
 simp only [ho, hx, Sem.run_bind, h, Result.andThen_ok, Sem.run_pure]
theorem zkf {ops : Array Oper} {o : Oper} {a : Act} {w : World} {K : Act -> World -> Prop} {Q : Exit -> Act -> World -> Prop} {E : Prop} (hgd : o.guard = none) (v : Value) (he : (execOp a.eval o).run Tryz.prog w = .ok (.value v) w)
  (h : K (a.put o.dst v) w) : if Region.wanted o (yielded ops a.tmps) = true then Oper.wp Tryz.prog o a w K Q else E := by
 rw [if_pos (by simp [Region.wanted, hgd])]
 unfold Oper.wp
 rw [he]
 exact h
theorem zni {ops : Array Oper} {rest : List Oper} {o : Oper} {a : Act} {w : World} {Q : Exit -> Act -> World -> Prop} (hw : Region.wanted o (yielded ops a.tmps) = true) (v : Value) (he : (execOp a.eval o).run Tryz.prog w = .ok (.value v) w)
  (h : wpList Tryz.prog ops Q rest (a.put o.dst v) w) : wpList Tryz.prog ops Q (o :: rest) a w := by
 unfold wpList
 rw [if_pos hw]
 refine Or.inl ?_
 unfold Oper.wp
 rw [he]
 exact h
theorem zam {w : World} {g : Nat} {cs : Array Value} {t ty : TypeId} {fr : Nat × Nat} {d : TypeDesc} (hg : w.heap[g]? = some (.cells cs t fr)) (hu : Tryz.prog.underlying ty = some d) (hd : d.isRow = true) (hs : (Tryz.prog.info? ty).map (·.size) = some cs.size) : (Instr.loadAt ty (.pointer (some ⟨g, 0, none⟩))).run Tryz.prog w = .ok (.agg cs) w := by
 have := run_loadAt_mid w g 0 ty cs.toList d (fun i u hu => by rw [Nat.zero_add, cell_of_row w g i _ _ _ hg]; simpa using hu) hu hd (by simpa using hs)
 simpa using this
section
variable {α : Type} {enc : α -> List Value} {k : Nat} {T : TypeId}
theorem xg.sz {bytes : Nat} (h : xg T k bytes) : (Tryz.prog.info? T).map (·.size) = some k := by
 obtain ⟨i, z, hi, _, hs, _⟩ := h
 rw [hi, ← hs]; rfl
def ERow (T : TypeId) (k : Nat) (enc : α -> List Value) (w : World) (g : Nat) (l : List α) : Prop := ∃ cs, w.heap[g]? = some (.cells cs T (0, 0)) /\ l.length * k ≤ cs.size /\ ∀ i, i < l.length * k -> cs[i]? = (l.flatMap enc)[i]?
theorem ERow.lt {w : World} {g : Nat} {l : List α} (h : ERow T k enc w g l) : g < w.heap.size := by
 obtain ⟨cs, hg, _⟩ := h
 exact (Array.getElem?_eq_some_iff.1 hg).1
theorem ERow.at (hk : ∀ x, (enc x).length = k) {w : World} {g : Nat} {l : List α} (h : ERow T k enc w g l) {j : Nat} (hj : j < l.length) : w.rangeAt g (j * k) (enc l[j]) := fun i u hu => by
 obtain ⟨cs, hg, hs, hc⟩ := h
 have hi : i < k := by have := (List.getElem?_eq_some_iff.1 hu).1; rwa [hk] at this
 have hm : (j + 1) * k ≤ l.length * k := Nat.mul_le_mul_right k hj
 have e : (j + 1) * k = j * k + k := Nat.succ_mul j k
 rw [cell_of_row w g _ _ _ _ hg, hc _ (by omega), xx hk j hj i hi]
 exact hu
theorem ERow.below {w w' : World} {g : Nat} {l : List α} (h : ERow T k enc w g l) (hb : Below w.heap.size w w') : ERow T k enc w' g l := by
 have hlt := h.lt
 obtain ⟨cs, hg, hr⟩ := h
 exact ⟨cs, (hb.block g hlt).trans hg, hr⟩
theorem zra {P : Prop} (h : P := by
 exact ⟨by rw [cell_of_row w g _ _ _ _ hg, Array.getElem?_eq_getElem (by omega)]; rfl, yy hg⟩) : P := h
theorem ERow.there {w : World} {g : Nat} {l : List α} (h : ERow T k enc w g l) {j : Nat} (hj : j < l.length) : w.there g (j * k) k := fun i hi => by
 obtain ⟨cs, hg, hs, _⟩ := h
 have hm : (j + 1) * k ≤ l.length * k := Nat.mul_le_mul_right k hj
 have e : (j + 1) * k = j * k + k := Nat.succ_mul j k
 exact zra
theorem uq {g : Nat} {t : TypeId} {fr : Nat × Nat} : ∀ (vs : List Value) (o : Nat) (w : World) (cs : Array Value), w.heap[g]? = some (.cells cs t fr) ->
  ∃ cs', (w.setCells g o vs).heap[g]? = some (.cells cs' t fr) /\ cs'.size = cs.size /\ ∀ i, cs'[i]? = if o ≤ i /\ i < o + vs.length /\ i < cs.size then vs[i - o]? else cs[i]?
 | [], o, w, cs, h => ⟨cs, h, rfl, fun i => by rw [if_neg (by simp; omega)]⟩
 | v :: r, o, w, cs, h => by
  obtain ⟨cs', h1, h2, h3⟩ := uq r (o + 1) _ _ (zix o v h)
  refine ⟨cs', h1, by rw [h2]; simp, fun i => ?_⟩
  rw [h3]
  simp only [Array.size_setIfInBounds, List.length_cons]
  by_cases hi : i = o
  ·subst hi
   rw [if_neg (by omega), Array.getElem?_setIfInBounds]
   by_cases hs : i < cs.size
   ·rw [if_pos rfl, if_pos hs, if_pos ⟨by omega, by omega, hs⟩]
    simp
   ·rw [if_pos rfl, if_neg hs, if_neg (by omega)]
    exact (Array.getElem?_eq_none (by omega)).symm
  ·by_cases hb : o + 1 ≤ i /\ i < o + 1 + r.length /\ i < cs.size
   ·rw [if_pos hb, if_pos (by omega), show i - o = (i - (o + 1)) + 1 by omega]
    rfl
   ·rw [if_neg hb, if_neg (by omega), Array.getElem?_setIfInBounds_ne (by omega)]
theorem vp (w : World) (row : Option Nat) : w.grownBy w row := ⟨rfl, rfl, rfl, zpc _, fun _ _ _ => rfl⟩
theorem kz (g : Nat) : ∀ (vs : List Value) (o : Nat) (w : World), w.grownBy (w.setCells g o vs) (some g)
 | [], _, w => vp w _
 | v :: r, o, w => (za6 w g o v).trans (kz g r (o + 1) _)
theorem zfz (hk : ∀ x, (enc x).length = k) {l : List α} {i : Nat} (hi : i < l.length * k) : 0 < k /\ i / k < l.length /\ i = i / k * k + i % k /\ i % k < k := by
 have h0 : 0 < k := Nat.pos_of_ne_zero (fun h => by rw [h] at hi; simp at hi)
 exact ⟨h0, (Nat.div_lt_iff_lt_mul h0).2 hi, by rw [Nat.mul_comm]; exact (Nat.div_add_mod i k).symm, Nat.mod_lt _ h0⟩
theorem ERow.set (hk : ∀ x, (enc x).length = k) {w : World} {g : Nat} {l : List α} (h : ERow T k enc w g l) {j : Nat} (hj : j < l.length) (x : α) : ERow T k enc (w.setCells g (j * k) (enc x)) g (l.set j x) := by
 obtain ⟨cs, hg, hs, hc⟩ := h
 obtain ⟨cs', h1, h2, h3⟩ := uq (enc x) (j * k) w cs hg
 refine ⟨cs', h1, by rw [List.length_set, h2]; exact hs, fun i hi => ?_⟩
 rw [List.length_set] at hi
 obtain ⟨h0, hq, he, hr⟩ := zfz hk hi
 have hq' : i / k < (l.set j x).length := by rw [List.length_set]; exact hq
 rw [h3, hk]
 have hR : ((l.set j x).flatMap enc)[i]? = (enc (l.set j x)[i / k])[i % k]? := by
  conv => lhs; rw [he]
  exact xx hk (i / k) hq' (i % k) hr
 have hL : (l.flatMap enc)[i]? = (enc l[i / k])[i % k]? := by
  conv => lhs; rw [he]
  exact xx hk (i / k) hq (i % k) hr
 rw [hR, List.getElem_set]
 by_cases e : j = i / k
 ·rw [if_pos (by rw [e]; omega), if_pos e, show i - j * k = i % k by rw [e]; omega]
 ·rw [if_neg e, ← hL, ← hc i hi, if_neg]
  rintro ⟨q1, q2, _⟩
  apply e
  have m1 : j * k < (i / k + 1) * k := by rw [Nat.succ_mul]; omega
  have m2 : i / k * k < (j + 1) * k := by rw [Nat.succ_mul]; omega
  have := Nat.lt_of_mul_lt_mul_right m1
  have := Nat.lt_of_mul_lt_mul_right m2
  omega
theorem ERow.tail (hk : ∀ x, (enc x).length = k) {w : World} {g : Nat} {l : List α} (h : ERow T k enc w g l) {m : Nat} (hm : m ≤ l.length) (vs : List Value) : ERow T k enc (w.setCells g (m * k) vs) g (l.take m) := by
 obtain ⟨cs, hg, hs, hc⟩ := h
 obtain ⟨cs', h1, h2, h3⟩ := uq vs (m * k) w cs hg
 have hl : (l.take m).length = m := by rw [List.length_take]; omega
 have hmk : m * k ≤ l.length * k := Nat.mul_le_mul_right k hm
 refine ⟨cs', h1, by rw [hl, h2]; omega, fun i hi => ?_⟩
 rw [hl] at hi
 rw [h3, if_neg (by omega), hc i (by omega)]
 have e : l.flatMap enc = (l.take m).flatMap enc ++ (l.drop m).flatMap enc := by rw [← List.flatMap_append, List.take_append_drop]
 rw [e, List.getElem?_append_left (by rw [yw hk, hl]; exact hi)]
theorem GRow.row (hk : ∀ x, (enc x).length = k) {w : World} {N : Nat} {v : Value} {l : List α} (h : GRow T k enc w N v l) : v = .slice none 0 0 /\ l = [] ∨ ∃ g cap, v = .slice (some ⟨g, 0, none⟩) l.length cap /\ N ≤ g /\ l.length ≤ cap /\ ERow T k enc w g l := by
 rcases h.2 with ⟨rfl, hn⟩ | ⟨g, cap, cur, rfl, hN, hg, h1, h2, h3, h4⟩
 ·exact .inl ⟨rfl, List.eq_nil_of_length_eq_zero hn⟩
 ·have hm : l.length * k ≤ cap * k := Nat.mul_le_mul_right k h1
  refine .inr ⟨g, cap, rfl, hN, h1, cur, hg, by omega, fun i hi => ?_⟩
  rw [← h4, List.getElem?_take, if_pos hi]
  simp
theorem ERow.gsl (hk : ∀ x, (enc x).length = k) {w : World} {g cap : Nat} {l : List α} (h : ERow T k enc w g l) : GSl k enc w (.slice (some ⟨g, 0, none⟩) l.length cap) l :=
 ⟨_, cap, rfl, fun j hj => ⟨g, 0, rfl, h.lt, fun i u hu => by have := h.at hk hj i u hu; rw [Nat.zero_add]; exact this⟩⟩
theorem wl_loadT {ops : Array Oper} {rest : List Oper} {o : Oper} {a : Act} {w : World} {Q : Exit -> Act -> World -> Prop} (hk : ∀ x, (enc x).length = k) {bytes : Nat} (hi : xg T k bytes) {d : TypeDesc} (hu : Tryz.prog.underlying T = some d) (hd : d.isRow = true) (hgd : o.guard = none) (y : Operand) (ho : o.op = .load T y)
  (g off : Nat) (hy : a.eval y = .pointer (some ⟨g, off, none⟩)) (x : α) (hr : w.rangeAt g off (enc x))
  (h : wpList Tryz.prog ops Q rest (a.put o.dst (.agg (enc x).toArray)) w) : wpList Tryz.prog ops Q (o :: rest) a w :=
 wpList_load_mid hgd _ y ho g off hy (enc x) d hr hu hd (by rw [hi.sz, hk]) h
theorem zd5 {S : TypeId} (hk : ∀ x, (enc x).length = k) (hk0 : 0 < k) (hk9 : k ≤ 1000) {bytes : Nat} (hi : xg T k bytes) (hu : Tryz.prog.underlying S = some (.slice T)) (x : α) (w : World) :
  (Instr.buildSlice S 1 #[(0, .agg (enc x).toArray)]).run Tryz.prog w = .ok (.slice (some ⟨w.heap.size, 0, none⟩) 1 1) (w.alloc (.cells (enc x).toArray T)) := by
 obtain ⟨ie, z, hie, hz, hsz, _, hzc⟩ := hi
 have hf := Great.fill_whole (s := k) hk0 [Value.agg (enc x).toArray] ((Array.range (1 * ie.size)).map (z.cells[· % z.cells.size]!)) (fun v hv => by
   rcases List.mem_cons.1 hv with rfl | hv
   · show (enc x).toArray.size = k
     rw [List.size_toArray, hk]
   · cases hv) (by rw [hsz]; simp)
 refine run_buildSlice w S T 1 _ (enc x).toArray ie z hu hie hz (by rw [hsz]; omega) (by rw [hsz]; omega) ?_
 rw [hsz] at hf ⊢
 exact hf.trans (by simp [Value.cells])
theorem zmi {ops : Array Oper} {rest : List Oper} {o : Oper} {a : Act} {w : World} {Q : Exit -> Act -> World -> Prop} {S : TypeId} (hk : ∀ x, (enc x).length = k) (hk0 : 0 < k) (hk9 : k ≤ 1000) {bytes : Nat} (hi : xg T k bytes) (hu : Tryz.prog.underlying S = some (.slice T)) (hgd : o.guard = none) (e1 : Operand) (ho : o.op = .buildSlice S 1 #[(0, e1)])
  (x : α) (h1 : a.eval e1 = .agg (enc x).toArray)
  (h : wpList Tryz.prog ops Q rest (a.put o.dst (.slice (some ⟨w.heap.size, 0, none⟩) 1 1)) (w.alloc (.cells (enc x).toArray T))) : wpList Tryz.prog ops Q (o :: rest) a w := by
 refine wpList_plain hgd fun K hK => ?_
 unfold Oper.wp execOp
 have hb := zd5 (S := S) hk hk0 hk9 hi hu x w
 simp only [ho, List.map_toArray, List.map_cons, List.map_nil, h1, Sem.run_bind, hb, Result.andThen_ok, Sem.run_pure]
 exact hK _ _ h
theorem ziu {ops : Array Oper} {o : Oper} {a : Act} {w : World} {K : Act -> World -> Prop} {Q : Exit -> Act -> World -> Prop} {E : Prop} {S : TypeId} (hk : ∀ x, (enc x).length = k) (hk0 : 0 < k) (hk9 : k ≤ 1000) {bytes : Nat} (hi : xg T k bytes) (hu : Tryz.prog.underlying S = some (.slice T)) (hgd : o.guard = none) (e1 : Operand) (ho : o.op = .buildSlice S 1 #[(0, e1)])
  (x : α) (h1 : a.eval e1 = .agg (enc x).toArray)
  (h : K (a.put o.dst (.slice (some ⟨w.heap.size, 0, none⟩) 1 1)) (w.alloc (.cells (enc x).toArray T))) : if Region.wanted o (yielded ops a.tmps) = true then Oper.wp Tryz.prog o a w K Q else E := by
 rw [if_pos (by simp [Region.wanted, hgd])]
 unfold Oper.wp execOp
 have hb := zd5 (S := S) hk hk0 hk9 hi hu x w
 simp only [ho, List.map_toArray, List.map_cons, List.map_nil, h1, Sem.run_bind, hb, Result.andThen_ok, Sem.run_pure]
 exact h
theorem GSl.one {w : World} {b : Nat} {c : α} (hb : b < w.heap.size) (hc : ∀ j u, (enc c)[j]? = some u -> w.cell? ⟨b, j, none⟩ = some u) : GSl k enc w (.slice (some ⟨b, 0, none⟩) 1 1) [c] := by
 refine ⟨_, 1, rfl, fun j hj => ⟨b, 0, rfl, hb, fun i u hu => ?_⟩⟩
 have h0 : j = 0 := by simpa using hj
 subst h0
 rw [Nat.zero_add, Nat.zero_mul, Nat.zero_add]
 exact hc i u hu
theorem zbo {w : World} (N : Nat) (S ty : TypeId) {bytes : Nat} (hi : xg T k bytes) (hu : Tryz.prog.underlying S = some (.slice T)) (v : Value) (n : Nat) (xs : List Value) (hown : w.ownsRow N T k v n xs) (c : Nat) :
  (Builtin.append_ #[S, S] ty #[v, .slice none 0 c]).run Tryz.prog w = .ok v w := by
 obtain ⟨ie, z, hie, _⟩ := hi
 rcases hown.2 with ⟨rfl, rfl⟩ | ⟨g, cap, cur, rfl, _, _, hnc, _⟩
 ·simp [Builtin.append_, run_underlying hu, sizeOf, typeInfo, hie, Builtin.lenOf, Builtin.firstCells]
 ·simp [Builtin.append_, run_underlying hu, sizeOf, typeInfo, hie, Builtin.lenOf, Builtin.firstCells, hnc, storeCells]
theorem zj3 {w : World} (hk : ∀ x, (enc x).length = k) (hk0 : 0 < k) (h1c : ∀ x, ∀ u ∈ enc x, u.oneCell' = true) {bytes : Nat} (hi : xg T k bytes) (hby : bytes ≤ 1000) (S ty : TypeId) (hu : Tryz.prog.underlying S = some (.slice T))
  (N : Nat) (v : Value) (l : List α) (hown : GRow T k enc w N v l) (u : Value) (ys : List α) (hy : GSl k enc w u ys) (hl : l.length + ys.length ≤ 1000000) (hN : N ≤ w.heap.size) :
  ∃ v' w', (Builtin.append_ #[S, S] ty #[v, u]).run Tryz.prog w = .ok v' w' /\ GRow T k enc w' N v' (l ++ ys) /\ w.grownBy w' v.ownBlock /\ (v'.ownBlock = v.ownBlock ∨ v'.ownBlock = some w.heap.size) := by
 obtain ⟨a, c, rfl⟩ := hy.slice
 rcases a with _ | ad
 ·have hn : ys = [] := by
   cases ys with
   | nil => rfl
   | cons y r => obtain ⟨g, off, e, _⟩ := hy.at 0 (by simp); cases e
  subst hn
  exact ⟨v, w, zbo N S ty hi hu v _ _ hown c, by rw [List.append_nil]; exact hown, vp w _, .inl rfl⟩
 ·obtain ⟨ie, z, hie, hz, h1, h2, h3⟩ := hi
  obtain ⟨v', w', hr', ho', hg, _, hob⟩ := run_append_own_at (P := Tryz.prog) w N S ty T ie z k bytes hu hie hz h1 h2 h3 hk0 v l.length (l.flatMap enc) hown ad ys.length c (ys.flatMap enc) (yw hk ys) (fun j u hu => by
    have hj := (List.getElem?_eq_some_iff.1 hu).1
    rw [yw hk] at hj
    obtain ⟨h0, hq, he, hr⟩ := zfz hk hj
    obtain ⟨g, off, e, hg, hc⟩ := hy.at (j / k) hq
    cases e
    rw [he, xx hk (j / k) hq (j % k) hr] at hu
    rw [Addr.add_mid]
    have := hc _ _ hu
    rw [show off + j = off + j / k * k + j % k by omega]
    exact this) (fun u hu => by
      obtain ⟨y, _, hy⟩ := List.mem_flatMap.1 hu
      exact h1c y u hy) (by unfold maxLen; omega) (by
        have : (l.length + ys.length) * bytes ≤ 1000000 * 1000 := Nat.mul_le_mul hl hby
        omega) hN
  refine ⟨v', w', hr', ?_, hg, hob⟩
  unfold GRow
  rw [List.length_append, List.flatMap_append]
  exact ho'
theorem ud {ops : Array Oper} {rest : List Oper} {o : Oper} {a : Act} {w : World} {Q : Exit -> Act -> World -> Prop} (hk : ∀ x, (enc x).length = k) (hk0 : 0 < k) (h1c : ∀ x, ∀ u ∈ enc x, u.oneCell' = true) {bytes : Nat} (hi : xg T k bytes) (hby : bytes ≤ 1000) (hgd : o.guard = none) (s x : Operand) (S : TypeId)
  (ho : o.op = .call { callee := .builtin .append, args := #[s, x], argTypes := #[S, S] }) (hu : Tryz.prog.underlying S = some (.slice T))
  (N : Nat) (v : Value) (l : List α) (hs : a.eval s = v) (hown : GRow T k enc w N v l) (u : Value) (ys : List α) (hx : a.eval x = u) (hy : GSl k enc w u ys) (hl : l.length + ys.length ≤ 1000000) (hN : N ≤ w.heap.size)
  (h : ∀ v' w', GRow T k enc w' N v' (l ++ ys) -> w.grownBy w' v.ownBlock -> (v'.ownBlock = v.ownBlock ∨ v'.ownBlock = some w.heap.size) -> wpList Tryz.prog ops Q rest (a.put o.dst v') w') : wpList Tryz.prog ops Q (o :: rest) a w := by
 refine wpList_plain hgd fun K hK => ?_
 obtain ⟨v', w', hr, h2, h3, h4⟩ := zj3 hk hk0 h1c hi hby S o.type hu N v l hown u ys hy hl hN
 unfold Oper.wp execOp
 simp only [ho, resolve, invoke, builtin, Sem.run_bind, Sem.run_pure, Result.andThen_ok, List.map_toArray, List.map_cons, List.map_nil, hs, hx, hr]
 exact hK _ _ (h v' w' h2 h3 h4)
theorem zbc {ops : Array Oper} {o : Oper} {a : Act} {w : World} {K : Act -> World -> Prop} {Q : Exit -> Act -> World -> Prop} {E : Prop} (hgd : o.guard = none) (ty : TypeId) (x y : Operand) (ho : o.op = .store ty x y)
  (g off : Nat) (old : Array Value) (t : TypeId) (hg : w.heap[g]? = some (.cells old t (0, 0))) (hoff : off < old.size) (hx : a.eval x = .pointer (some ⟨g, off, none⟩)) (v : Value) (hy : a.eval y = v) (hi : (Tryz.prog.info? ty).map (·.size) = some 1) (h1 : v.oneCell' = true)
  (h : ∀ W, PutAt w W g (old.setIfInBounds off v) t -> K (a.put o.dst undef) W) : if Region.wanted o (yielded ops a.tmps) = true then Oper.wp Tryz.prog o a w K Q else E := by
 rw [if_pos (by simp [Region.wanted, hgd])]
 have hc : w.cell? ⟨g, off, none⟩ = some old[off] := by rw [cell_of_row w g off _ _ _ hg, Array.getElem?_eq_getElem hoff]
 have hr : (Instr.storeAt ty (.pointer (some ⟨g, off, none⟩)) v).run Tryz.prog w = .ok () (w.setCell ⟨g, off, none⟩ v) := by
  have := zlp (P := Tryz.prog) hc (yy hg) hi h1
  simp only [Instr.storeAt, Instr.sureAddr, Sem.run_bind, Sem.run_pure, Result.andThen_ok, this]
 unfold Oper.wp execOp
 simp only [ho, hx, hy, Sem.run_bind, hr, Result.andThen_ok, Sem.run_pure]
 exact h _ (zhv hg v)
theorem znf {ops : Array Oper} {rest : List Oper} {o : Oper} {a : Act} {w : World} {Q : Exit -> Act -> World -> Prop} (hk : ∀ x, (enc x).length = k) (h1c : ∀ x, ∀ u ∈ enc x, u.oneCell' = true) {bytes : Nat} (hi : xg T k bytes) (hgd : o.guard = none) (x y : Operand) (ho : o.op = .store T x y)
  (g : Nat) (l : List α) (hr : ERow T k enc w g l) (j : Nat) (hj : j < l.length) (hx : a.eval x = .pointer (some ⟨g, j * k, none⟩)) (z : α) (hy : a.eval y = .agg (enc z).toArray)
  (h : ∀ W, ERow T k enc W g (l.set j z) -> w.grownBy W (some g) -> wpList Tryz.prog ops Q rest (a.put o.dst undef) W) : wpList Tryz.prog ops Q (o :: rest) a w := by
 have hs : (enc z).toArray.size = k := by rw [List.size_toArray, hk]
 refine wpList_store_mid hgd T x y ho g (j * k) (enc z).toArray hx hy (by rw [hs]; exact hr.there hj) (by rw [hi.sz, hs]) (all_oneCell_toArray (h1c z)) ?_
 exact h _ (hr.set hk hj z) (kz g _ _ w)
end
end Go.Proofs.YtbikeahmldobkaaGreatDoor
