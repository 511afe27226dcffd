/-
  Lemmas for the law.
-/
import Derived.Test.YtbikeahmldobkaaGreatDoorC41x21
import Derived.Test.YtbikeahmldobkaaGreatDoorC41x04
import Derived.Laws.AppendOwn
import Derived.OwnWalk
import Derived.Maps.AppendAt
import Derived.Deep.MidRow
import Derived.Laws.Rows
import Derived.Laws.Entries
import Derived.Lib.Builder
import Derived.Lib.ItoaNum
import Derived.Sort.Grow
set_option linter.all false
namespace Go.Proofs.YtbikeahmldobkaaGreatDoor
open Go.RowKit
theorem zaz (x : V.Bs) : (ByteArray.mk x.toArray).data.toList = x := by simp
theorem ziq (x : V.Bs) : (ByteArray.mk x.toArray).size = x.length := by simp [ByteArray.size]
open Go.RowKit
section
variable {α : Type} {enc : α -> List Value} {k : Nat}
theorem xx (hk : ∀ x, (enc x).length = k) : ∀ {l : List α} (j : Nat) (h : j < l.length) (i : Nat), i < k -> (l.flatMap enc)[j * k + i]? = (enc l[j])[i]?
 | [], j, h, _, _ => by simp at h
 | c :: l, 0, _, i, hi => by
  rw [List.flatMap_cons, List.getElem?_append_left (by rw [hk]; omega)]
  simp
 | c :: l, j + 1, h, i, hi => by
  have hl := hk c
  have e : (j + 1) * k = j * k + k := Nat.succ_mul j k
  rw [List.flatMap_cons, List.getElem?_append_right (by rw [hl]; omega), hl, show (j + 1) * k + i - k = j * k + i by omega]
  rw [xx hk j (by simpa using h) i hi]
  simp
theorem yw (hk : ∀ x, (enc x).length = k) : ∀ (l : List α), (l.flatMap enc).length = l.length * k
 | [] => by simp
 | c :: l => by
  have e : (l.length + 1) * k = l.length * k + k := Nat.succ_mul _ k
  rw [List.flatMap_cons, List.length_append, hk, yw hk l, List.length_cons]
  omega
def GRow (T : TypeId) (k : Nat) (enc : α -> List Value) (w : World) (N : Nat) (v : Value) (l : List α) : Prop := w.ownsRow N T k v l.length (l.flatMap enc)
variable {T : TypeId}
theorem GRow.nil (w : World) (N : Nat) : GRow T k enc w N (.slice none 0 0) [] := ⟨by simp, .inl ⟨rfl, rfl⟩⟩
theorem zsa {P : Prop} (h : P := by
 rcases h.2 with ⟨rfl, hn⟩ | ⟨g, cap, cur, rfl, _⟩
 ·exact ⟨none, 0, by rw [hn]⟩
 ·exact ⟨_, cap, rfl⟩) : P := h
theorem GRow.slice {w : World} {N : Nat} {v : Value} {l : List α} (h : GRow T k enc w N v l) : ∃ a cap, v = .slice a l.length cap := by
 exact zsa
theorem zn9 {w : World} {g i : Nat} {cur : Array Value} {fr : Nat × Nat} (hg : w.heap[g]? = some (.cells cur T fr)) : w.cell? ⟨g, i, none⟩ = cur[i]? := by
 unfold World.cell?
 rw [hg]
 rfl
theorem GRow.at (hk : ∀ x, (enc x).length = k) {w : World} {N : Nat} {v : Value} {l : List α} (h : GRow T k enc w N v l) (j : Nat) (hj : j < l.length) :
  ∃ g cap, v = .slice (some ⟨g, 0, none⟩) l.length cap /\ N ≤ g /\ g < w.heap.size /\ ∀ i u, (enc l[j])[i]? = some u -> w.cell? ⟨g, j * k + i, none⟩ = some u := by
 rcases h.2 with ⟨rfl, hn⟩ | ⟨g, cap, cur, rfl, hb, hg, hnc, hm, hsz, htk⟩
 ·omega
 ·refine ⟨g, cap, rfl, hb, (Array.getElem?_eq_some_iff.1 hg).1, fun i u hu => ?_⟩
  have hi : i < k := by
   have := (List.getElem?_eq_some_iff.1 hu).1
   rwa [hk] at this
  rw [zn9 hg]
  have h1 := xx hk j hj i hi
  rw [hu, ← htk, List.getElem?_take] at h1
  split at h1
  ·simpa using h1
  ·cases h1
theorem GRow.kept {w w' : World} {N : Nat} {v : Value} {l : List α} (h : GRow T k enc w N v l) {row : Option Nat} (hg : w.grownBy w' row) (hr : ∀ b, row = some b -> b < N) : GRow T k enc w' N v l := by
 refine ⟨h.1, ?_⟩
 rcases h.2 with h | ⟨g, cap, cur, rfl, hb, hgg, rest⟩
 ·exact .inl h
 ·refine .inr ⟨g, cap, cur, rfl, hb, ?_, rest⟩
  rw [hg.block g (Array.getElem?_eq_some_iff.1 hgg).1 (fun e => by have := hr g e.symm; omega)]
  exact hgg
theorem GRow.below {w w' : World} {N : Nat} {v : Value} {l : List α} (h : GRow T k enc w N v l) (hb : Below w.heap.size w w') : GRow T k enc w' N v l :=
 h.kept (row := none) ⟨hb.os, hb.tape, hb.output, hb.size, fun k hk _ => hb.block k hk⟩ (fun b e => by cases e)
theorem zr6 {P : Prop} (h : P := by
 intro b hb
 rcases h.2 with ⟨rfl, _⟩ | ⟨g, cap, cur, rfl, hbb, _⟩
 ·cases hb
 ·simp [Value.ownBlock] at hb; omega) : P := h
theorem GRow.block {w : World} {N : Nat} {v : Value} {l : List α} (h : GRow T k enc w N v l) : ∀ b, v.ownBlock = some b -> N ≤ b := by
 exact zr6
theorem qi {w w' : World} {N B : Nat} {v : Value} (h : w.grownBy w' v.ownBlock) (hv : ∀ b, v.ownBlock = some b -> N ≤ b) (hBN : B ≤ N) (hB : N ≤ w.heap.size) : Below B w w' :=
 ⟨h.os, h.tape, h.output, h.size, fun k hk => h.block k (by omega) (fun e => by have := hv k e.symm; omega)⟩
theorem GRow.lt {w : World} {N : Nat} {v : Value} {l : List α} (h : GRow T k enc w N v l) : ∀ b, v.ownBlock = some b -> b < w.heap.size := fun b hb => (World.ownsRow.lt h b hb).2
def xg (T : TypeId) (k bytes : Nat) : Prop := ∃ i z, Tryz.prog.info? T = some i /\ i.zero = some z /\ i.size = k /\ i.bytes = bytes /\ z.cells.size = k
theorem zfu {ops : Array Oper} {rest : List Oper} {o : Oper} {a : Act} {w : World} {Q : Exit -> Act -> World -> Prop} (hk : ∀ x, (enc x).length = k) (hk0 : 0 < k) (h1c : ∀ x, ∀ u ∈ enc x, u.oneCell' = true) {bytes : Nat} (hi : xg T k bytes) (hby : bytes ≤ 1000) (hgd : o.guard = none) (s x : Operand) (S : TypeId)
  (ho : o.op = .call { callee := .builtin .append, args := #[s, x], argTypes := #[S, S] }) (hu : Tryz.prog.underlying S = some (.slice T))
  (N : Nat) (v : Value) (l : List α) (hs : a.eval s = v) (hown : GRow T k enc w N v l) (b : Nat) (c : α) (hx : a.eval x = .slice (some ⟨b, 0, none⟩) 1 1) (hr : ∀ j u, (enc c)[j]? = some u -> w.cell? ⟨b, j, none⟩ = some u) (hl : l.length ≤ 1000000) (hN : N ≤ w.heap.size)
  (h : ∀ v' w', GRow T k enc w' N v' (l ++ [c]) -> w.grownBy w' v.ownBlock -> wpList Tryz.prog ops Q rest (a.put o.dst v') w') : wpList Tryz.prog ops Q (o :: rest) a w := by
 obtain ⟨ie, z, hie, hz, h1, h2, h3⟩ := hi
 refine wpList_append_own w hgd s x S ho N T ie z k bytes hu hie hz h1 h2 h3 hk0 v l.length (l.flatMap enc) hs hown ⟨b, 0, none⟩ 1 1 (enc c) hx (by rw [hk]; omega) ?_ (h1c c) (by unfold maxLen; omega) ?_ hN ?_
 ·intro j u hj
  rw [Addr.add_mid, Nat.zero_add]
  exact hr j u hj
 ·have : (l.length + 1) * bytes ≤ 1000001 * 1000 := Nat.mul_le_mul (by omega) hby
  omega
 ·intro v' w' ho' hg _
  refine h v' w' ?_ hg
  unfold GRow
  rw [List.length_append, List.flatMap_append]
  simpa using ho'
end
open Go.RowKit
structure PutAt (w W : World) (g : Nat) (new : Array Value) (t : TypeId) : Prop where
 here : W.heap[g]? = some (.cells new t (0, 0))
 size : W.heap.size = w.heap.size
 grown : w.grownBy W (some g)
theorem PutAt.below {w w0 W : World} {g B : Nat} {new : Array Value} {t : TypeId} (h : PutAt w W g new t) (hb : Below B w0 w) (hg : B ≤ g) : Below B w0 W :=
 hb.trans ⟨h.grown.os, h.grown.tape, h.grown.output, h.grown.size, fun k hk => h.grown.block k (by
   by_cases e : k < w.heap.size
   · exact e
   · have : w.heap[k]? = none := Array.getElem?_eq_none (by omega)
     have h2 : W.heap[k]? = none := Array.getElem?_eq_none (by rw [h.size]; omega)
     exfalso
     have := (Array.getElem?_eq_some_iff.1 h.here).1
     rw [h.size] at this
     omega) (fun e => by cases e; omega)⟩
theorem PutAt.other {w W : World} {g i : Nat} {new : Array Value} {t : TypeId} {o : Obj} (h : PutAt w W g new t) (hi : w.heap[i]? = some o) (hne : i ≠ g) : W.heap[i]? = some o :=
 (h.grown.block i (Array.getElem?_eq_some_iff.1 hi).1 (fun e => hne (by cases e; rfl))).trans hi
theorem PutAt.cell {w W : World} {g b o : Nat} {new : Array Value} {t : TypeId} {u : Value} (h : PutAt w W g new t) (hc : w.cell? ⟨b, o, none⟩ = some u) (hne : b ≠ g) : W.cell? ⟨b, o, none⟩ = some u :=
 h.grown.cell hc (fun e => hne (by cases e; rfl))
theorem zhv {w : World} {g o : Nat} {old : Array Value} {t : TypeId} (hg : w.heap[g]? = some (.cells old t (0, 0))) (v : Value) : PutAt w (w.setCell ⟨g, o, none⟩ v) g (old.setIfInBounds o v) t :=
 ⟨heap_setCell_same w g o old t v hg, by simp [World.setCell], ⟨rfl, rfl, rfl, by simp [World.setCell], fun k _ hk => Below.heap_setCell _ _ _ _ (fun e => hk (by rw [e]))⟩⟩
theorem zlp {P : Program} {w : World} {b o : Nat} {ty : TypeId} {v u : Value} (hc : w.cell? ⟨b, o, none⟩ = some u) (hf : w.frozen? ⟨b, o, none⟩ = false) (hi : (P.info? ty).map (·.size) = some 1) (h1 : v.oneCell' = true) :
  (storeVar ty ⟨b, o, none⟩ v).run P w = .ok () (w.setCell ⟨b, o, none⟩ v) := by
 have := run_storeCells_cells (P := P) b o [v] 0 w (fun j hj => by obtain rfl : j = 0 := by simpa using hj
                                                                   simp [hc]) (fun j hj => by obtain rfl : j = 0 := by simpa using hj
                                                                                              simp [hf]) (fun x hx => by simp at hx; subst hx; exact h1)
 have hcs : v.cells = #[v] := by cases v <;> first | rfl | cases h1
 cases hq : P.info? ty with
 | none => simp [hq] at hi
 | some i =>
  have hs : i.size = 1 := by simpa [hq] using hi
  simp only [Nat.add_zero] at this
  simp [storeVar, sizeOf, typeInfo, hq, hcs, hs, this]
  rfl
theorem zif {ops : Array Oper} {rest : List Oper} {o : Oper} {a : Act} {w : World} {Q : Exit -> Act -> World -> Prop} (hgd : o.guard = none) (ty : TypeId) (x y : Operand) (ho : o.op = .store ty x y)
  (g off : Nat) (old : Array Value) (t : TypeId) (hg : w.heap[g]? = some (.cells old t (0, 0))) (hoff : off < old.size) (hx : a.eval x = .pointer (some ⟨g, off, none⟩)) (v : Value) (hy : a.eval y = v) (hi : (Tryz.prog.info? ty).map (·.size) = some 1) (h1 : v.oneCell' = true)
  (h : ∀ W, PutAt w W g (old.setIfInBounds off v) t -> wpList Tryz.prog ops Q rest (a.put o.dst undef) W) : wpList Tryz.prog ops Q (o :: rest) a w :=
 wpList_plain hgd fun K hK => by
  have hc : w.cell? ⟨g, off, none⟩ = some old[off] := by rw [zo9 hg, Array.getElem?_eq_getElem hoff]
  unfold Oper.wp execOp
  simp only [ho, hx, hy, Instr.storeAt, Instr.sureAddr, Sem.run_bind, Sem.run_pure, Result.andThen_ok, zlp hc (Lib.frozen_of_heap hg off) hi h1]
  exact hK _ _ (h _ (zhv hg v))
section
variable {α : Type} {enc : α -> List Value} {k : Nat} {T : TypeId}
def GSl (k : Nat) (enc : α -> List Value) (w : World) (v : Value) (l : List α) : Prop := ∃ a cap, v = .slice a l.length cap /\ ∀ j (h : j < l.length), ∃ g off, a = some ⟨g, off, none⟩ /\ g < w.heap.size /\ ∀ i u, (enc l[j])[i]? = some u -> w.cell? ⟨g, off + j * k + i, none⟩ = some u
theorem GSl.slice {w : World} {v : Value} {l : List α} (h : GSl k enc w v l) : ∃ a cap, v = .slice a l.length cap := by
 obtain ⟨a, c, e, _⟩ := h
 exact ⟨a, c, e⟩
theorem GSl.below {w w' : World} {v : Value} {l : List α} (h : GSl k enc w v l) (hb : Below w.heap.size w w') : GSl k enc w' v l := by
 obtain ⟨a, cap, e, hc⟩ := h
 refine ⟨a, cap, e, fun j hj => ?_⟩
 obtain ⟨g, off, ea, hlt, hcell⟩ := hc j hj
 exact ⟨g, off, ea, Nat.lt_of_lt_of_le hlt hb.size, fun i u hu => (hb.cell (p := ⟨g, off + j * k + i, none⟩) hlt).trans (hcell i u hu)⟩
theorem GSl.at {w : World} {a : Option Addr} {n cap : Nat} {l : List α} (h : GSl k enc w (.slice a n cap) l) (j : Nat) (hj : j < l.length) : ∃ g off, a = some ⟨g, off, none⟩ /\ g < w.heap.size /\ ∀ i u, (enc l[j])[i]? = some u -> w.cell? ⟨g, off + j * k + i, none⟩ = some u := by
 obtain ⟨a', c, e, hc⟩ := h
 obtain ⟨g, off, ea, hb, hcell⟩ := hc j hj
 cases e
 exact ⟨g, off, ea, hb, hcell⟩
theorem GRow.gsl (hk : ∀ x, (enc x).length = k) {w : World} {N : Nat} {v : Value} {l : List α} (h : GRow T k enc w N v l) : GSl k enc w v l := by
 obtain ⟨a, cap, rfl⟩ := GRow.slice h
 refine ⟨a, cap, rfl, fun j hj => ?_⟩
 obtain ⟨g, c, e, _, hlt, hc⟩ := GRow.at hk h j hj
 cases e
 exact ⟨g, 0, rfl, hlt, fun i u hu => by rw [Nat.zero_add]; exact hc i u hu⟩
theorem GSl.cells (hk : ∀ x, (enc x).length = k) {w : World} {g off n cap : Nat} {l : List α} (h : GSl k enc w (.slice (some ⟨g, off, none⟩) n cap) l) (i : Nat) : ∀ j u, ((l.drop i).flatMap enc)[j]? = some u -> w.cell? ⟨g, off + i * k + j, none⟩ = some u := by
 intro j u hu
 have hlen := (List.getElem?_eq_some_iff.1 hu).1
 rw [yw hk] at hlen
 have hk0 : 0 < k := by
  rcases Nat.eq_zero_or_pos k with h0 | h0
  ·rw [h0, Nat.mul_zero] at hlen; omega
  ·exact h0
 have hdiv : j / k < (l.drop i).length := (Nat.div_lt_iff_lt_mul hk0).2 hlen
 have hmod := Nat.mod_lt j hk0
 have hsum : j = (j / k) * k + j % k := by rw [Nat.mul_comm]; exact (Nat.div_add_mod j k).symm
 rw [hsum, xx hk _ hdiv _ hmod] at hu
 have hi : i + j / k < l.length := by rw [List.length_drop] at hdiv; exact Nat.add_lt_of_lt_sub' hdiv
 rw [List.getElem_drop] at hu
 obtain ⟨g', off', e, hlt, hc⟩ := h.at (i + j / k) hi
 cases e
 have := hc (j % k) u hu
 rw [show off + (i + j / k) * k + j % k = off + i * k + j by
   rw [Nat.add_mul]
   have h2 := hsum
   generalize j / k * k = A at *
   generalize j % k = B at *
   generalize i * k = C at *
   omega] at this
 exact this
theorem xi {ops : Array Oper} {o : Oper} {a : Act} {w : World} {K : Act -> World -> Prop} {Q : Exit -> Act -> World -> Prop} {E : Prop} (hk : ∀ x, (enc x).length = k) (hk0 : 0 < k) (h1c : ∀ x, ∀ u ∈ enc x, u.oneCell' = true) {bytes : Nat} (hi : xg T k bytes) (hby : bytes ≤ 1000) (hgd : o.guard = none) (s x : Operand) (S : TypeId)
  (ho : o.op = .call { callee := .builtin .append, args := #[s, x], argTypes := #[S, S] }) (hu : Tryz.prog.underlying S = some (.slice T))
  (N : Nat) (v : Value) (l : List α) (hs : a.eval s = v) (hown : GRow T k enc w N v l) (ad : Addr) (c : Nat) (ys : List α) (m : Nat) (hm : ys.length = m) (hx : a.eval x = .slice (some ad) m c) (hr : ∀ j u, (ys.flatMap enc)[j]? = some u -> w.cell? (ad.add j) = some u) (hl : l.length + ys.length ≤ 1000000) (hN : N ≤ w.heap.size)
  (h : ∀ v' w', GRow T k enc w' N v' (l ++ ys) -> w.grownBy w' v.ownBlock -> K (a.put o.dst v') w') : if Region.wanted o (yielded ops a.tmps) = true then Oper.wp Tryz.prog o a w K Q else E := by
 rw [if_pos (by simp [Region.wanted, hgd])]
 subst hm
 obtain ⟨ie, z, hie, hz, h1, h2, h3⟩ := hi
 obtain ⟨v', w', hr', ho', hg, _⟩ := run_append_own (P := Tryz.prog) w N S o.type T ie z k bytes hu hie hz h1 h2 h3 hk0 v l.length (l.flatMap enc) hown ad ys.length c (ys.flatMap enc) (yw hk ys) hr (fun u hu => by
   obtain ⟨y, _, hy⟩ := List.mem_flatMap.1 hu
   exact h1c y u hy) (by unfold maxLen; omega) (by
     have : (l.length + ys.length) * bytes ≤ 1000000 * 1000 := Nat.mul_le_mul hl hby
     omega) hN
 unfold Oper.wp execOp
 simp only [ho, resolve, invoke, builtin, Sem.run_bind, Sem.run_pure, Result.andThen_ok, List.map_toArray, List.map_cons, List.map_nil, hs, hx, hr']
 refine h v' w' ?_ hg
 unfold GRow
 rw [List.length_append, List.flatMap_append]
 exact ho'
theorem kg {ops : Array Oper} {o : Oper} {a : Act} {w : World} {K : Act -> World -> Prop} {Q : Exit -> Act -> World -> Prop} {E : Prop} (hk : ∀ x, (enc x).length = k) (hk0 : 0 < k) (h1c : ∀ x, ∀ u ∈ enc x, u.oneCell' = true) {bytes : Nat} (hi : xg T k bytes) (hby : bytes ≤ 1000) (hgd : o.guard = none) (s x : Operand) (S : TypeId)
  (ho : o.op = .call { callee := .builtin .append, args := #[s, x], argTypes := #[S, S] }) (hu : Tryz.prog.underlying S = some (.slice T))
  (N : Nat) (v : Value) (l : List α) (hs : a.eval s = v) (hown : GRow T k enc w N v l) (b : Nat) (c : α) (hx : a.eval x = .slice (some ⟨b, 0, none⟩) 1 1) (hr : ∀ j u, (enc c)[j]? = some u -> w.cell? ⟨b, j, none⟩ = some u) (hl : l.length ≤ 900000) (hN : N ≤ w.heap.size)
  (h : ∀ v' w', GRow T k enc w' N v' (l ++ [c]) -> w.grownBy w' v.ownBlock -> K (a.put o.dst v') w') : if Region.wanted o (yielded ops a.tmps) = true then Oper.wp Tryz.prog o a w K Q else E :=
 xi hk hk0 h1c hi hby hgd s x S ho hu N v l hs hown ⟨b, 0, none⟩ 1 [c] 1 rfl hx (fun j u hj => by
   rw [Addr.add_mid, Nat.zero_add]
   exact hr j u (by simpa using hj)) (by simp; omega) hN h
end
open Go.RowKit
open Go.RowKit
namespace V
end V
theorem zg {W W' : World} {b o : Nat} {v : Value} (hb : Below W.heap.size W W') (h : W.cell? ⟨b, o, none⟩ = some v) : W'.cell? ⟨b, o, none⟩ = some v :=
 (hb.cell (p := ⟨b, o, none⟩) (World.block_lt_of_cell? _ _ h)).trans h
end Go.Proofs.YtbikeahmldobkaaGreatDoor
