/-
  Lemmas for the law.
-/
import Derived.Test.YtiloljoancdcbaaGreatDoorC40x02
import Derived.Test.YtiloljoancdcbaaGreatDoorC40x21
import Derived.Test.YtiloljoancdcbaaGreatDoorC40x17
import Derived.Test.YtiloljoancdcbaaGreatDoorC40x12
import Derived.Laws.AppendOwn
import Derived.OwnWalk
import Derived.Maps.AppendAt
import Derived.Deep.MidRow
import Derived.Laws.Rows
import Derived.Laws.Entries
import Derived.Lib.Builder
import Derived.Lib.ItoaNum
import Derived.Sort.Grow
set_option linter.all false
set_option maxRecDepth 100000
namespace Go.Proofs.YtiloljoancdcbaaGreatDoor
open Go.RowKit
section
variable {α : Type} {enc : α -> List Value} {k : Nat}
theorem zf6 (hk : ∀ x, (enc x).length = k) : ∀ {l : List α} (j : Nat) (h : j < l.length) (i : Nat), i < k -> (l.flatMap enc)[j * k + i]? = (enc l[j])[i]?
 | [], j, h, _, _ => by simp at h
 | c :: l, 0, _, i, hi => by
  rw [List.flatMap_cons, List.getElem?_append_left (by rw [hk]; omega)]
  simp
 | c :: l, j + 1, h, i, hi => by
  have hl := hk c
  have e : (j + 1) * k = j * k + k := Nat.succ_mul j k
  rw [List.flatMap_cons, List.getElem?_append_right (by rw [hl]; omega), hl, show (j + 1) * k + i - k = j * k + i by omega]
  rw [zf6 hk j (by simpa using h) i hi]
  simp
theorem zcv (hk : ∀ x, (enc x).length = k) : ∀ (l : List α), (l.flatMap enc).length = l.length * k
 | [] => by simp
 | c :: l => by
  have e : (l.length + 1) * k = l.length * k + k := Nat.succ_mul _ k
  rw [List.flatMap_cons, List.length_append, hk, zcv hk l, List.length_cons]
  omega
def GRow (T : TypeId) (k : Nat) (enc : α -> List Value) (w : World) (N : Nat) (v : Value) (l : List α) : Prop := w.ownsRow N T k v l.length (l.flatMap enc)
variable {T : TypeId}
theorem GRow.nil (w : World) (N : Nat) : GRow T k enc w N (.slice none 0 0) [] := ⟨by simp, .inl ⟨rfl, rfl⟩⟩
theorem GRow.slice {w : World} {N : Nat} {v : Value} {l : List α} (h : GRow T k enc w N v l) : ∃ a cap, v = .slice a l.length cap := by
 rcases h.2 with ⟨rfl, hn⟩ | ⟨g, cap, cur, rfl, _⟩
 ·exact ⟨none, 0, by rw [hn]⟩
 ·exact ⟨_, cap, rfl⟩
theorem zcl {w : World} {g i : Nat} {cur : Array Value} {fr : Nat × Nat} (hg : w.heap[g]? = some (.cells cur T fr)) : w.cell? ⟨g, i, none⟩ = cur[i]? := by
 unfold World.cell?
 rw [hg]
 rfl
theorem GRow.at (hk : ∀ x, (enc x).length = k) {w : World} {N : Nat} {v : Value} {l : List α} (h : GRow T k enc w N v l) (j : Nat) (hj : j < l.length) :
  ∃ g cap, v = .slice (some ⟨g, 0, none⟩) l.length cap /\ N ≤ g /\ g < w.heap.size /\ ∀ i u, (enc l[j])[i]? = some u -> w.cell? ⟨g, j * k + i, none⟩ = some u := by
 rcases h.2 with ⟨rfl, hn⟩ | ⟨g, cap, cur, rfl, hb, hg, hnc, hm, hsz, htk⟩
 ·omega
 ·refine ⟨g, cap, rfl, hb, (Array.getElem?_eq_some_iff.1 hg).1, fun i u hu => ?_⟩
  have hi : i < k := by
   have := (List.getElem?_eq_some_iff.1 hu).1
   rwa [hk] at this
  rw [zcl hg]
  have h1 := zf6 hk j hj i hi
  rw [hu, ← htk, List.getElem?_take] at h1
  split at h1
  ·simpa using h1
  ·cases h1
theorem GRow.kept {w w' : World} {N : Nat} {v : Value} {l : List α} (h : GRow T k enc w N v l) {row : Option Nat} (hg : w.grownBy w' row) (hr : ∀ b, row = some b -> b < N) : GRow T k enc w' N v l := by
 refine ⟨h.1, ?_⟩
 rcases h.2 with h | ⟨g, cap, cur, rfl, hb, hgg, rest⟩
 ·exact .inl h
 ·refine .inr ⟨g, cap, cur, rfl, hb, ?_, rest⟩
  rw [hg.block g (Array.getElem?_eq_some_iff.1 hgg).1 (fun e => by have := hr g e.symm; omega)]
  exact hgg
theorem GRow.below {w w' : World} {N : Nat} {v : Value} {l : List α} (h : GRow T k enc w N v l) (hb : Below w.heap.size w w') : GRow T k enc w' N v l :=
 h.kept (row := none) ⟨hb.os, hb.tape, hb.output, hb.size, fun k hk _ => hb.block k hk⟩ (fun b e => by cases e)
theorem GRow.block {w : World} {N : Nat} {v : Value} {l : List α} (h : GRow T k enc w N v l) : ∀ b, v.ownBlock = some b -> N ≤ b := by
 intro b hb
 rcases h.2 with ⟨rfl, _⟩ | ⟨g, cap, cur, rfl, hbb, _⟩
 ·cases hb
 ·simp [Value.ownBlock] at hb; omega
theorem zp {w w' : World} {N B : Nat} {v : Value} (h : w.grownBy w' v.ownBlock) (hv : ∀ b, v.ownBlock = some b -> N ≤ b) (hBN : B ≤ N) (hB : N ≤ w.heap.size) : Below B w w' :=
 ⟨h.os, h.tape, h.output, h.size, fun k hk => h.block k (by omega) (fun e => by have := hv k e.symm; omega)⟩
theorem zk {w w' : World} {v : Value} (h : w.grownBy w' v.ownBlock) {N b o : Nat} {u : Value} (hv : ∀ b, v.ownBlock = some b -> N ≤ b) (hb : b < N) (hc : w.cell? ⟨b, o, none⟩ = some u) : w'.cell? ⟨b, o, none⟩ = some u :=
 h.cell hc (fun e => by have := hv _ e.symm; simp at this; omega)
theorem GRow.lt {w : World} {N : Nat} {v : Value} {l : List α} (h : GRow T k enc w N v l) : ∀ b, v.ownBlock = some b -> b < w.heap.size := fun b hb => (World.ownsRow.lt h b hb).2
theorem yo {w w' : World} {v : Value} (h : w.grownBy w' v.ownBlock) {b o : Nat} {u : Value} (hv : ∀ c, v.ownBlock = some c -> c < b) (hc : w.cell? ⟨b, o, none⟩ = some u) : w'.cell? ⟨b, o, none⟩ = some u :=
 h.cell hc (fun e => by have := hv _ e.symm; simp at this)
theorem kx {w w' : World} {v : Value} (h : w.grownBy w' v.ownBlock) {N i : Nat} {o : Obj} (hv : ∀ b, v.ownBlock = some b -> N ≤ b) (hi : i < N) (ho : w.heap[i]? = some o) : w'.heap[i]? = some o :=
 (h.block i (Array.getElem?_eq_some_iff.1 ho).1 (fun e => by have := hv _ e.symm; omega)).trans ho
def ye (T : TypeId) (k bytes : Nat) : Prop := ∃ i z, Tryz.prog.info? T = some i /\ i.zero = some z /\ i.size = k /\ i.bytes = bytes /\ z.cells.size = k
theorem zz2 {P : Prop} (h : P := by
 unfold GRow
 rw [List.length_append, List.flatMap_append]
 simpa using ho') : P := h
theorem z0c {P : Prop} (h : P := by
 have : (l.length + 1) * bytes ≤ 1000001 * 1000 := Nat.mul_le_mul (by omega) hby
 omega) : P := h
theorem z05 {P : Prop} (h : P := by
 intro j u hj
 rw [Addr.add_mid, Nat.zero_add]
 exact hr j u hj) : P := h
theorem zm {ops : Array Oper} {rest : List Oper} {o : Oper} {a : Act} {w : World} {Q : Exit -> Act -> World -> Prop} (hk : ∀ x, (enc x).length = k) (hk0 : 0 < k) (h1c : ∀ x, ∀ u ∈ enc x, u.oneCell' = true) {bytes : Nat} (hi : ye T k bytes) (hby : bytes ≤ 1000) (hgd : o.guard = none) (s x : Operand) (S : TypeId)
  (ho : o.op = .call { callee := .builtin .append, args := #[s, x], argTypes := #[S, S] }) (hu : Tryz.prog.underlying S = some (.slice T))
  (N : Nat) (v : Value) (l : List α) (hs : a.eval s = v) (hown : GRow T k enc w N v l) (b : Nat) (c : α) (hx : a.eval x = .slice (some ⟨b, 0, none⟩) 1 1) (hr : ∀ j u, (enc c)[j]? = some u -> w.cell? ⟨b, j, none⟩ = some u) (hl : l.length ≤ 1000000) (hN : N ≤ w.heap.size)
  (h : ∀ v' w', GRow T k enc w' N v' (l ++ [c]) -> w.grownBy w' v.ownBlock -> wpList Tryz.prog ops Q rest (a.put o.dst v') w') : wpList Tryz.prog ops Q (o :: rest) a w := by
 obtain ⟨ie, z, hie, hz, h1, h2, h3⟩ := hi
 refine wpList_append_own w hgd s x S ho N T ie z k bytes hu hie hz h1 h2 h3 hk0 v l.length (l.flatMap enc) hs hown ⟨b, 0, none⟩ 1 1 (enc c) hx (by rw [hk]; omega) ?_ (h1c c) (by unfold maxLen; omega) ?_ hN ?_
 ·exact z05
 ·exact z0c
 ·intro v' w' ho' hg _
  refine h v' w' ?_ hg
  exact zz2
end
open Go.RowKit
structure PutAt (w W : World) (g : Nat) (new : Array Value) (t : TypeId) : Prop where
 here : W.heap[g]? = some (.cells new t (0, 0))
 size : W.heap.size = w.heap.size
 grown : w.grownBy W (some g)
theorem PutAt.below {w w0 W : World} {g B : Nat} {new : Array Value} {t : TypeId} (h : PutAt w W g new t) (hb : Below B w0 w) (hg : B ≤ g) : Below B w0 W :=
 hb.trans ⟨h.grown.os, h.grown.tape, h.grown.output, h.grown.size, fun k hk => h.grown.block k (by
   by_cases e : k < w.heap.size
   · exact e
   · have : w.heap[k]? = none := Array.getElem?_eq_none (by omega)
     have h2 : W.heap[k]? = none := Array.getElem?_eq_none (by rw [h.size]; omega)
     exfalso
     have := (Array.getElem?_eq_some_iff.1 h.here).1
     rw [h.size] at this
     omega) (fun e => by cases e; omega)⟩
theorem PutAt.other {w W : World} {g i : Nat} {new : Array Value} {t : TypeId} {o : Obj} (h : PutAt w W g new t) (hi : w.heap[i]? = some o) (hne : i ≠ g) : W.heap[i]? = some o :=
 (h.grown.block i (Array.getElem?_eq_some_iff.1 hi).1 (fun e => hne (by cases e; rfl))).trans hi
theorem PutAt.cell {w W : World} {g b o : Nat} {new : Array Value} {t : TypeId} {u : Value} (h : PutAt w W g new t) (hc : w.cell? ⟨b, o, none⟩ = some u) (hne : b ≠ g) : W.cell? ⟨b, o, none⟩ = some u :=
 h.grown.cell hc (fun e => hne (by cases e; rfl))
theorem PutAt.row {α : Type} {enc : α -> List Value} {k : Nat} {T : TypeId} {w W : World} {g N : Nat} {new : Array Value} {t : TypeId} {v : Value} {l : List α} (h : PutAt w W g new t) (hr : GRow T k enc w N v l) (hg : g < N) : GRow T k enc W N v l :=
 hr.kept h.grown (fun b e => by cases e; exact hg)
theorem zhj {w : World} {g o : Nat} {old : Array Value} {t : TypeId} (hg : w.heap[g]? = some (.cells old t (0, 0))) (v : Value) : PutAt w (w.setCell ⟨g, o, none⟩ v) g (old.setIfInBounds o v) t :=
 ⟨heap_setCell_same w g o old t v hg, by simp [World.setCell], ⟨rfl, rfl, rfl, by simp [World.setCell], fun k _ hk => Below.heap_setCell _ _ _ _ (fun e => hk (by rw [e]))⟩⟩
theorem zqa {w : World} {g : Nat} {old new : Array Value} {t : TypeId} (hg : w.heap[g]? = some (.cells old t (0, 0))) : (w.setRow g new).heap[g]? = some (.cells new t (0, 0)) := by
 have hlt := (Array.getElem?_eq_some_iff.1 hg).1
 have hv := (Array.getElem?_eq_some_iff.1 hg).2
 unfold World.setRow
 rw [Array.getElem?_eq_getElem (by simpa using hlt), Array.getElem_modify]
 simp [hv]
theorem zno {w : World} {g : Nat} {old new : Array Value} {t : TypeId} (hg : w.heap[g]? = some (.cells old t (0, 0))) : PutAt w (w.setRow g new) g new t :=
 ⟨zqa hg, by simp, ⟨rfl, rfl, rfl, by simp, fun k _ hk => setRow_other w g k new (fun e => hk (by rw [e]))⟩⟩
theorem z0l {P : Prop} (h : P := by
 have hs : i.size = 1 := by simpa [hq] using hi
 simp only [Nat.add_zero] at this
 simp [storeVar, sizeOf, typeInfo, hq, hcs, hs, this]
 rfl) : P := h
theorem run_set1 {P : Program} {w : World} {b o : Nat} {ty : TypeId} {v u : Value} (hc : w.cell? ⟨b, o, none⟩ = some u) (hf : w.frozen? ⟨b, o, none⟩ = false) (hi : (P.info? ty).map (·.size) = some 1) (h1 : v.oneCell' = true) :
  (storeVar ty ⟨b, o, none⟩ v).run P w = .ok () (w.setCell ⟨b, o, none⟩ v) := by
 have := run_storeCells_cells (P := P) b o [v] 0 w (fun j hj => by obtain rfl : j = 0 := by simpa using hj
                                                                   simp [hc]) (fun j hj => by obtain rfl : j = 0 := by simpa using hj
                                                                                              simp [hf]) (fun x hx => by simp at hx; subst hx; exact h1)
 have hcs : v.cells = #[v] := by cases v <;> first | rfl | cases h1
 cases hq : P.info? ty with
 | none => simp [hq] at hi
 | some i =>
  exact z0l
theorem zad {ops : Array Oper} {rest : List Oper} {o : Oper} {a : Act} {w : World} {Q : Exit -> Act -> World -> Prop} (hgd : o.guard = none) (ty : TypeId) (x y : Operand) (ho : o.op = .store ty x y)
  (g off : Nat) (old : Array Value) (t : TypeId) (hg : w.heap[g]? = some (.cells old t (0, 0))) (hoff : off < old.size) (hx : a.eval x = .pointer (some ⟨g, off, none⟩)) (v : Value) (hy : a.eval y = v) (hi : (Tryz.prog.info? ty).map (·.size) = some 1) (h1 : v.oneCell' = true)
  (h : ∀ W, PutAt w W g (old.setIfInBounds off v) t -> wpList Tryz.prog ops Q rest (a.put o.dst undef) W) : wpList Tryz.prog ops Q (o :: rest) a w :=
 wpList_plain hgd fun K hK => by
  have hc : w.cell? ⟨g, off, none⟩ = some old[off] := by rw [zvp hg, Array.getElem?_eq_getElem hoff]
  unfold Oper.wp execOp
  simp only [ho, hx, hy, Instr.storeAt, Instr.sureAddr, Sem.run_bind, Sem.run_pure, Result.andThen_ok, run_set1 hc (Lib.frozen_of_heap hg off) hi h1]
  exact hK _ _ (h _ (zhj hg v))
theorem zi {ops : Array Oper} {rest : List Oper} {o : Oper} {a : Act} {w : World} {Q : Exit -> Act -> World -> Prop} (hgd : o.guard = none) (ty : TypeId) (x y : Operand) (ho : o.op = .store ty x y)
  (g : Nat) (old : Array Value) (t : TypeId) (hg : w.heap[g]? = some (.cells old t (0, 0))) (hx : a.eval x = .pointer (some ⟨g, 0, none⟩)) (new : Array Value) (hy : a.eval y = .agg new) (hs : old.size = new.size) (hi : (Tryz.prog.info? ty).map (·.size) = some new.size) (h1 : new.all (·.oneCell') = true)
  (h : ∀ W, PutAt w W g new t -> wpList Tryz.prog ops Q rest (a.put o.dst undef) W) : wpList Tryz.prog ops Q (o :: rest) a w :=
 wpList_store_row hgd ty x y ho g new hx hy t old hg hi hs h1 (h _ (zno hg))
section
variable {α : Type} {enc : α -> List Value} {k : Nat} {T : TypeId}
def GSl (k : Nat) (enc : α -> List Value) (w : World) (v : Value) (l : List α) : Prop := ∃ a cap, v = .slice a l.length cap /\ ∀ j (h : j < l.length), ∃ g off, a = some ⟨g, off, none⟩ /\ g < w.heap.size /\ ∀ i u, (enc l[j])[i]? = some u -> w.cell? ⟨g, off + j * k + i, none⟩ = some u
theorem GSl.nil (w : World) : GSl k enc w (.slice none 0 0) [] := ⟨none, 0, rfl, fun j h => by simp at h⟩
theorem GSl.slice {w : World} {v : Value} {l : List α} (h : GSl k enc w v l) : ∃ a cap, v = .slice a l.length cap := by
 obtain ⟨a, c, e, _⟩ := h
 exact ⟨a, c, e⟩
theorem GSl.below {w w' : World} {v : Value} {l : List α} (h : GSl k enc w v l) (hb : Below w.heap.size w w') : GSl k enc w' v l := by
 obtain ⟨a, cap, e, hc⟩ := h
 refine ⟨a, cap, e, fun j hj => ?_⟩
 obtain ⟨g, off, ea, hlt, hcell⟩ := hc j hj
 exact ⟨g, off, ea, Nat.lt_of_lt_of_le hlt hb.size, fun i u hu => (hb.cell (p := ⟨g, off + j * k + i, none⟩) hlt).trans (hcell i u hu)⟩
theorem GSl.at {w : World} {a : Option Addr} {n cap : Nat} {l : List α} (h : GSl k enc w (.slice a n cap) l) (j : Nat) (hj : j < l.length) : ∃ g off, a = some ⟨g, off, none⟩ /\ g < w.heap.size /\ ∀ i u, (enc l[j])[i]? = some u -> w.cell? ⟨g, off + j * k + i, none⟩ = some u := by
 obtain ⟨a', c, e, hc⟩ := h
 obtain ⟨g, off, ea, hb, hcell⟩ := hc j hj
 cases e
 exact ⟨g, off, ea, hb, hcell⟩
theorem GRow.gsl (hk : ∀ x, (enc x).length = k) {w : World} {N : Nat} {v : Value} {l : List α} (h : GRow T k enc w N v l) : GSl k enc w v l := by
 obtain ⟨a, cap, rfl⟩ := GRow.slice h
 refine ⟨a, cap, rfl, fun j hj => ?_⟩
 obtain ⟨g, c, e, _, hlt, hc⟩ := GRow.at hk h j hj
 cases e
 exact ⟨g, 0, rfl, hlt, fun i u hu => by rw [Nat.zero_add]; exact hc i u hu⟩
theorem GSl.cells (hk : ∀ x, (enc x).length = k) {w : World} {g off n cap : Nat} {l : List α} (h : GSl k enc w (.slice (some ⟨g, off, none⟩) n cap) l) (i : Nat) : ∀ j u, ((l.drop i).flatMap enc)[j]? = some u -> w.cell? ⟨g, off + i * k + j, none⟩ = some u := by
 intro j u hu
 have hlen := (List.getElem?_eq_some_iff.1 hu).1
 rw [zcv hk] at hlen
 have hk0 : 0 < k := by
  rcases Nat.eq_zero_or_pos k with h0 | h0
  ·rw [h0, Nat.mul_zero] at hlen; omega
  ·exact h0
 have hdiv : j / k < (l.drop i).length := (Nat.div_lt_iff_lt_mul hk0).2 hlen
 have hmod := Nat.mod_lt j hk0
 have hsum : j = (j / k) * k + j % k := by rw [Nat.mul_comm]; exact (Nat.div_add_mod j k).symm
 rw [hsum, zf6 hk _ hdiv _ hmod] at hu
 have hi : i + j / k < l.length := by rw [List.length_drop] at hdiv; exact Nat.add_lt_of_lt_sub' hdiv
 rw [List.getElem_drop] at hu
 obtain ⟨g', off', e, hlt, hc⟩ := h.at (i + j / k) hi
 cases e
 have := hc (j % k) u hu
 rw [show off + (i + j / k) * k + j % k = off + i * k + j by
   rw [Nat.add_mul]
   have h2 := hsum
   generalize j / k * k = A at *
   generalize j % k = B at *
   generalize i * k = C at *
   omega] at this
 exact this
theorem vy {ops : Array Oper} {o : Oper} {a : Act} {w : World} {K : Act -> World -> Prop} {Q : Exit -> Act -> World -> Prop} {E : Prop} (hk : ∀ x, (enc x).length = k) (hk0 : 0 < k) (h1c : ∀ x, ∀ u ∈ enc x, u.oneCell' = true) {bytes : Nat} (hi : ye T k bytes) (hby : bytes ≤ 1000) (hgd : o.guard = none) (s x : Operand) (S : TypeId)
  (ho : o.op = .call { callee := .builtin .append, args := #[s, x], argTypes := #[S, S] }) (hu : Tryz.prog.underlying S = some (.slice T))
  (N : Nat) (v : Value) (l : List α) (hs : a.eval s = v) (hown : GRow T k enc w N v l) (ad : Addr) (c : Nat) (ys : List α) (m : Nat) (hm : ys.length = m) (hx : a.eval x = .slice (some ad) m c) (hr : ∀ j u, (ys.flatMap enc)[j]? = some u -> w.cell? (ad.add j) = some u) (hl : l.length + ys.length ≤ 1000000) (hN : N ≤ w.heap.size)
  (h : ∀ v' w', GRow T k enc w' N v' (l ++ ys) -> w.grownBy w' v.ownBlock -> K (a.put o.dst v') w') : if Region.wanted o (yielded ops a.tmps) = true then Oper.wp Tryz.prog o a w K Q else E := by
 rw [if_pos (by simp [Region.wanted, hgd])]
 subst hm
 obtain ⟨ie, z, hie, hz, h1, h2, h3⟩ := hi
 obtain ⟨v', w', hr', ho', hg, _⟩ := run_append_own (P := Tryz.prog) w N S o.type T ie z k bytes hu hie hz h1 h2 h3 hk0 v l.length (l.flatMap enc) hown ad ys.length c (ys.flatMap enc) (zcv hk ys) hr (fun u hu => by
   obtain ⟨y, _, hy⟩ := List.mem_flatMap.1 hu
   exact h1c y u hy) (by unfold maxLen; omega) (by
     have : (l.length + ys.length) * bytes ≤ 1000000 * 1000 := Nat.mul_le_mul hl hby
     omega) hN
 unfold Oper.wp execOp
 simp only [ho, resolve, invoke, builtin, Sem.run_bind, Sem.run_pure, Result.andThen_ok, List.map_toArray, List.map_cons, List.map_nil, hs, hx, hr']
 refine h v' w' ?_ hg
 unfold GRow
 rw [List.length_append, List.flatMap_append]
 exact ho'
theorem yu {ops : Array Oper} {o : Oper} {a : Act} {w : World} {K : Act -> World -> Prop} {Q : Exit -> Act -> World -> Prop} {E : Prop} (hk : ∀ x, (enc x).length = k) (hk0 : 0 < k) (h1c : ∀ x, ∀ u ∈ enc x, u.oneCell' = true) {bytes : Nat} (hi : ye T k bytes) (hby : bytes ≤ 1000) (hgd : o.guard = none) (s x : Operand) (S : TypeId)
  (ho : o.op = .call { callee := .builtin .append, args := #[s, x], argTypes := #[S, S] }) (hu : Tryz.prog.underlying S = some (.slice T))
  (N : Nat) (v : Value) (l : List α) (hs : a.eval s = v) (hown : GRow T k enc w N v l) (b : Nat) (c : α) (hx : a.eval x = .slice (some ⟨b, 0, none⟩) 1 1) (hr : ∀ j u, (enc c)[j]? = some u -> w.cell? ⟨b, j, none⟩ = some u) (hl : l.length ≤ 900000) (hN : N ≤ w.heap.size)
  (h : ∀ v' w', GRow T k enc w' N v' (l ++ [c]) -> w.grownBy w' v.ownBlock -> K (a.put o.dst v') w') : if Region.wanted o (yielded ops a.tmps) = true then Oper.wp Tryz.prog o a w K Q else E :=
 vy hk hk0 h1c hi hby hgd s x S ho hu N v l hs hown ⟨b, 0, none⟩ 1 [c] 1 rfl hx (fun j u hj => by
   rw [Addr.add_mid, Nat.zero_add]
   exact hr j u (by simpa using hj)) (by simp; omega) hN h
end
open Go.RowKit
theorem zgm {α : Type} {enc : α -> List Value} {k : Nat} {T : TypeId} {ops : Array Oper} {o : Oper} {a : Act} {w : World} {K : Act -> World -> Prop} {Q : Exit -> Act -> World -> Prop} {E : Prop} (hk : ∀ x, (enc x).length = k) (hk0 : 0 < k) (h1c : ∀ x, ∀ u ∈ enc x, u.oneCell' = true) {bytes : Nat} (hi : ye T k bytes) (hby : bytes ≤ 1000) (hgd : o.guard = none) (s x : Operand) (S : TypeId)
  (ho : o.op = .call { callee := .builtin .append, args := #[s, x], argTypes := #[S, S] }) (hu : Tryz.prog.underlying S = some (.slice T))
  (N : Nat) (v : Value) (l : List α) (hs : a.eval s = v) (hown : GRow T k enc w N v l) (b : Nat) (c : α) (hx : a.eval x = .slice (some ⟨b, 0, none⟩) 1 1) (hr : ∀ j u, (enc c)[j]? = some u -> w.cell? ⟨b, j, none⟩ = some u) (hl : l.length ≤ 900000) (hN : N ≤ w.heap.size)
  (h : ∀ v' w', GRow T k enc w' N v' (l ++ [c]) -> w.grownBy w' v.ownBlock -> (v'.ownBlock = v.ownBlock ∨ v'.ownBlock = some w.heap.size) -> K (a.put o.dst v') w') : if Region.wanted o (yielded ops a.tmps) = true then Oper.wp Tryz.prog o a w K Q else E := by
 rw [if_pos (by simp [Region.wanted, hgd])]
 obtain ⟨ie, z, hie, hz, h1, h2, h3⟩ := hi
 obtain ⟨v', w', hr', ho', hg, _, hob⟩ := run_append_own_at (P := Tryz.prog) w N S o.type T ie z k bytes hu hie hz h1 h2 h3 hk0 v l.length (l.flatMap enc) hown ⟨b, 0, none⟩ 1 1 (enc c) (by rw [hk]; omega) (fun j u hj => by
   rw [Addr.add_mid, Nat.zero_add]
   exact hr j u hj) (h1c c) (by unfold maxLen; omega) (by
     have : (l.length + 1) * bytes ≤ 1000000 * 1000 := Nat.mul_le_mul (by omega) hby
     omega) hN
 unfold Oper.wp execOp
 simp only [ho, resolve, invoke, builtin, Sem.run_bind, Sem.run_pure, Result.andThen_ok, List.map_toArray, List.map_cons, List.map_nil, hs, hx, hr']
 refine h v' w' ?_ hg hob
 unfold GRow
 rw [List.length_append, List.flatMap_append]
 simpa using ho'
structure Lsl where
 a : Option Addr
 n : Nat
 c : Nat
def Lsl.v (s : Lsl) : Value := .slice s.a s.n s.c
def lslE (s : Lsl) : List Value := [s.v]
theorem zal (s : Lsl) : (lslE s).length = 1 := rfl
theorem zbv (s : Lsl) : ∀ u ∈ lslE s, u.oneCell' = true := by
 intro u hu
 simp [lslE] at hu
 subst hu
 rfl
theorem zwg {P : Prop} (h : P := by
 rw [hq] at h
 simp only [Bool.and_eq_true, beq_iff_eq] at h
 obtain ⟨h1, h2, h3⟩ := h
 cases hz : i.zero with
 | none => rw [hz] at h3; cases h3
 | some z =>
  rw [hz] at h3
  exact ⟨i, z, rfl, hz, h1, h2, by simpa using h3⟩) : P := h
theorem zat : ye 47 1 24 := by
 have h : (match Tryz.prog.info? 47 with | some i => i.size == 1 && (i.bytes == 24 && (match i.zero with | some z => z.cells.size == 1 | none => false)) | none => false) = true := by kernel_rfl
 unfold ye
 cases hq : Tryz.prog.info? 47 with
 | none => rw [hq] at h; cases h
 | some i =>
  exact zwg
theorem Strs.grown {w w' : World} {v : Value} {l : List V.Bs} {row : Option Nat} (h : Strs w v l) (hg : w.grownBy w' row) (hs : l ≠ [] -> ∀ c, v.ownBlock = some c -> row ≠ some c) : Strs w' v l := by
 obtain ⟨a, cap, rfl, hx⟩ := h
 refine ⟨a, cap, rfl, fun j hj => ?_⟩
 obtain ⟨b, off, rfl, hlt, h0⟩ := hx j hj
 have hne : l ≠ [] := fun e => by rw [e] at hj; simp at hj
 have hb : row ≠ some b := hs hne b rfl
 exact ⟨b, off, rfl, Nat.lt_of_lt_of_le hlt hg.size, hg.cell h0 (fun e => hb e.symm)⟩
theorem z0m {P : Prop} (h : P := by
 obtain ⟨a, cap, rfl, hx⟩ := h
 obtain ⟨b, off, rfl, hlt, _⟩ := hx 0 (List.length_pos_iff.2 hl)
 simp [Value.ownBlock] at hc
 omega) : P := h
theorem Strs.lt {w : World} {v : Value} {l : List V.Bs} (h : Strs w v l) (hl : l ≠ []) {c : Nat} (hc : v.ownBlock = some c) : c < w.heap.size := by
 exact z0m
structure LRow (N : Nat) (w : World) (v : Value) (us : List Lsl) (ls : List (List V.Bs)) : Prop where
 row : GRow 47 1 lslE w N v us
 len : us.length = ls.length
 each : ∀ j (h : j < us.length) (h' : j < ls.length), Strs w us[j].v ls[j] /\ (ls[j] ≠ [] -> ∀ c, us[j].v.ownBlock = some c -> v.ownBlock ≠ some c)
theorem LRow.nil (N : Nat) (w : World) : LRow N w (.slice none 0 0) [] [] := ⟨GRow.nil _ _, rfl, fun j h => by simp at h⟩
theorem LRow.later {N : Nat} {w w' : World} {v : Value} {us : List Lsl} {ls : List (List V.Bs)} (h : LRow N w v us ls) (hb : Below w.heap.size w w') : LRow N w' v us ls :=
 ⟨GRow.below h.row hb, h.len, fun j hj hj' => ⟨kp (h.each j hj hj').1 hb, (h.each j hj hj').2⟩⟩
theorem zz6 {P : Prop} (h : P := by
 refine ⟨hq.grown hg hn, fun hy c hc => ?_⟩
 rcases ho with e | e
 ·rw [e]; exact hn hy c hc
 ·rw [e]
  intro g
  have := hq.lt hy hc
  cases g
  omega) : P := h
theorem z1d {P : Prop} (h : P := by
 rw [List.getElem_append_left e, List.getElem_append_left e2]
 exact one _ _ (h.each j e e2).1 (h.each j e e2).2) : P := h
theorem LRow.add {N : Nat} {w w' : World} {v v' : Value} {us : List Lsl} {ls : List (List V.Bs)} {u : Lsl} {x : List V.Bs} (h : LRow N w v us ls) (hr : GRow 47 1 lslE w' N v' (us ++ [u])) (hg : w.grownBy w' v.ownBlock) (ho : v'.ownBlock = v.ownBlock ∨ v'.ownBlock = some w.heap.size)
  (hu : Strs w u.v x) (hs : x ≠ [] -> ∀ c, u.v.ownBlock = some c -> v.ownBlock ≠ some c) : LRow N w' v' (us ++ [u]) (ls ++ [x]) := by
 have one : ∀ (q : Value) (y : List V.Bs), Strs w q y -> (y ≠ [] -> ∀ c, q.ownBlock = some c -> v.ownBlock ≠ some c) -> Strs w' q y /\ (y ≠ [] -> ∀ c, q.ownBlock = some c -> v'.ownBlock ≠ some c) := fun q y hq hn => by
  exact zz6
 refine ⟨hr, by rw [List.length_append, List.length_append, h.len]; rfl, fun j hj hj' => ?_⟩
 by_cases e : j < us.length
 ·have e2 : j < ls.length := by rw [← h.len]; exact e
  exact z1d
 ·have ej : j = us.length := by rw [List.length_append, List.length_singleton] at hj; omega
  subst ej
  have e1 : (us ++ [u])[us.length] = u := by simp
  have e2 : (ls ++ [x])[us.length]'hj' = x := by simp [h.len]
  rw [e1, e2]
  exact one _ _ hu hs
theorem LRow.one {N : Nat} {w : World} {u : Lsl} {x : List V.Bs} (hN : N ≤ w.heap.size) (hu : Strs w u.v x) (h0 : x ≠ []) : LRow N (w.alloc (.cells #[u.v] 47)) (.slice (some ⟨w.heap.size, 0, none⟩) 1 1) [u] [x] := by
 have hb : Below w.heap.size w (w.alloc (.cells #[u.v] 47)) := (zvt _ w).alloc (zvs _) _
 refine ⟨⟨rfl, .inr ⟨w.heap.size, 1, #[u.v], rfl, hN, ?_, zvs _, by unfold maxLen; omega, rfl, rfl⟩⟩, rfl, fun j hj hj' => ?_⟩
 ·rw [heap_alloc, if_pos rfl]
 ·obtain rfl : j = 0 := by simpa using hj
  refine ⟨kp hu hb, fun _ c hc => ?_⟩
  have := hu.lt h0 hc
  intro e
  simp [Value.ownBlock] at e
  omega
theorem LRow.lines {N : Nat} {w : World} {v : Value} {us : List Lsl} {ls : List (List V.Bs)} (h : LRow N w v us ls) : Lines w v ls := by
 obtain ⟨a, cap, rfl⟩ := GRow.slice h.row
 refine ⟨a, cap, by rw [h.len], fun j hj => ?_⟩
 have hj' : j < us.length := by rw [h.len]; exact hj
 obtain ⟨g, cap2, e, hN, hg, hc⟩ := GRow.at zal h.row j hj'
 cases e
 exact ⟨g, 0, us[j].v, rfl, hg, by simpa using hc 0 us[j].v rfl, (h.each j hj' hj).1⟩
theorem LRow.slice {N : Nat} {w : World} {v : Value} {us : List Lsl} {ls : List (List V.Bs)} (h : LRow N w v us ls) : ∃ a cap, v = .slice a ls.length cap := by
 rw [← h.len]; exact GRow.slice h.row
theorem zcf (w : World) (l : List V.Bs) : Strs (w.alloc (.cells (l.map fun x => Value.string ⟨x.toArray⟩).toArray 9)) (.slice (some ⟨w.heap.size, 0, none⟩) l.length l.length) l :=
 ⟨_, _, rfl, fun j hj => ⟨w.heap.size, 0, rfl, by simp, by rw [Nat.zero_add, World.cell?_alloc_new]; simp [hj]⟩⟩
theorem zsb (w : World) (k : Nat) (os : Array Obj) : Below w.heap.size w (Sort.grow (w.drewN k) os) :=
 ⟨rfl, rfl, rfl, by simp, fun q hq => by rw [Sort.heap_grow_old _ _ (by simpa using hq)]; rfl⟩
theorem zjz : ∀ (k u : Nat), u < 10 ^ k -> 0 < k -> Lib.nDigits u ≤ k
 | 0, _, _, h => absurd h (by omega)
 | 1, u, h, _ => by rw [Lib.nDigits_small (by simpa using h)]; exact zvs _
 | k + 2, u, h, _ => by
  rw [Lib.nDigits]
  split
  ·omega
  ·have := zjz (k + 1) (u / 10) (by rw [Nat.pow_succ] at h; omega) (by omega)
   omega
theorem zi1 {n : Nat} (h : n ≤ 2199023255552) : (Lib.decDigits n).length ≤ 13 := by
 rw [Lib.decDigits_length]
 exact zjz 13 n (by omega) (by omega)
def zb5 (q : Nat) : V.Bs := if q = 0 then [] else Lib.decDigits q
theorem zoj {q : Nat} (h : 0 < q) : zb5 q = zb5 (q / 10) ++ [UInt8.ofNat (48 + q % 10)] := by
 unfold zb5
 rw [if_neg (by omega), Lib.decDigits]
 split
 ·rename_i h10
  rw [if_pos (by omega), Nat.mod_eq_of_lt h10]
  rfl
 ·rw [if_neg (by omega)]
theorem zmk (n : Nat) (w : World) (hn : n ≤ 2199023255552) (htab : Lib.TabIs Tryz.prog w "internal/strconv.uint64pow10" .u64 Lib.pow10Tab) :
  Calls Tryz.prog 24 #[.int .i64 n] w fun e w' => e = .returned (.string ⟨(Lib.decDigits n).toArray⟩) /\ Below w.heap.size w w' := by
 have HT := zvq htab
 clear htab
 go_enter Tryz.func24, Tryz.ntmps24
 go_wp2_with fail
 refine (Tryz.strconv_FormatInt_10 n (by omega) (by omega) w HT.out).mono ?_
 rintro e w' ⟨rfl, k, os, rfl⟩
 have HI : Hid (Lib.itoa n = Lib.decDigits n) := zvq (by unfold Lib.itoa; rw [if_neg (by omega)]; simp)
 rw [HI.out]
 have HB := zvq (zsb w k os)
 generalize Sort.grow (w.drewN k) os = w1 at *
 go_wp2
 go_ret
 exact ⟨rfl, HB.out⟩
theorem zuz (W : World) (n : Int) : (convert 36 9 (.slice (some ⟨W.heap.size, 0, none⟩) 1 1)).run Tryz.prog (W.alloc (.cells #[.int .u8 n] 5)) =
  .ok (.string ⟨#[UInt8.ofNat n.toNat]⟩) (W.alloc (.cells #[.int .u8 n] 5)) := by
 have h := run_convert_bytes_arg (P := Tryz.prog) (W.alloc (.cells #[.int .u8 n] 5)) 36 5 Tryz.underlying36 Tryz.underlying5 W.heap.size 0 1 1 [n] rfl (fun i hi => by
   obtain rfl : i = 0 := by omega
   rw [World.cell?_alloc_new]; rfl) 9 Tryz.underlying9
 exact h
theorem zk0 (n : Nat) (w : World) (hn : n ≤ 2199023255552) :
  Calls Tryz.prog 28 #[.int .i64 n] w fun e w' => e = .returned (.string ⟨(Lib.decDigits n).toArray⟩) /\ Below w.heap.size w w' := by
 by_cases h0 : n = 0
 ·subst h0
  have HD : Hid (Lib.decDigits 0 = [48]) := zvq (by rw [Lib.decDigits_one (by omega)]; rfl)
  rw [HD.out]
  go_enter Tryz.func28, Tryz.ntmps28
  go_wp2
  go_ret
  exact ⟨rfl, zvt _ _⟩
 ·have HD : Hid (Lib.decDigits n = zb5 n) := zvq (by unfold zb5; rw [if_neg h0])
  have HL : Hid ((Lib.decDigits n).length ≤ 13) := zvq (zi1 hn)
  have hb0 : ((n : Int) == 0) = false := by rw [zvu]; omega
  have hw : IntKind.u64.wrap (n : Int) = (n : Int) := by unfold IntKind.wrap; simp [IntKind.signed, IntKind.bits]; omega
  have hl0 : ¬ (n : Int) < 0 := by omega
  go_enter Tryz.func28, Tryz.ntmps28
  go_wp2
  go_loopw [4, 5] (fun uv sv wx => ∃ (q : Nat) (S : V.Bs), q ≤ n /\ uv = .int .u64 q /\ sv = .string ⟨S.toArray⟩ /\ Lib.decDigits n = zb5 q ++ S /\ Below w.heap.size w wx) (fun uv _ _ => (intOf uv).toNat)
  case atStart => exact ⟨n, [], zvs _, rfl, rfl, by rw [List.append_nil]; exact HD.out, zvt _ _⟩
  case round =>
   obtain ⟨q, S, hq, rfl, rfl, heq, hb⟩ := hrel
   have HE := zvq heq
   have HB := zvq hb
   have hsl : S.length ≤ 13 := by
    have := HL.out
    rw [heq, List.length_append] at this
    omega
   clear heq hb
   by_cases hq0 : q = 0
   ·subst hq0
    have HF : Hid (Lib.decDigits n = S) := zvq (by rw [HE.out]; rfl)
    go_wp2
    go_ret
    exact ⟨congrArg (fun x => Ending.returned (.string x)) (jj (by rw [HF.out]; simp [ByteArray.data_append])), HB.out⟩
   ·have hq1 : (0 : Int) < (q : Int) := by omega
    have hrem : (q : Int).tmod 10 = ((q % 10 : Nat) : Int) := by rw [Int.tmod_eq_emod_of_nonneg (by omega)]; rfl
    have hquo : (q : Int).tdiv 10 = ((q / 10 : Nat) : Int) := by rw [Int.tdiv_eq_ediv_of_nonneg (by omega)]; rfl
    have hr10 : q % 10 < 10 := Nat.mod_lt _ (by omega)
    have HST : Hid (zb5 q = zb5 (q / 10) ++ [UInt8.ofNat (48 + q % 10)]) := zvq (zoj (by omega))
    have hdle : q / 10 ≤ n := by omega
    have hdlt : q / 10 < q := by omega
    obtain ⟨r, hr⟩ : ∃ r, r = q % 10 := ⟨_, rfl⟩
    obtain ⟨p, hp⟩ : ∃ p, p = q / 10 := ⟨_, rfl⟩
    rw [← hr] at hrem HST hr10
    rw [← hp] at hquo HST hdle hdlt
    clear hr hp
    have hadd : IntKind.u64.wrap (48 + (r : Int)) = 48 + (r : Int) := by unfold IntKind.wrap; simp [IntKind.signed, IntKind.bits]; omega
    have hcv : IntKind.u8.wrap (48 + (r : Int)) = 48 + (r : Int) := by unfold IntKind.wrap; simp [IntKind.signed, IntKind.bits]; omega
    have hwr : IntKind.u64.wrap (r : Int) = (r : Int) := by unfold IntKind.wrap; simp [IntKind.signed, IntKind.bits]; omega
    have hwp : IntKind.u64.wrap (p : Int) = (p : Int) := by unfold IntKind.wrap; simp [IntKind.signed, IntKind.bits]; omega
    have hconv := zuz wr (48 + (r : Int))
    go_wp2
    go_roundw
    case rel => exact ⟨p, UInt8.ofNat (48 + r) :: S, hdle, rfl, congrArg Value.string (jj (by simp [ByteArray.data_append, UInt8.ofNat_add])), by rw [HE.out, HST.out]; simp, HB.out.trans (((zvt _ wr).alloc (zvs _) _).mono HB.out.size)⟩
    case measure => simp [intOf]; omega
open Go.RowKit
theorem jz {P : Program} {fn : Func} {p q : Tmp} {ty : TypeId} (h : fn.results = #[.cell p ty, .tmp q]) {tmps : Array Value} {w : World} {a : Addr} {v u : Value}
  (hp : tmps.getD p undef = .pointer (some a)) (hq : tmps.getD q undef = u) (hl : (loadVar ty a).run P w = .ok v w) : (results fn tmps).run P w = .ok (.tuple #[v, u]) w := by
 have hp' : tmps[p]?.getD undef = .pointer (some a) := by simpa using hp
 have hq' : tmps[q]?.getD undef = u := by simpa using hq
 simp [results, h, hp', hq', asAddr, hl]
theorem zrd {P : Program} {fn : Func} {p : Tmp} {ty : TypeId} (h : fn.results = #[.cell p ty]) {tmps : Array Value} {w : World} {a : Addr} {v : Value}
  (hp : tmps.getD p undef = .pointer (some a)) (hl : (loadVar ty a).run P w = .ok v w) : (results fn tmps).run P w = .ok v w := by
 have hp' : tmps[p]?.getD undef = .pointer (some a) := by simpa using hp
 simp [results, h, hp', asAddr, hl]
theorem qk (w : World) (g : Nat) (cs : Array Value) : w.grownBy (w.setRow g cs) (some g) :=
 ⟨rfl, rfl, rfl, by simp, fun i _ hi => setRow_other w g i cs (fun e => hi (by rw [e]))⟩
theorem vw {w : World} {g : Nat} {cs : Array Value} {t : TypeId} {fr : Nat × Nat} (o : Nat) (v : Value) (hg : w.heap[g]? = some (.cells cs t fr)) : (w.setCell ⟨g, o, none⟩ v).heap[g]? = some (.cells (cs.setIfInBounds o v) t fr) := by
 have hlt := (Array.getElem?_eq_some_iff.1 hg).1
 have hv := (Array.getElem?_eq_some_iff.1 hg).2
 unfold World.setCell
 rw [Array.getElem?_eq_getElem (by simpa using hlt), Array.getElem_modify]
 simp [hv]
theorem zbj {w : World} {g o : Nat} {cs : Array Value} {t : TypeId} (hg : w.heap[g]? = some (.cells cs t (0, 0))) : w.frozen? ⟨g, o, none⟩ = false := by
 simp [World.frozen?, hg]
theorem ztd {P : Program} {w : World} {b o : Nat} {ty : TypeId} {v u : Value} (hc : w.cell? ⟨b, o, none⟩ = some u) (hf : w.frozen? ⟨b, o, none⟩ = false) (hi : (P.info? ty).map (·.size) = some 1) (h1 : v.oneCell' = true) :
  (storeVar ty ⟨b, o, none⟩ v).run P w = .ok () (w.setCell ⟨b, o, none⟩ v) := by
 have := run_storeCells_cells (P := P) b o [v] 0 w (fun j hj => by obtain rfl : j = 0 := by simpa using hj
                                                                   simp [hc]) (fun j hj => by obtain rfl : j = 0 := by simpa using hj
                                                                                              simp [hf]) (fun x hx => by simp at hx; subst hx; exact h1)
 have hcs : v.cells = #[v] := by cases v <;> first | rfl | cases h1
 cases hq : P.info? ty with
 | none => simp [hq] at hi
 | some i =>
  exact z0l
theorem zpb {ops : Array Oper} {rest : List Oper} {o : Oper} {a : Act} {w : World} {Q : Exit -> Act -> World -> Prop} (hgd : o.guard = none) (ty : TypeId) (x y : Operand) (ho : o.op = .store ty x y)
  (b off : Nat) (hx : a.eval x = .pointer (some ⟨b, off, none⟩)) (v : Value) (hy : a.eval y = v) (u : Value) (hc : w.cell? ⟨b, off, none⟩ = some u) (hf : w.frozen? ⟨b, off, none⟩ = false) (hi : (Tryz.prog.info? ty).map (·.size) = some 1) (h1 : v.oneCell' = true)
  (h : wpList Tryz.prog ops Q rest (a.put o.dst undef) (w.setCell ⟨b, off, none⟩ v)) : wpList Tryz.prog ops Q (o :: rest) a w :=
 wpList_plain hgd fun K hK => by
  unfold Oper.wp execOp
  simp only [ho, hx, hy, Instr.storeAt, Instr.sureAddr, Sem.run_bind, Sem.run_pure, Result.andThen_ok, ztd hc hf hi h1]
  exact hK _ _ h
namespace V
theorem zhr {ls : List (List Bs)} {M : Nat} (h : ∀ x ∈ ls, jc x x.length ≤ M) : ∀ k, k ≤ ls.length -> jl ls k ≤ k * M
 | 0, _ => by simp [jl]
 | k + 1, hk => by
  rw [ym (by omega)]
  have h1 := zhr h k (by omega)
  have h2 := h _ (List.getElem_mem (show k < ls.length by omega))
  rw [Nat.succ_mul]
  omega
theorem zr3 {x : List Bs} {M : Nat} (h : ∀ u ∈ x, wj u + 1 ≤ M) : jc x x.length ≤ x.length * M := by
 unfold jc
 rw [List.take_length]
 induction x with
 | nil => simp
 | cons u x ih =>
  rw [List.map_cons, List.sum_cons, List.length_cons, Nat.succ_mul]
  have h1 := h u (List.mem_cons_self ..)
  have h2 := ih fun v hv => h v (List.mem_cons_of_mem _ hv)
  omega
end V
theorem zp7 {P : Program} {w w' : World} {name : String} {k : IntKind} {zs : List Int} (h : Lib.TabIs P w name k zs) (hb : Below w.heap.size w w') : Lib.TabIs P w' name k zs := by
 unfold Lib.TabIs World.var? at *
 cases hg : P.globalNamed name with
 | none => rw [hg] at h; cases h
 | some g =>
  rw [hg] at h
  simp only [Option.bind_some] at h ⊢
  cases hq : w.heap[g]? with
  | none => rw [hq] at h; cases h
  | some o => rw [hb.block g (Array.getElem?_eq_some_iff.1 hq).1]; exact h
def zcx (w : World) : Prop := Lib.TabIs Tryz.prog w "internal/strconv.uint64pow10" .u64 Lib.pow10Tab
theorem zcx.below {w w' : World} (h : zcx w) (hb : Below w.heap.size w w') : zcx w' := zp7 h hb
theorem zb {W W' : World} {b o : Nat} {v : Value} (hb : Below W.heap.size W W') (h : W.cell? ⟨b, o, none⟩ = some v) : W'.cell? ⟨b, o, none⟩ = some v :=
 (hb.cell (p := ⟨b, o, none⟩) (World.block_lt_of_cell? _ _ h)).trans h
def uf (l : List V.Bs) : Array Value := (l.map fun x => Value.string ⟨x.toArray⟩).toArray
theorem infoS : ∃ i, Tryz.prog.info? 9 = some i /\ i.zero = some (.string ⟨#[]⟩) /\ i.size = 1 /\ i.bytes = 16 := by
 have h : (Tryz.prog.info? 9).map (fun i => (i.zero, i.size, i.bytes)) = some (some (.string ⟨#[]⟩), 1, 16) := by kernel_rfl
 exact z0v
theorem za7 {ops : Array Oper} {o : Oper} {a : Act} {w : World} {K : Act -> World -> Prop} {Q : Exit -> Act -> World -> Prop} {E : Prop} (hgd : o.guard = none) (e1 : Operand) (ho : o.op = .buildSlice 50 1 #[(0, e1)])
  (u : Lsl) (h1 : a.eval e1 = u.v)
  (h : K (a.put o.dst (.slice (some ⟨w.heap.size, 0, none⟩) 1 1)) (w.alloc (.cells #[u.v] 47))) : if Region.wanted o (yielded ops a.tmps) = true then Oper.wp Tryz.prog o a w K Q else E := by
 rw [if_pos (by simp [Region.wanted, hgd])]
 obtain ⟨ie, z, hie, hz, q1, q2, q3⟩ := zat
 refine wp_buildSlice _ 47 1 _ ho #[u.v] ie z Tryz.underlying50 hie hz (by rw [q1]; decide) (by rw [q1]; decide) ?_ h
 have := Great.fill_whole (s := 1) (by decide) [u.v] ((Array.range (1 * ie.size)).map (z.cells[· % z.cells.size]!)) (fun v hv => by
   rw [List.mem_singleton.1 hv]; rfl) (by rw [q1]; simp)
 rw [q1] at this ⊢
 simp only [h1, List.map_toArray, List.map_cons, List.map_nil]
 exact this
theorem zn9 (w : World) (u : Lsl) : ∀ j v, (lslE u)[j]? = some v -> (w.alloc (.cells #[u.v] 47)).cell? ⟨w.heap.size, j, none⟩ = some v := fun j v h => by
 rw [World.cell?_alloc_new]
 simpa [lslE] using h
theorem zie {n : Int} (h0 : 0 ≤ n) (h1 : n ≤ 2199023255552) (w : World) (hp : zcx w) :
  Calls Tryz.prog 24 #[.int .i64 n] w fun e w' => e = .returned (.string ⟨(Lib.decDigits n.toNat).toArray⟩) /\ Below w.heap.size w w' := by
 have := zmk n.toNat w (by omega) hp
 rwa [Int.toNat_of_nonneg h0] at this
theorem zf5 {n : Int} (h0 : 0 ≤ n) (h1 : n ≤ 2199023255552) (w : World) :
  Calls Tryz.prog 28 #[.int .i64 n] w fun e w' => e = .returned (.string ⟨(Lib.decDigits n.toNat).toArray⟩) /\ Below w.heap.size w w' := by
 have := zk0 n.toNat w (by omega)
 rwa [Int.toNat_of_nonneg h0] at this
structure EncS (N : Nat) (W0 : World) (v : Value) (ls : List (List V.Bs)) (w : World) : Prop where
 row : ∃ us, LRow N w v us ls
 below : Below N W0 w
 size : N ≤ w.heap.size
end Go.Proofs.YtiloljoancdcbaaGreatDoor
