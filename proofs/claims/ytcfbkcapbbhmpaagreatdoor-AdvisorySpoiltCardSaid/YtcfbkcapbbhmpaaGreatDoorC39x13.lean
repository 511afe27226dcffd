import Derived.Test.YtcfbkcapbbhmpaaGreatDoorC39x02
import Derived.Test.YtcfbkcapbbhmpaaGreatDoorC39x12
import Derived.Test.YtcfbkcapbbhmpaaGreatDoorC39x10
import Derived.Test.YtcfbkcapbbhmpaaGreatDoorC39x07
import Derived.Test.YtcfbkcapbbhmpaaGreatDoorC39x11
import Derived.Laws.AppendOwn
import Derived.OwnWalk
import Derived.Maps.AppendAt
import Derived.Deep.MidRow
import Derived.Laws.Rows
import Derived.Laws.Entries
import Derived.Lib.Builder
import Derived.Lib.ItoaNum
import Derived.Sort.Grow
set_option linter.all false
set_option maxRecDepth 100000
set_option maxHeartbeats 1600000
namespace Go.Proofs.YtcfbkcapbbhmpaaGreatDoor
open Go.RowKit
section
variable {α : Type} {enc : α -> List Value} {k : Nat}
theorem zgj (hk : ∀ x, (enc x).length = k) : ∀ {l : List α} (j : Nat) (h : j < l.length) (i : Nat), i < k -> (l.flatMap enc)[j * k + i]? = (enc l[j])[i]?
 | [], j, h, _, _ => by simp at h
 | c :: l, 0, _, i, hi => by
  rw [List.flatMap_cons, List.getElem?_append_left (by rw [hk]; omega)]
  simp
 | c :: l, j + 1, h, i, hi => by
  have hl := hk c
  have e : (j + 1) * k = j * k + k := Nat.succ_mul j k
  rw [List.flatMap_cons, List.getElem?_append_right (by rw [hl]; omega), hl, show (j + 1) * k + i - k = j * k + i by omega]
  rw [zgj hk j (by simpa using h) i hi]
  simp
theorem zc4 (hk : ∀ x, (enc x).length = k) : ∀ (l : List α), (l.flatMap enc).length = l.length * k
 | [] => by simp
 | c :: l => by
  have e : (l.length + 1) * k = l.length * k + k := Nat.succ_mul _ k
  rw [List.flatMap_cons, List.length_append, hk, zc4 hk l, List.length_cons]
  omega
def GRow (T : TypeId) (k : Nat) (enc : α -> List Value) (w : World) (N : Nat) (v : Value) (l : List α) : Prop := w.ownsRow N T k v l.length (l.flatMap enc)
variable {T : TypeId}
theorem GRow.nil (w : World) (N : Nat) : GRow T k enc w N (.slice none 0 0) [] := ⟨by simp, .inl ⟨rfl, rfl⟩⟩
theorem GRow.slice {w : World} {N : Nat} {v : Value} {l : List α} (h : GRow T k enc w N v l) : ∃ a cap, v = .slice a l.length cap := by
 rcases h.2 with ⟨rfl, hn⟩ | ⟨g, cap, cur, rfl, _⟩
 ·exact ⟨none, 0, by rw [hn]⟩
 ·exact ⟨_, cap, rfl⟩
theorem zcs {w : World} {g i : Nat} {cur : Array Value} {fr : Nat × Nat} (hg : w.heap[g]? = some (.cells cur T fr)) : w.cell? ⟨g, i, none⟩ = cur[i]? := by
 unfold World.cell?
 rw [hg]
 rfl
theorem GRow.at (hk : ∀ x, (enc x).length = k) {w : World} {N : Nat} {v : Value} {l : List α} (h : GRow T k enc w N v l) (j : Nat) (hj : j < l.length) :
  ∃ g cap, v = .slice (some ⟨g, 0, none⟩) l.length cap /\ N ≤ g /\ g < w.heap.size /\ ∀ i u, (enc l[j])[i]? = some u -> w.cell? ⟨g, j * k + i, none⟩ = some u := by
 rcases h.2 with ⟨rfl, hn⟩ | ⟨g, cap, cur, rfl, hb, hg, hnc, hm, hsz, htk⟩
 ·omega
 ·refine ⟨g, cap, rfl, hb, (Array.getElem?_eq_some_iff.1 hg).1, fun i u hu => ?_⟩
  have hi : i < k := by
   have := (List.getElem?_eq_some_iff.1 hu).1
   rwa [hk] at this
  rw [zcs hg]
  have h1 := zgj hk j hj i hi
  rw [hu, ← htk, List.getElem?_take] at h1
  split at h1
  ·simpa using h1
  ·cases h1
theorem GRow.kept {w w' : World} {N : Nat} {v : Value} {l : List α} (h : GRow T k enc w N v l) {row : Option Nat} (hg : w.grownBy w' row) (hr : ∀ b, row = some b -> b < N) : GRow T k enc w' N v l := by
 refine ⟨h.1, ?_⟩
 rcases h.2 with h | ⟨g, cap, cur, rfl, hb, hgg, rest⟩
 ·exact .inl h
 ·refine .inr ⟨g, cap, cur, rfl, hb, ?_, rest⟩
  rw [hg.block g (Array.getElem?_eq_some_iff.1 hgg).1 (fun e => by have := hr g e.symm; omega)]
  exact hgg
theorem GRow.below {w w' : World} {N : Nat} {v : Value} {l : List α} (h : GRow T k enc w N v l) (hb : Below w.heap.size w w') : GRow T k enc w' N v l :=
 h.kept (row := none) ⟨hb.os, hb.tape, hb.output, hb.size, fun k hk _ => hb.block k hk⟩ (fun b e => by cases e)
theorem GRow.block {w : World} {N : Nat} {v : Value} {l : List α} (h : GRow T k enc w N v l) : ∀ b, v.ownBlock = some b -> N ≤ b := by
 intro b hb
 rcases h.2 with ⟨rfl, _⟩ | ⟨g, cap, cur, rfl, hbb, _⟩
 ·cases hb
 ·simp [Value.ownBlock] at hb; omega
theorem zk {w w' : World} {N B : Nat} {v : Value} (h : w.grownBy w' v.ownBlock) (hv : ∀ b, v.ownBlock = some b -> N ≤ b) (hBN : B ≤ N) (hB : N ≤ w.heap.size) : Below B w w' :=
 ⟨h.os, h.tape, h.output, h.size, fun k hk => h.block k (by omega) (fun e => by have := hv k e.symm; omega)⟩
theorem zm {w w' : World} {v : Value} (h : w.grownBy w' v.ownBlock) {N b o : Nat} {u : Value} (hv : ∀ b, v.ownBlock = some b -> N ≤ b) (hb : b < N) (hc : w.cell? ⟨b, o, none⟩ = some u) : w'.cell? ⟨b, o, none⟩ = some u :=
 h.cell hc (fun e => by have := hv _ e.symm; simp at this; omega)
theorem GRow.lt {w : World} {N : Nat} {v : Value} {l : List α} (h : GRow T k enc w N v l) : ∀ b, v.ownBlock = some b -> b < w.heap.size := fun b hb => (World.ownsRow.lt h b hb).2
theorem yw {w w' : World} {v : Value} (h : w.grownBy w' v.ownBlock) {b o : Nat} {u : Value} (hv : ∀ c, v.ownBlock = some c -> c < b) (hc : w.cell? ⟨b, o, none⟩ = some u) : w'.cell? ⟨b, o, none⟩ = some u :=
 h.cell hc (fun e => by have := hv _ e.symm; simp at this)
theorem kz {w w' : World} {v : Value} (h : w.grownBy w' v.ownBlock) {N i : Nat} {o : Obj} (hv : ∀ b, v.ownBlock = some b -> N ≤ b) (hi : i < N) (ho : w.heap[i]? = some o) : w'.heap[i]? = some o :=
 (h.block i (Array.getElem?_eq_some_iff.1 ho).1 (fun e => by have := hv _ e.symm; omega)).trans ho
def xq (T : TypeId) (k bytes : Nat) : Prop := ∃ i z, Tryz.prog.info? T = some i /\ i.zero = some z /\ i.size = k /\ i.bytes = bytes /\ z.cells.size = k
theorem z0l {P : Prop} (h : P := by
 unfold GRow
 rw [List.length_append, List.flatMap_append]
 simpa using ho') : P := h
theorem z0v {P : Prop} (h : P := by
 have : (l.length + 1) * bytes ≤ 1000001 * 1000 := Nat.mul_le_mul (by omega) hby
 omega) : P := h
theorem z1o {P : Prop} (h : P := by
 intro j u hj
 rw [Addr.add_mid, Nat.zero_add]
 exact hr j u hj) : P := h
theorem zl {ops : Array Oper} {rest : List Oper} {o : Oper} {a : Act} {w : World} {Q : Exit -> Act -> World -> Prop} (hk : ∀ x, (enc x).length = k) (hk0 : 0 < k) (h1c : ∀ x, ∀ u ∈ enc x, u.oneCell' = true) {bytes : Nat} (hi : xq T k bytes) (hby : bytes ≤ 1000) (hgd : o.guard = none) (s x : Operand) (S : TypeId)
  (ho : o.op = .call { callee := .builtin .append, args := #[s, x], argTypes := #[S, S] }) (hu : Tryz.prog.underlying S = some (.slice T))
  (N : Nat) (v : Value) (l : List α) (hs : a.eval s = v) (hown : GRow T k enc w N v l) (b : Nat) (c : α) (hx : a.eval x = .slice (some ⟨b, 0, none⟩) 1 1) (hr : ∀ j u, (enc c)[j]? = some u -> w.cell? ⟨b, j, none⟩ = some u) (hl : l.length ≤ 1000000) (hN : N ≤ w.heap.size)
  (h : ∀ v' w', GRow T k enc w' N v' (l ++ [c]) -> w.grownBy w' v.ownBlock -> wpList Tryz.prog ops Q rest (a.put o.dst v') w') : wpList Tryz.prog ops Q (o :: rest) a w := by
 obtain ⟨ie, z, hie, hz, h1, h2, h3⟩ := hi
 refine wpList_append_own w hgd s x S ho N T ie z k bytes hu hie hz h1 h2 h3 hk0 v l.length (l.flatMap enc) hs hown ⟨b, 0, none⟩ 1 1 (enc c) hx (by rw [hk]; omega) ?_ (h1c c) (by unfold maxLen; omega) ?_ hN ?_
 ·exact z1o
 ·exact z0v
 ·intro v' w' ho' hg _
  refine h v' w' ?_ hg
  exact z0l
end
open Go.RowKit
structure PutAt (w W : World) (g : Nat) (new : Array Value) (t : TypeId) : Prop where
 here : W.heap[g]? = some (.cells new t (0, 0))
 size : W.heap.size = w.heap.size
 grown : w.grownBy W (some g)
theorem PutAt.below {w w0 W : World} {g B : Nat} {new : Array Value} {t : TypeId} (h : PutAt w W g new t) (hb : Below B w0 w) (hg : B ≤ g) : Below B w0 W :=
 hb.trans ⟨h.grown.os, h.grown.tape, h.grown.output, h.grown.size, fun k hk => h.grown.block k (by
   by_cases e : k < w.heap.size
   · exact e
   · have : w.heap[k]? = none := Array.getElem?_eq_none (by omega)
     have h2 : W.heap[k]? = none := Array.getElem?_eq_none (by rw [h.size]; omega)
     exfalso
     have := (Array.getElem?_eq_some_iff.1 h.here).1
     rw [h.size] at this
     omega) (fun e => by cases e; omega)⟩
theorem PutAt.other {w W : World} {g i : Nat} {new : Array Value} {t : TypeId} {o : Obj} (h : PutAt w W g new t) (hi : w.heap[i]? = some o) (hne : i ≠ g) : W.heap[i]? = some o :=
 (h.grown.block i (Array.getElem?_eq_some_iff.1 hi).1 (fun e => hne (by cases e; rfl))).trans hi
theorem PutAt.cell {w W : World} {g b o : Nat} {new : Array Value} {t : TypeId} {u : Value} (h : PutAt w W g new t) (hc : w.cell? ⟨b, o, none⟩ = some u) (hne : b ≠ g) : W.cell? ⟨b, o, none⟩ = some u :=
 h.grown.cell hc (fun e => hne (by cases e; rfl))
theorem PutAt.row {α : Type} {enc : α -> List Value} {k : Nat} {T : TypeId} {w W : World} {g N : Nat} {new : Array Value} {t : TypeId} {v : Value} {l : List α} (h : PutAt w W g new t) (hr : GRow T k enc w N v l) (hg : g < N) : GRow T k enc W N v l :=
 hr.kept h.grown (fun b e => by cases e; exact hg)
theorem zhx {w : World} {g o : Nat} {old : Array Value} {t : TypeId} (hg : w.heap[g]? = some (.cells old t (0, 0))) (v : Value) : PutAt w (w.setCell ⟨g, o, none⟩ v) g (old.setIfInBounds o v) t :=
 ⟨heap_setCell_same w g o old t v hg, by simp [World.setCell], ⟨rfl, rfl, rfl, by simp [World.setCell], fun k _ hk => Below.heap_setCell _ _ _ _ (fun e => hk (by rw [e]))⟩⟩
theorem zqy {w : World} {g : Nat} {old new : Array Value} {t : TypeId} (hg : w.heap[g]? = some (.cells old t (0, 0))) : (w.setRow g new).heap[g]? = some (.cells new t (0, 0)) := by
 have hlt := (Array.getElem?_eq_some_iff.1 hg).1
 have hv := (Array.getElem?_eq_some_iff.1 hg).2
 unfold World.setRow
 rw [Array.getElem?_eq_getElem (by simpa using hlt), Array.getElem_modify]
 simp [hv]
theorem zn7 {w : World} {g : Nat} {old new : Array Value} {t : TypeId} (hg : w.heap[g]? = some (.cells old t (0, 0))) : PutAt w (w.setRow g new) g new t :=
 ⟨zqy hg, by simp, ⟨rfl, rfl, rfl, by simp, fun k _ hk => setRow_other w g k new (fun e => hk (by rw [e]))⟩⟩
theorem z04 {P : Prop} (h : P := by
 have hs : i.size = 1 := by simpa [hq] using hi
 simp only [Nat.add_zero] at this
 simp [storeVar, sizeOf, typeInfo, hq, hcs, hs, this]
 rfl) : P := h
theorem run_set1 {P : Program} {w : World} {b o : Nat} {ty : TypeId} {v u : Value} (hc : w.cell? ⟨b, o, none⟩ = some u) (hf : w.frozen? ⟨b, o, none⟩ = false) (hi : (P.info? ty).map (·.size) = some 1) (h1 : v.oneCell' = true) :
  (storeVar ty ⟨b, o, none⟩ v).run P w = .ok () (w.setCell ⟨b, o, none⟩ v) := by
 have := run_storeCells_cells (P := P) b o [v] 0 w (fun j hj => by obtain rfl : j = 0 := by simpa using hj
                                                                   simp [hc]) (fun j hj => by obtain rfl : j = 0 := by simpa using hj
                                                                                              simp [hf]) (fun x hx => by simp at hx; subst hx; exact h1)
 have hcs : v.cells = #[v] := by cases v <;> first | rfl | cases h1
 cases hq : P.info? ty with
 | none => simp [hq] at hi
 | some i =>
  exact z04
theorem zan {ops : Array Oper} {rest : List Oper} {o : Oper} {a : Act} {w : World} {Q : Exit -> Act -> World -> Prop} (hgd : o.guard = none) (ty : TypeId) (x y : Operand) (ho : o.op = .store ty x y)
  (g off : Nat) (old : Array Value) (t : TypeId) (hg : w.heap[g]? = some (.cells old t (0, 0))) (hoff : off < old.size) (hx : a.eval x = .pointer (some ⟨g, off, none⟩)) (v : Value) (hy : a.eval y = v) (hi : (Tryz.prog.info? ty).map (·.size) = some 1) (h1 : v.oneCell' = true)
  (h : ∀ W, PutAt w W g (old.setIfInBounds off v) t -> wpList Tryz.prog ops Q rest (a.put o.dst undef) W) : wpList Tryz.prog ops Q (o :: rest) a w :=
 wpList_plain hgd fun K hK => by
  have hc : w.cell? ⟨g, off, none⟩ = some old[off] := by rw [zwd hg, Array.getElem?_eq_getElem hoff]
  unfold Oper.wp execOp
  simp only [ho, hx, hy, Instr.storeAt, Instr.sureAddr, Sem.run_bind, Sem.run_pure, Result.andThen_ok, run_set1 hc (Lib.frozen_of_heap hg off) hi h1]
  exact hK _ _ (h _ (zhx hg v))
theorem zi {ops : Array Oper} {rest : List Oper} {o : Oper} {a : Act} {w : World} {Q : Exit -> Act -> World -> Prop} (hgd : o.guard = none) (ty : TypeId) (x y : Operand) (ho : o.op = .store ty x y)
  (g : Nat) (old : Array Value) (t : TypeId) (hg : w.heap[g]? = some (.cells old t (0, 0))) (hx : a.eval x = .pointer (some ⟨g, 0, none⟩)) (new : Array Value) (hy : a.eval y = .agg new) (hs : old.size = new.size) (hi : (Tryz.prog.info? ty).map (·.size) = some new.size) (h1 : new.all (·.oneCell') = true)
  (h : ∀ W, PutAt w W g new t -> wpList Tryz.prog ops Q rest (a.put o.dst undef) W) : wpList Tryz.prog ops Q (o :: rest) a w :=
 wpList_store_row hgd ty x y ho g new hx hy t old hg hi hs h1 (h _ (zn7 hg))
section
variable {α : Type} {enc : α -> List Value} {k : Nat} {T : TypeId}
def GSl (k : Nat) (enc : α -> List Value) (w : World) (v : Value) (l : List α) : Prop := ∃ a cap, v = .slice a l.length cap /\ ∀ j (h : j < l.length), ∃ g off, a = some ⟨g, off, none⟩ /\ g < w.heap.size /\ ∀ i u, (enc l[j])[i]? = some u -> w.cell? ⟨g, off + j * k + i, none⟩ = some u
theorem GSl.nil (w : World) : GSl k enc w (.slice none 0 0) [] := ⟨none, 0, rfl, fun j h => by simp at h⟩
theorem GSl.slice {w : World} {v : Value} {l : List α} (h : GSl k enc w v l) : ∃ a cap, v = .slice a l.length cap := by
 obtain ⟨a, c, e, _⟩ := h
 exact ⟨a, c, e⟩
theorem GSl.below {w w' : World} {v : Value} {l : List α} (h : GSl k enc w v l) (hb : Below w.heap.size w w') : GSl k enc w' v l := by
 obtain ⟨a, cap, e, hc⟩ := h
 refine ⟨a, cap, e, fun j hj => ?_⟩
 obtain ⟨g, off, ea, hlt, hcell⟩ := hc j hj
 exact ⟨g, off, ea, Nat.lt_of_lt_of_le hlt hb.size, fun i u hu => (hb.cell (p := ⟨g, off + j * k + i, none⟩) hlt).trans (hcell i u hu)⟩
theorem GSl.at {w : World} {a : Option Addr} {n cap : Nat} {l : List α} (h : GSl k enc w (.slice a n cap) l) (j : Nat) (hj : j < l.length) : ∃ g off, a = some ⟨g, off, none⟩ /\ g < w.heap.size /\ ∀ i u, (enc l[j])[i]? = some u -> w.cell? ⟨g, off + j * k + i, none⟩ = some u := by
 obtain ⟨a', c, e, hc⟩ := h
 obtain ⟨g, off, ea, hb, hcell⟩ := hc j hj
 cases e
 exact ⟨g, off, ea, hb, hcell⟩
theorem GRow.gsl (hk : ∀ x, (enc x).length = k) {w : World} {N : Nat} {v : Value} {l : List α} (h : GRow T k enc w N v l) : GSl k enc w v l := by
 obtain ⟨a, cap, rfl⟩ := GRow.slice h
 refine ⟨a, cap, rfl, fun j hj => ?_⟩
 obtain ⟨g, c, e, _, hlt, hc⟩ := GRow.at hk h j hj
 cases e
 exact ⟨g, 0, rfl, hlt, fun i u hu => by rw [Nat.zero_add]; exact hc i u hu⟩
theorem GSl.cells (hk : ∀ x, (enc x).length = k) {w : World} {g off n cap : Nat} {l : List α} (h : GSl k enc w (.slice (some ⟨g, off, none⟩) n cap) l) (i : Nat) : ∀ j u, ((l.drop i).flatMap enc)[j]? = some u -> w.cell? ⟨g, off + i * k + j, none⟩ = some u := by
 intro j u hu
 have hlen := (List.getElem?_eq_some_iff.1 hu).1
 rw [zc4 hk] at hlen
 have hk0 : 0 < k := by
  rcases Nat.eq_zero_or_pos k with h0 | h0
  ·rw [h0, Nat.mul_zero] at hlen; omega
  ·exact h0
 have hdiv : j / k < (l.drop i).length := (Nat.div_lt_iff_lt_mul hk0).2 hlen
 have hmod := Nat.mod_lt j hk0
 have hsum : j = (j / k) * k + j % k := by rw [Nat.mul_comm]; exact (Nat.div_add_mod j k).symm
 rw [hsum, zgj hk _ hdiv _ hmod] at hu
 have hi : i + j / k < l.length := by rw [List.length_drop] at hdiv; exact Nat.add_lt_of_lt_sub' hdiv
 rw [List.getElem_drop] at hu
 obtain ⟨g', off', e, hlt, hc⟩ := h.at (i + j / k) hi
 cases e
 have := hc (j % k) u hu
 rw [show off + (i + j / k) * k + j % k = off + i * k + j by
   rw [Nat.add_mul]
   have h2 := hsum
   generalize j / k * k = A at *
   generalize j % k = B at *
   generalize i * k = C at *
   omega] at this
 exact this
theorem wn {ops : Array Oper} {o : Oper} {a : Act} {w : World} {K : Act -> World -> Prop} {Q : Exit -> Act -> World -> Prop} {E : Prop} (hk : ∀ x, (enc x).length = k) (hk0 : 0 < k) (h1c : ∀ x, ∀ u ∈ enc x, u.oneCell' = true) {bytes : Nat} (hi : xq T k bytes) (hby : bytes ≤ 1000) (hgd : o.guard = none) (s x : Operand) (S : TypeId)
  (ho : o.op = .call { callee := .builtin .append, args := #[s, x], argTypes := #[S, S] }) (hu : Tryz.prog.underlying S = some (.slice T))
  (N : Nat) (v : Value) (l : List α) (hs : a.eval s = v) (hown : GRow T k enc w N v l) (ad : Addr) (c : Nat) (ys : List α) (m : Nat) (hm : ys.length = m) (hx : a.eval x = .slice (some ad) m c) (hr : ∀ j u, (ys.flatMap enc)[j]? = some u -> w.cell? (ad.add j) = some u) (hl : l.length + ys.length ≤ 1000000) (hN : N ≤ w.heap.size)
  (h : ∀ v' w', GRow T k enc w' N v' (l ++ ys) -> w.grownBy w' v.ownBlock -> K (a.put o.dst v') w') : if Region.wanted o (yielded ops a.tmps) = true then Oper.wp Tryz.prog o a w K Q else E := by
 rw [if_pos (by simp [Region.wanted, hgd])]
 subst hm
 obtain ⟨ie, z, hie, hz, h1, h2, h3⟩ := hi
 obtain ⟨v', w', hr', ho', hg, _⟩ := run_append_own (P := Tryz.prog) w N S o.type T ie z k bytes hu hie hz h1 h2 h3 hk0 v l.length (l.flatMap enc) hown ad ys.length c (ys.flatMap enc) (zc4 hk ys) hr (fun u hu => by
   obtain ⟨y, _, hy⟩ := List.mem_flatMap.1 hu
   exact h1c y u hy) (by unfold maxLen; omega) (by
     have : (l.length + ys.length) * bytes ≤ 1000000 * 1000 := Nat.mul_le_mul hl hby
     omega) hN
 unfold Oper.wp execOp
 simp only [ho, resolve, invoke, builtin, Sem.run_bind, Sem.run_pure, Result.andThen_ok, List.map_toArray, List.map_cons, List.map_nil, hs, hx, hr']
 refine h v' w' ?_ hg
 unfold GRow
 rw [List.length_append, List.flatMap_append]
 exact ho'
theorem ue {ops : Array Oper} {o : Oper} {a : Act} {w : World} {K : Act -> World -> Prop} {Q : Exit -> Act -> World -> Prop} {E : Prop} (hk : ∀ x, (enc x).length = k) (hk0 : 0 < k) (h1c : ∀ x, ∀ u ∈ enc x, u.oneCell' = true) {bytes : Nat} (hi : xq T k bytes) (hby : bytes ≤ 1000) (hgd : o.guard = none) (s x : Operand) (S : TypeId)
  (ho : o.op = .call { callee := .builtin .append, args := #[s, x], argTypes := #[S, S] }) (hu : Tryz.prog.underlying S = some (.slice T))
  (N : Nat) (v : Value) (l : List α) (hs : a.eval s = v) (hown : GRow T k enc w N v l) (b : Nat) (c : α) (hx : a.eval x = .slice (some ⟨b, 0, none⟩) 1 1) (hr : ∀ j u, (enc c)[j]? = some u -> w.cell? ⟨b, j, none⟩ = some u) (hl : l.length ≤ 900000) (hN : N ≤ w.heap.size)
  (h : ∀ v' w', GRow T k enc w' N v' (l ++ [c]) -> w.grownBy w' v.ownBlock -> K (a.put o.dst v') w') : if Region.wanted o (yielded ops a.tmps) = true then Oper.wp Tryz.prog o a w K Q else E :=
 wn hk hk0 h1c hi hby hgd s x S ho hu N v l hs hown ⟨b, 0, none⟩ 1 [c] 1 rfl hx (fun j u hj => by
   rw [Addr.add_mid, Nat.zero_add]
   exact hr j u (by simpa using hj)) (by simp; omega) hN h
end
open Go.RowKit
theorem zgy {α : Type} {enc : α -> List Value} {k : Nat} {T : TypeId} {ops : Array Oper} {o : Oper} {a : Act} {w : World} {K : Act -> World -> Prop} {Q : Exit -> Act -> World -> Prop} {E : Prop} (hk : ∀ x, (enc x).length = k) (hk0 : 0 < k) (h1c : ∀ x, ∀ u ∈ enc x, u.oneCell' = true) {bytes : Nat} (hi : xq T k bytes) (hby : bytes ≤ 1000) (hgd : o.guard = none) (s x : Operand) (S : TypeId)
  (ho : o.op = .call { callee := .builtin .append, args := #[s, x], argTypes := #[S, S] }) (hu : Tryz.prog.underlying S = some (.slice T))
  (N : Nat) (v : Value) (l : List α) (hs : a.eval s = v) (hown : GRow T k enc w N v l) (b : Nat) (c : α) (hx : a.eval x = .slice (some ⟨b, 0, none⟩) 1 1) (hr : ∀ j u, (enc c)[j]? = some u -> w.cell? ⟨b, j, none⟩ = some u) (hl : l.length ≤ 900000) (hN : N ≤ w.heap.size)
  (h : ∀ v' w', GRow T k enc w' N v' (l ++ [c]) -> w.grownBy w' v.ownBlock -> (v'.ownBlock = v.ownBlock ∨ v'.ownBlock = some w.heap.size) -> K (a.put o.dst v') w') : if Region.wanted o (yielded ops a.tmps) = true then Oper.wp Tryz.prog o a w K Q else E := by
 rw [if_pos (by simp [Region.wanted, hgd])]
 obtain ⟨ie, z, hie, hz, h1, h2, h3⟩ := hi
 obtain ⟨v', w', hr', ho', hg, _, hob⟩ := run_append_own_at (P := Tryz.prog) w N S o.type T ie z k bytes hu hie hz h1 h2 h3 hk0 v l.length (l.flatMap enc) hown ⟨b, 0, none⟩ 1 1 (enc c) (by rw [hk]; omega) (fun j u hj => by
   rw [Addr.add_mid, Nat.zero_add]
   exact hr j u hj) (h1c c) (by unfold maxLen; omega) (by
     have : (l.length + 1) * bytes ≤ 1000000 * 1000 := Nat.mul_le_mul (by omega) hby
     omega) hN
 unfold Oper.wp execOp
 simp only [ho, resolve, invoke, builtin, Sem.run_bind, Sem.run_pure, Result.andThen_ok, List.map_toArray, List.map_cons, List.map_nil, hs, hx, hr']
 refine h v' w' ?_ hg hob
 unfold GRow
 rw [List.length_append, List.flatMap_append]
 simpa using ho'
structure Lsl where
 a : Option Addr
 n : Nat
 c : Nat
def Lsl.v (s : Lsl) : Value := .slice s.a s.n s.c
def lslE (s : Lsl) : List Value := [s.v]
theorem zec (s : Lsl) : (lslE s).length = 1 := rfl
theorem zg5 (s : Lsl) : ∀ u ∈ lslE s, u.oneCell' = true := by
 intro u hu
 simp [lslE] at hu
 subst hu
 rfl
theorem zw1 {P : Prop} (h : P := by
 rw [hq] at h
 simp only [Bool.and_eq_true, beq_iff_eq] at h
 obtain ⟨h1, h2, h3⟩ := h
 cases hz : i.zero with
 | none => rw [hz] at h3; cases h3
 | some z =>
  rw [hz] at h3
  exact ⟨i, z, rfl, hz, h1, h2, by simpa using h3⟩) : P := h
theorem zem : xq 41 1 24 := by
 have h : (match Tryz.prog.info? 41 with | some i => i.size == 1 && (i.bytes == 24 && (match i.zero with | some z => z.cells.size == 1 | none => false)) | none => false) = true := by kernel_rfl
 unfold xq
 cases hq : Tryz.prog.info? 41 with
 | none => rw [hq] at h; cases h
 | some i =>
  exact zw1
theorem Strs.grown {w w' : World} {v : Value} {l : List V.Bs} {row : Option Nat} (h : Strs w v l) (hg : w.grownBy w' row) (hs : l ≠ [] -> ∀ c, v.ownBlock = some c -> row ≠ some c) : Strs w' v l := by
 obtain ⟨a, cap, rfl, hx⟩ := h
 refine ⟨a, cap, rfl, fun j hj => ?_⟩
 obtain ⟨b, off, rfl, hlt, h0⟩ := hx j hj
 have hne : l ≠ [] := fun e => by rw [e] at hj; simp at hj
 have hb : row ≠ some b := hs hne b rfl
 exact ⟨b, off, rfl, Nat.lt_of_lt_of_le hlt hg.size, hg.cell h0 (fun e => hb e.symm)⟩
theorem z05 {P : Prop} (h : P := by
 obtain ⟨a, cap, rfl, hx⟩ := h
 obtain ⟨b, off, rfl, hlt, _⟩ := hx 0 (List.length_pos_iff.2 hl)
 simp [Value.ownBlock] at hc
 omega) : P := h
theorem Strs.lt {w : World} {v : Value} {l : List V.Bs} (h : Strs w v l) (hl : l ≠ []) {c : Nat} (hc : v.ownBlock = some c) : c < w.heap.size := by
 exact z05
structure LRow (N : Nat) (w : World) (v : Value) (us : List Lsl) (ls : List (List V.Bs)) : Prop where
 row : GRow 41 1 lslE w N v us
 len : us.length = ls.length
 each : ∀ j (h : j < us.length) (h' : j < ls.length), Strs w us[j].v ls[j] /\ (ls[j] ≠ [] -> ∀ c, us[j].v.ownBlock = some c -> v.ownBlock ≠ some c)
theorem LRow.nil (N : Nat) (w : World) : LRow N w (.slice none 0 0) [] [] := ⟨GRow.nil _ _, rfl, fun j h => by simp at h⟩
theorem LRow.later {N : Nat} {w w' : World} {v : Value} {us : List Lsl} {ls : List (List V.Bs)} (h : LRow N w v us ls) (hb : Below w.heap.size w w') : LRow N w' v us ls :=
 ⟨GRow.below h.row hb, h.len, fun j hj hj' => ⟨xt (h.each j hj hj').1 hb, (h.each j hj hj').2⟩⟩
theorem z0o {P : Prop} (h : P := by
 refine ⟨hq.grown hg hn, fun hy c hc => ?_⟩
 rcases ho with e | e
 ·rw [e]; exact hn hy c hc
 ·rw [e]
  intro g
  have := hq.lt hy hc
  cases g
  omega) : P := h
theorem z1w {P : Prop} (h : P := by
 rw [List.getElem_append_left e, List.getElem_append_left e2]
 exact one _ _ (h.each j e e2).1 (h.each j e e2).2) : P := h
theorem LRow.add {N : Nat} {w w' : World} {v v' : Value} {us : List Lsl} {ls : List (List V.Bs)} {u : Lsl} {x : List V.Bs} (h : LRow N w v us ls) (hr : GRow 41 1 lslE w' N v' (us ++ [u])) (hg : w.grownBy w' v.ownBlock) (ho : v'.ownBlock = v.ownBlock ∨ v'.ownBlock = some w.heap.size)
  (hu : Strs w u.v x) (hs : x ≠ [] -> ∀ c, u.v.ownBlock = some c -> v.ownBlock ≠ some c) : LRow N w' v' (us ++ [u]) (ls ++ [x]) := by
 have one : ∀ (q : Value) (y : List V.Bs), Strs w q y -> (y ≠ [] -> ∀ c, q.ownBlock = some c -> v.ownBlock ≠ some c) -> Strs w' q y /\ (y ≠ [] -> ∀ c, q.ownBlock = some c -> v'.ownBlock ≠ some c) := fun q y hq hn => by
  exact z0o
 refine ⟨hr, by rw [List.length_append, List.length_append, h.len]; rfl, fun j hj hj' => ?_⟩
 by_cases e : j < us.length
 ·have e2 : j < ls.length := by rw [← h.len]; exact e
  exact z1w
 ·have ej : j = us.length := by rw [List.length_append, List.length_singleton] at hj; omega
  subst ej
  have e1 : (us ++ [u])[us.length] = u := by simp
  have e2 : (ls ++ [x])[us.length]'hj' = x := by simp [h.len]
  rw [e1, e2]
  exact one _ _ hu hs
theorem LRow.one {N : Nat} {w : World} {u : Lsl} {x : List V.Bs} (hN : N ≤ w.heap.size) (hu : Strs w u.v x) (h0 : x ≠ []) : LRow N (w.alloc (.cells #[u.v] 41)) (.slice (some ⟨w.heap.size, 0, none⟩) 1 1) [u] [x] := by
 have hb : Below w.heap.size w (w.alloc (.cells #[u.v] 41)) := (zwh _ w).alloc (zwg _) _
 refine ⟨⟨rfl, .inr ⟨w.heap.size, 1, #[u.v], rfl, hN, ?_, zwg _, by unfold maxLen; omega, rfl, rfl⟩⟩, rfl, fun j hj hj' => ?_⟩
 ·rw [heap_alloc, if_pos rfl]
 ·obtain rfl : j = 0 := by simpa using hj
  refine ⟨xt hu hb, fun _ c hc => ?_⟩
  have := hu.lt h0 hc
  intro e
  simp [Value.ownBlock] at e
  omega
theorem LRow.lines {N : Nat} {w : World} {v : Value} {us : List Lsl} {ls : List (List V.Bs)} (h : LRow N w v us ls) : Lines w v ls := by
 obtain ⟨a, cap, rfl⟩ := GRow.slice h.row
 refine ⟨a, cap, by rw [h.len], fun j hj => ?_⟩
 have hj' : j < us.length := by rw [h.len]; exact hj
 obtain ⟨g, cap2, e, hN, hg, hc⟩ := GRow.at zec h.row j hj'
 cases e
 exact ⟨g, 0, us[j].v, rfl, hg, by simpa using hc 0 us[j].v rfl, (h.each j hj' hj).1⟩
theorem LRow.slice {N : Nat} {w : World} {v : Value} {us : List Lsl} {ls : List (List V.Bs)} (h : LRow N w v us ls) : ∃ a cap, v = .slice a ls.length cap := by
 rw [← h.len]; exact GRow.slice h.row
theorem zcl (w : World) (l : List V.Bs) : Strs (w.alloc (.cells (l.map fun x => Value.string ⟨x.toArray⟩).toArray 9)) (.slice (some ⟨w.heap.size, 0, none⟩) l.length l.length) l :=
 ⟨_, _, rfl, fun j hj => ⟨w.heap.size, 0, rfl, by simp, by rw [Nat.zero_add, World.cell?_alloc_new]; simp [hj]⟩⟩
theorem zs4 (w : World) (k : Nat) (os : Array Obj) : Below w.heap.size w (Sort.grow (w.drewN k) os) :=
 ⟨rfl, rfl, rfl, by simp, fun q hq => by rw [Sort.heap_grow_old _ _ (by simpa using hq)]; rfl⟩
theorem zkh : ∀ (k u : Nat), u < 10 ^ k -> 0 < k -> Lib.nDigits u ≤ k
 | 0, _, _, h => absurd h (by omega)
 | 1, u, h, _ => by rw [Lib.nDigits_small (by simpa using h)]; exact zwg _
 | k + 2, u, h, _ => by
  rw [Lib.nDigits]
  split
  ·omega
  ·have := zkh (k + 1) (u / 10) (by rw [Nat.pow_succ] at h; omega) (by omega)
   omega
theorem zjf {n : Nat} (h : n ≤ 2199023255552) : (Lib.decDigits n).length ≤ 13 := by
 rw [Lib.decDigits_length]
 exact zkh 13 n (by omega) (by omega)
def zcc (q : Nat) : V.Bs := if q = 0 then [] else Lib.decDigits q
theorem zo4 {q : Nat} (h : 0 < q) : zcc q = zcc (q / 10) ++ [UInt8.ofNat (48 + q % 10)] := by
 unfold zcc
 rw [if_neg (by omega), Lib.decDigits]
 split
 ·rename_i h10
  rw [if_pos (by omega), Nat.mod_eq_of_lt h10]
  rfl
 ·rw [if_neg (by omega)]
theorem zm3 (n : Nat) (w : World) (hn : n ≤ 2199023255552) (htab : Lib.TabIs Tryz.prog w "internal/strconv.uint64pow10" .u64 Lib.pow10Tab) :
  Calls Tryz.prog 32 #[.int .i64 n] w fun e w' => e = .returned (.string ⟨(Lib.decDigits n).toArray⟩) /\ Below w.heap.size w w' := by
 have HT := zwe htab
 clear htab
 go_enter Tryz.func32, Tryz.ntmps32
 go_wp2_with fail
 refine (Tryz.strconv_FormatInt_10 n (by omega) (by omega) w HT.out).mono ?_
 rintro e w' ⟨rfl, k, os, rfl⟩
 have HI : Hid (Lib.itoa n = Lib.decDigits n) := zwe (by unfold Lib.itoa; rw [if_neg (by omega)]; simp)
 rw [HI.out]
 have HB := zwe (zs4 w k os)
 generalize Sort.grow (w.drewN k) os = w1 at *
 go_wp2
 go_ret
 exact ⟨rfl, HB.out⟩
theorem zvq (W : World) (n : Int) : (convert 23 9 (.slice (some ⟨W.heap.size, 0, none⟩) 1 1)).run Tryz.prog (W.alloc (.cells #[.int .u8 n] 5)) =
  .ok (.string ⟨#[UInt8.ofNat n.toNat]⟩) (W.alloc (.cells #[.int .u8 n] 5)) := by
 have h := run_convert_bytes_arg (P := Tryz.prog) (W.alloc (.cells #[.int .u8 n] 5)) 23 5 Tryz.underlying23 Tryz.underlying5 W.heap.size 0 1 1 [n] rfl (fun i hi => by
   obtain rfl : i = 0 := by omega
   rw [World.cell?_alloc_new]; rfl) 9 Tryz.underlying9
 exact h
theorem zli (n : Nat) (w : World) (hn : n ≤ 2199023255552) :
  Calls Tryz.prog 14 #[.int .i64 n] w fun e w' => e = .returned (.string ⟨(Lib.decDigits n).toArray⟩) /\ Below w.heap.size w w' := by
 by_cases h0 : n = 0
 ·subst h0
  have HD : Hid (Lib.decDigits 0 = [48]) := zwe (by rw [Lib.decDigits_one (by omega)]; rfl)
  rw [HD.out]
  go_enter Tryz.func14, Tryz.ntmps14
  go_wp2
  go_ret
  exact ⟨rfl, zwh _ _⟩
 ·have HD : Hid (Lib.decDigits n = zcc n) := zwe (by unfold zcc; rw [if_neg h0])
  have HL : Hid ((Lib.decDigits n).length ≤ 13) := zwe (zjf hn)
  have hb0 : ((n : Int) == 0) = false := by rw [zwi]; omega
  have hw : IntKind.u64.wrap (n : Int) = (n : Int) := by unfold IntKind.wrap; simp [IntKind.signed, IntKind.bits]; omega
  have hl0 : ¬ (n : Int) < 0 := by omega
  go_enter Tryz.func14, Tryz.ntmps14
  go_wp2
  go_loopw [4, 5] (fun uv sv wx => ∃ (q : Nat) (S : V.Bs), q ≤ n /\ uv = .int .u64 q /\ sv = .string ⟨S.toArray⟩ /\ Lib.decDigits n = zcc q ++ S /\ Below w.heap.size w wx) (fun uv _ _ => (intOf uv).toNat)
  case atStart => exact ⟨n, [], zwg _, rfl, rfl, by rw [List.append_nil]; exact HD.out, zwh _ _⟩
  case round =>
   obtain ⟨q, S, hq, rfl, rfl, heq, hb⟩ := hrel
   have HE := zwe heq
   have HB := zwe hb
   have hsl : S.length ≤ 13 := by
    have := HL.out
    rw [heq, List.length_append] at this
    omega
   clear heq hb
   by_cases hq0 : q = 0
   ·subst hq0
    have HF : Hid (Lib.decDigits n = S) := zwe (by rw [HE.out]; rfl)
    go_wp2
    go_ret
    exact ⟨congrArg (fun x => Ending.returned (.string x)) (jk (by rw [HF.out]; simp [ByteArray.data_append])), HB.out⟩
   ·have hq1 : (0 : Int) < (q : Int) := by omega
    have hrem : (q : Int).tmod 10 = ((q % 10 : Nat) : Int) := by rw [Int.tmod_eq_emod_of_nonneg (by omega)]; rfl
    have hquo : (q : Int).tdiv 10 = ((q / 10 : Nat) : Int) := by rw [Int.tdiv_eq_ediv_of_nonneg (by omega)]; rfl
    have hr10 : q % 10 < 10 := Nat.mod_lt _ (by omega)
    have HST : Hid (zcc q = zcc (q / 10) ++ [UInt8.ofNat (48 + q % 10)]) := zwe (zo4 (by omega))
    have hdle : q / 10 ≤ n := by omega
    have hdlt : q / 10 < q := by omega
    obtain ⟨r, hr⟩ : ∃ r, r = q % 10 := ⟨_, rfl⟩
    obtain ⟨p, hp⟩ : ∃ p, p = q / 10 := ⟨_, rfl⟩
    rw [← hr] at hrem HST hr10
    rw [← hp] at hquo HST hdle hdlt
    clear hr hp
    have hadd : IntKind.u64.wrap (48 + (r : Int)) = 48 + (r : Int) := by unfold IntKind.wrap; simp [IntKind.signed, IntKind.bits]; omega
    have hcv : IntKind.u8.wrap (48 + (r : Int)) = 48 + (r : Int) := by unfold IntKind.wrap; simp [IntKind.signed, IntKind.bits]; omega
    have hwr : IntKind.u64.wrap (r : Int) = (r : Int) := by unfold IntKind.wrap; simp [IntKind.signed, IntKind.bits]; omega
    have hwp : IntKind.u64.wrap (p : Int) = (p : Int) := by unfold IntKind.wrap; simp [IntKind.signed, IntKind.bits]; omega
    have hconv := zvq wr (48 + (r : Int))
    go_wp2
    go_roundw
    case rel => exact ⟨p, UInt8.ofNat (48 + r) :: S, hdle, rfl, congrArg Value.string (jk (by simp [ByteArray.data_append, UInt8.ofNat_add])), by rw [HE.out, HST.out]; simp, HB.out.trans (((zwh _ wr).alloc (zwg _) _).mono HB.out.size)⟩
    case measure => simp [intOf]; omega
open Go.RowKit
theorem kb {P : Program} {fn : Func} {p q : Tmp} {ty : TypeId} (h : fn.results = #[.cell p ty, .tmp q]) {tmps : Array Value} {w : World} {a : Addr} {v u : Value}
  (hp : tmps.getD p undef = .pointer (some a)) (hq : tmps.getD q undef = u) (hl : (loadVar ty a).run P w = .ok v w) : (results fn tmps).run P w = .ok (.tuple #[v, u]) w := by
 have hp' : tmps[p]?.getD undef = .pointer (some a) := by simpa using hp
 have hq' : tmps[q]?.getD undef = u := by simpa using hq
 simp [results, h, hp', hq', asAddr, hl]
theorem zi4 {P : Program} {fn : Func} {p : Tmp} {ty : TypeId} (h : fn.results = #[.cell p ty]) {tmps : Array Value} {w : World} {a : Addr} {v : Value}
  (hp : tmps.getD p undef = .pointer (some a)) (hl : (loadVar ty a).run P w = .ok v w) : (results fn tmps).run P w = .ok v w := by
 have hp' : tmps[p]?.getD undef = .pointer (some a) := by simpa using hp
 simp [results, h, hp', asAddr, hl]
theorem qj (w : World) (g : Nat) (cs : Array Value) : w.grownBy (w.setRow g cs) (some g) :=
 ⟨rfl, rfl, rfl, by simp, fun i _ hi => setRow_other w g i cs (fun e => hi (by rw [e]))⟩
theorem zba {w : World} {g : Nat} {cs : Array Value} {t : TypeId} {fr : Nat × Nat} (o : Nat) (v : Value) (hg : w.heap[g]? = some (.cells cs t fr)) : (w.setCell ⟨g, o, none⟩ v).heap[g]? = some (.cells (cs.setIfInBounds o v) t fr) := by
 have hlt := (Array.getElem?_eq_some_iff.1 hg).1
 have hv := (Array.getElem?_eq_some_iff.1 hg).2
 unfold World.setCell
 rw [Array.getElem?_eq_getElem (by simpa using hlt), Array.getElem_modify]
 simp [hv]
theorem zbs {w : World} {g o : Nat} {cs : Array Value} {t : TypeId} (hg : w.heap[g]? = some (.cells cs t (0, 0))) : w.frozen? ⟨g, o, none⟩ = false := by
 simp [World.frozen?, hg]
theorem zt4 {P : Program} {w : World} {b o : Nat} {ty : TypeId} {v u : Value} (hc : w.cell? ⟨b, o, none⟩ = some u) (hf : w.frozen? ⟨b, o, none⟩ = false) (hi : (P.info? ty).map (·.size) = some 1) (h1 : v.oneCell' = true) :
  (storeVar ty ⟨b, o, none⟩ v).run P w = .ok () (w.setCell ⟨b, o, none⟩ v) := by
 have := run_storeCells_cells (P := P) b o [v] 0 w (fun j hj => by obtain rfl : j = 0 := by simpa using hj
                                                                   simp [hc]) (fun j hj => by obtain rfl : j = 0 := by simpa using hj
                                                                                              simp [hf]) (fun x hx => by simp at hx; subst hx; exact h1)
 have hcs : v.cells = #[v] := by cases v <;> first | rfl | cases h1
 cases hq : P.info? ty with
 | none => simp [hq] at hi
 | some i =>
  exact z04
theorem zpz {ops : Array Oper} {rest : List Oper} {o : Oper} {a : Act} {w : World} {Q : Exit -> Act -> World -> Prop} (hgd : o.guard = none) (ty : TypeId) (x y : Operand) (ho : o.op = .store ty x y)
  (b off : Nat) (hx : a.eval x = .pointer (some ⟨b, off, none⟩)) (v : Value) (hy : a.eval y = v) (u : Value) (hc : w.cell? ⟨b, off, none⟩ = some u) (hf : w.frozen? ⟨b, off, none⟩ = false) (hi : (Tryz.prog.info? ty).map (·.size) = some 1) (h1 : v.oneCell' = true)
  (h : wpList Tryz.prog ops Q rest (a.put o.dst undef) (w.setCell ⟨b, off, none⟩ v)) : wpList Tryz.prog ops Q (o :: rest) a w :=
 wpList_plain hgd fun K hK => by
  unfold Oper.wp execOp
  simp only [ho, hx, hy, Instr.storeAt, Instr.sureAddr, Sem.run_bind, Sem.run_pure, Result.andThen_ok, zt4 hc hf hi h1]
  exact hK _ _ h
namespace V
theorem zor {ls : List (List Bs)} {M : Nat} (h : ∀ x ∈ ls, jl x x.length ≤ M) : ∀ k, k ≤ ls.length -> jp ls k ≤ k * M
 | 0, _ => by simp [jp]
 | k + 1, hk => by
  rw [yt (by omega)]
  have h1 := zor h k (by omega)
  have h2 := h _ (List.getElem_mem (show k < ls.length by omega))
  rw [Nat.succ_mul]
  omega
theorem zsw {x : List Bs} {M : Nat} (h : ∀ u ∈ x, ww u + 1 ≤ M) : jl x x.length ≤ x.length * M := by
 unfold jl
 rw [List.take_length]
 induction x with
 | nil => simp
 | cons u x ih =>
  rw [List.map_cons, List.sum_cons, List.length_cons, Nat.succ_mul]
  have h1 := h u (List.mem_cons_self ..)
  have h2 := ih fun v hv => h v (List.mem_cons_of_mem _ hv)
  omega
end V
theorem zqv {P : Program} {w w' : World} {name : String} {k : IntKind} {zs : List Int} (h : Lib.TabIs P w name k zs) (hb : Below w.heap.size w w') : Lib.TabIs P w' name k zs := by
 unfold Lib.TabIs World.var? at *
 cases hg : P.globalNamed name with
 | none => rw [hg] at h; cases h
 | some g =>
  rw [hg] at h
  simp only [Option.bind_some] at h ⊢
  cases hq : w.heap[g]? with
  | none => rw [hq] at h; cases h
  | some o => rw [hb.block g (Array.getElem?_eq_some_iff.1 hq).1]; exact h
def zc6 (w : World) : Prop := Lib.TabIs Tryz.prog w "internal/strconv.uint64pow10" .u64 Lib.pow10Tab
theorem zc6.below {w w' : World} (h : zc6 w) (hb : Below w.heap.size w w') : zc6 w' := zqv h hb
theorem zb {W W' : World} {b o : Nat} {v : Value} (hb : Below W.heap.size W W') (h : W.cell? ⟨b, o, none⟩ = some v) : W'.cell? ⟨b, o, none⟩ = some v :=
 (hb.cell (p := ⟨b, o, none⟩) (World.block_lt_of_cell? _ _ h)).trans h
def ul (l : List V.Bs) : Array Value := (l.map fun x => Value.string ⟨x.toArray⟩).toArray
theorem infoS : ∃ i, Tryz.prog.info? 9 = some i /\ i.zero = some (.string ⟨#[]⟩) /\ i.size = 1 /\ i.bytes = 16 := by
 have h : (Tryz.prog.info? 9).map (fun i => (i.zero, i.size, i.bytes)) = some (some (.string ⟨#[]⟩), 1, 16) := by kernel_rfl
 exact z1e
theorem zbf {ops : Array Oper} {o : Oper} {a : Act} {w : World} {K : Act -> World -> Prop} {Q : Exit -> Act -> World -> Prop} {E : Prop} (hgd : o.guard = none) (e1 : Operand) (ho : o.op = .buildSlice 42 1 #[(0, e1)])
  (u : Lsl) (h1 : a.eval e1 = u.v)
  (h : K (a.put o.dst (.slice (some ⟨w.heap.size, 0, none⟩) 1 1)) (w.alloc (.cells #[u.v] 41))) : if Region.wanted o (yielded ops a.tmps) = true then Oper.wp Tryz.prog o a w K Q else E := by
 rw [if_pos (by simp [Region.wanted, hgd])]
 obtain ⟨ie, z, hie, hz, q1, q2, q3⟩ := zem
 refine wp_buildSlice _ 41 1 _ ho #[u.v] ie z Tryz.underlying42 hie hz (by rw [q1]; decide) (by rw [q1]; decide) ?_ h
 have := Great.fill_whole (s := 1) (by decide) [u.v] ((Array.range (1 * ie.size)).map (z.cells[· % z.cells.size]!)) (fun v hv => by
   rw [List.mem_singleton.1 hv]; rfl) (by rw [q1]; simp)
 rw [q1] at this ⊢
 simp only [h1, List.map_toArray, List.map_cons, List.map_nil]
 exact this
theorem zou (w : World) (u : Lsl) : ∀ j v, (lslE u)[j]? = some v -> (w.alloc (.cells #[u.v] 41)).cell? ⟨w.heap.size, j, none⟩ = some v := fun j v h => by
 rw [World.cell?_alloc_new]
 simpa [lslE] using h
theorem zis {n : Int} (h0 : 0 ≤ n) (h1 : n ≤ 2199023255552) (w : World) (hp : zc6 w) :
  Calls Tryz.prog 32 #[.int .i64 n] w fun e w' => e = .returned (.string ⟨(Lib.decDigits n.toNat).toArray⟩) /\ Below w.heap.size w w' := by
 have := zm3 n.toNat w (by omega) hp
 rwa [Int.toNat_of_nonneg h0] at this
theorem zgi {n : Int} (h0 : 0 ≤ n) (h1 : n ≤ 2199023255552) (w : World) :
  Calls Tryz.prog 14 #[.int .i64 n] w fun e w' => e = .returned (.string ⟨(Lib.decDigits n.toNat).toArray⟩) /\ Below w.heap.size w w' := by
 have := zli n.toNat w (by omega)
 rwa [Int.toNat_of_nonneg h0] at this
structure EncS (N : Nat) (W0 : World) (v : Value) (ls : List (List V.Bs)) (w : World) : Prop where
 row : ∃ us, LRow N w v us ls
 below : Below N W0 w
 size : N ≤ w.heap.size
open Go.RowKit
def affV (a : V.Aff) (u : Value) : Value := .agg #[.int .i64 a.sch, .string ⟨a.name.toArray⟩, .int .i64 a.rs, u]
def pkgV (n : Int) (s : V.Bs) : Value := .agg #[.int .i64 n, .string ⟨s.toArray⟩]
theorem two_ints (w : World) (a b : Int) (t : TypeId) : ∀ j, j < [a, b].length -> (w.alloc (.cells #[.int .i64 a, .int .i64 b] t)).cell? ⟨w.heap.size, j, none⟩ = some (.int .i64 ([a, b].getD j 0)) := by
 exact z1s
theorem zvx (w : World) (a b : Int) (t : TypeId) : ∀ j, j < [a, b].length -> (w.alloc (.cells #[.int .i64 a, .int .i64 b] t)).drew.cell? ⟨w.heap.size, j, none⟩ = some (.int .i64 ([a, b].getD j 0)) := fun j hj => by
 rw [World.cell?_drew]; exact two_ints w a b t j hj
theorem zdq {w : World} (o1 o2 : Obj) : Below w.heap.size w ((w.alloc o1).alloc o2) /\ (∀ k, ((w.alloc o1).alloc o2).cell? ⟨w.heap.size, k, none⟩ = (w.alloc o1).cell? ⟨w.heap.size, k, none⟩) /\ (∀ k, ((w.alloc o1).alloc o2).cell? ⟨w.heap.size + 1, k, none⟩ = ((w.alloc o1).alloc o2).cell? ⟨(w.alloc o1).heap.size, k, none⟩) := by
 refine ⟨((zwh _ w).alloc (zwg _) _).alloc (by simp) _, fun k => ?_, fun k => by rw [World.size_alloc]⟩
 exact ((zwh _ (w.alloc o1)).alloc (zwg _) o2).cell (p := ⟨w.heap.size, k, none⟩) (by show w.heap.size < _; simp)
theorem zx6 {P : Prop} (h : P := by
 (try dsimp only); exact ⟨zb ((zwh _ _).alloc (zwg _) _) hHeld.1, zb ((zwh _ _).alloc (zwg _) _) hHeld.2.1, zb ((zwh _ _).alloc (zwg _) _) hHeld.2.2.1, zb ((zwh _ _).alloc (zwg _) _) hHeld.2.2.2⟩) : P := h
theorem zl9 (a b : V.Aff) (ua va : Option Addr) (un uc vn vc : Nat) (w : World) :
  Calls Tryz.prog 60 #[affV a (.slice ua un uc), affV b (.slice va vn vc)] w fun e w' => e = .returned (.int .i64 (V.affC a b)) /\ Below w.heap.size w w' := by
 obtain ⟨hb, h0, h1⟩ := zdq (w := w) (.cells #[.int .i64 a.sch, .string ⟨a.name.toArray⟩, .int .i64 a.rs, .slice ua un uc] 47) (.cells #[.int .i64 b.sch, .string ⟨b.name.toArray⟩, .int .i64 b.rs, .slice va vn vc] 47)
 have HB := zwe hb
 have c0 := (h0 0).trans (World.cell?_alloc_new ..)
 have c1 := (h0 1).trans (World.cell?_alloc_new ..)
 have d0 := (h1 0).trans (World.cell?_alloc_new ..)
 have d1 := (h1 1).trans (World.cell?_alloc_new ..)
 simp only [List.getElem?_toArray, List.getElem?_cons_zero, List.getElem?_cons_succ] at c0 c1 d0 d1
 clear hb h0 h1
 have HF : Hid (V.affC a b = V.orI [Lib.compareInt a.sch b.sch, Lib.compareBytes a.name b.name]) := zwe rfl
 unfold affV
 go_enter Tryz.func60, Tryz.ntmps60
 go_wp2_with fail
 generalize (w.alloc (.cells #[.int .i64 a.sch, .string ⟨a.name.toArray⟩, .int .i64 a.rs, .slice ua un uc] 47)).alloc (.cells #[.int .i64 b.sch, .string ⟨b.name.toArray⟩, .int .i64 b.rs, .slice va vn vc] 47) = w0 at *
 refine wp_region_held_drew (S := (fun W' => W'.cell? ⟨w.heap.size, 0, none⟩ = some (.int .i64 a.sch) /\ W'.cell? ⟨w.heap.size, 1, none⟩ = some (.string ⟨a.name.toArray⟩) /\ W'.cell? ⟨w.heap.size + 1, 0, none⟩ = some (.int .i64 b.sch) /\ W'.cell? ⟨w.heap.size + 1, 1, none⟩ = some (.string ⟨b.name.toArray⟩))) (by kernel_rfl) (by (try dsimp only); exact ⟨zb (zwh _ _).drew c0, zb (zwh _ _).drew c1, zb (zwh _ _).drew d0, zb (zwh _ _).drew d1⟩) (fun hHeld => ?_)
 refine tk 0 ?_
 refine tk 1 ?_
 refine tk 2 ?_
 refine tk 3 ?_
 refine tk 5 ?_
 refine tk 6 ?_
 refine tk 7 ?_
 refine tk 8 ?_
 refine rd 4 fun K hK => ?_
 go_simp
 refine (Tryz.cmp_Compare_int _ _ _).mono ?_
 rintro e w' ⟨rfl, rfl⟩
 try dsimp only
 refine hK.out _ _ ?_ (fun hHeld => nx ?_)
 ·(try dsimp only); exact hHeld
 clear hK K
 refine rd 9 fun K hK => ?_
 go_simp
 refine (zsy _ _ _).mono ?_
 rintro e w' ⟨rfl, rfl⟩
 try dsimp only
 try rw [kn, kn]
 refine hK.out _ _ ?_ (fun hHeld => nx ?_)
 ·(try dsimp only); exact hHeld
 clear hK K
 refine rd 10 fun K hK => ?_
 go_simp
 refine hK.out _ _ ?_ (fun hHeld => nx ?_)
 ·exact zx6
 clear hK K
 refine rd 11 fun K hK => ?_
 go_simp
 refine (zpm _ [Lib.compareInt a.sch b.sch, Lib.compareBytes a.name b.name] _ (by simp) (zvx _ _ _ _)).mono ?_
 rintro e w' ⟨rfl, rfl⟩
 try dsimp only
 refine hK.out _ _ ?_ (fun hHeld => nx ?_)
 ·(try dsimp only); exact hHeld
 clear hK K
 refine tk 12 ?_
 refine wpAnyH_done (by kernel_rfl) ?_ _
 have hb9 : Below w0.heap.size w0 (w0.alloc (.cells #[.int .i64 (Lib.compareInt a.sch b.sch), .int .i64 (Lib.compareBytes a.name b.name)] 3)).drew := ((zwh _ w0).alloc (zwg _) _).drew
 have HB9 := zwf HB hb9
 clear hb9 hHeld
 go_wp2
 go_ret
 exact ⟨zp HF.out.symm, HB9.out⟩
theorem z0j {P : Prop} (h : P := by
 go_enter Tryz.func42, Tryz.ntmps42
 go_wp2
 go_ret
 exact ⟨zc HF.out.symm, HB.out⟩) : P := h
theorem zij (n m : Int) (s t : V.Bs) (w : World) :
  Calls Tryz.prog 42 #[pkgV n s, pkgV m t] w fun e w' => e = .returned (.bool (decide (V.orI [Lib.compareInt n m, Lib.compareBytes s t] < 0))) /\ Below w.heap.size w w' := by
 have HB := zwe (zdq (w := w) (.cells #[.int .i64 n, .string ⟨s.toArray⟩] 58) (.cells #[.int .i64 m, .string ⟨t.toArray⟩] 58)).1
 have hbl : Op.bytesLess (⟨s.toArray⟩ : ByteArray).toList (⟨t.toArray⟩ : ByteArray).toList = decide (Lib.compareBytes s t < 0) := by rw [Lib.toList_data, Lib.toList_data]; exact wv _ _
 have hbl2 : Op.bytesLess s t = decide (Lib.compareBytes s t < 0) := wv _ _
 unfold pkgV
 by_cases h1 : n < m
 ·have HF : Hid (decide (V.orI [Lib.compareInt n m, Lib.compareBytes s t] < 0) = true) := zwe (by
    have e : Lib.compareInt n m = -1 := by unfold Lib.compareInt; rw [if_pos h1]
    rw [e]; rfl)
  exact z0j
 ·by_cases h2 : n = m
  ·subst h2
   have HF : Hid (decide (V.orI [Lib.compareInt n n, Lib.compareBytes s t] < 0) = decide (Lib.compareBytes s t < 0)) := zwe (by
     have e : Lib.compareInt n n = 0 := by unfold Lib.compareInt; rw [if_neg (by omega), if_neg (by omega)]
     rw [e]
     unfold V.orI V.orI V.orI V.cor
     simp
     split <;> simp_all)
   rw [HF.out]
   generalize decide (Lib.compareBytes s t < 0) = r at *
   go_enter Tryz.func42, Tryz.ntmps42
   go_wp2
   go_ret
   exact ⟨zc rfl, HB.out⟩
  ·have HF : Hid (decide (V.orI [Lib.compareInt n m, Lib.compareBytes s t] < 0) = false) := zwe (by
     have e : Lib.compareInt n m = 1 := by unfold Lib.compareInt; rw [if_neg h1, if_pos (by omega)]
     rw [e]; rfl)
   have h3 : (n == m) = false := by rw [zwi]; exact h2
   exact z0j
theorem zdh (a : V.Aff) (u : Value) (w : World) : Below w.heap.size w (w.alloc (.cells #[.int .i64 a.sch, .string ⟨a.name.toArray⟩, .int .i64 a.rs, u] 47)) /\ (w.alloc (.cells #[.int .i64 a.sch, .string ⟨a.name.toArray⟩, .int .i64 a.rs, u] 47)).cell? ⟨w.heap.size, 0, none⟩ = some (.int .i64 a.sch) /\ (w.alloc (.cells #[.int .i64 a.sch, .string ⟨a.name.toArray⟩, .int .i64 a.rs, u] 47)).cell? ⟨w.heap.size, 1, none⟩ = some (.string ⟨a.name.toArray⟩) /\ (w.alloc (.cells #[.int .i64 a.sch, .string ⟨a.name.toArray⟩, .int .i64 a.rs, u] 47)).cell? ⟨w.heap.size, 2, none⟩ = some (.int .i64 a.rs) /\ (w.alloc (.cells #[.int .i64 a.sch, .string ⟨a.name.toArray⟩, .int .i64 a.rs, u] 47)).cell? ⟨w.heap.size, 3, none⟩ = some u := by
 refine ⟨(zwh _ w).alloc (zwg _) _, ?_, ?_, ?_, ?_⟩ <;> (rw [World.cell?_alloc_new]; rfl)
theorem z1h {P : Prop} (h : P := by
 go_wp2
 go_ret
 exact ⟨zc HR.out.symm, HB1.out⟩) : P := h
theorem znf (a : V.Aff) (ua : Option Addr) (uc : Nat) (w : World) (hm : zg w) (hv : Itvs w (.slice ua a.its.length uc) a.its) (hs : Lens a.its) (hn : a.name.length ≤ maxLen) (hl : a.its.length ≤ maxLen) :
  Calls Tryz.prog 61 #[affV a (.slice ua a.its.length uc)] w fun e w' => e = .returned (.bool (V.kh a)) /\ Below w.heap.size w w' := by
 obtain ⟨hb, c0, c1, c2, c3⟩ := zdh a (.slice ua a.its.length uc) w
 have HM := zwe (hm.below hb)
 have HV := zwe (hv.below hb)
 have HS := zwe hs
 have HL := zwe hl
 have HN : Hid ((⟨a.name.toArray⟩ : ByteArray).size ≤ maxLen) := zwe (by rw [yo]; exact hn)
 have HB := zwe hb
 have hz : w.heap.size < (w.alloc (.cells #[.int .i64 a.sch, .string ⟨a.name.toArray⟩, .int .i64 a.rs, .slice ua a.its.length uc] 47)).heap.size := by simp
 have HF : Hid (V.kh a = (V.xg a.name && (decide (a.rs = a.sch) && (decide (1 ≤ a.its.length) && V.okR a.rs a.its)))) := zwe rfl
 clear hm hv hs hl hn hb
 unfold affV
 go_enter Tryz.func61, Tryz.ntmps61
 go_wp2_with fail
 generalize w.alloc (.cells #[.int .i64 a.sch, .string ⟨a.name.toArray⟩, .int .i64 a.rs, .slice ua a.its.length uc] 47) = w0 at *
 refine (path_any ⟨a.name.toArray⟩ w0 HM.out HN.out).mono ?_
 rintro e w1 ⟨rfl, hb1⟩
 rw [kn]
 have HB1 := zwf HB hb1
 have HM1 := zwe (HM.out.below hb1)
 have HV1 := zwe (HV.out.below hb1)
 replace c0 := zb hb1 c0
 replace c2 := zb hb1 c2
 replace c3 := zb hb1 c3
 clear hb1 c1 HB HM HV
 rcases hp : V.xg a.name with _ | _
 ·have HR : Hid (V.kh a = false) := zwe (by rw [HF.out, hp]; rfl)
  clear hp
  exact z1h
 ·by_cases hrs : a.rs = a.sch
  ·have hb2 : (a.rs == a.sch) = true := by simpa using hrs
   by_cases hln : 1 ≤ a.its.length
   ·have hi : (1 : Int) ≤ (a.its.length : Int) := by omega
    have HR : Hid (V.kh a = V.okR a.rs a.its) := zwe (by rw [HF.out, hp, decide_eq_true hrs, decide_eq_true hln]; rfl)
    clear hp hln
    rw [← hrs] at c0
    clear hrs hb2
    go_wp2_with fail
    refine (zaz a.rs (.slice ua a.its.length uc) a.its w1 HM1.out HV1.out HS.out HL.out).mono ?_
    rintro e w2 ⟨rfl, hb3⟩
    have HB3 := zwf HB1 hb3
    clear hb3
    go_wp2
    go_ret
    exact ⟨zc HR.out.symm, HB3.out⟩
   ·have hi : ¬ (1 : Int) ≤ (a.its.length : Int) := by omega
    have HR : Hid (V.kh a = false) := zwe (by rw [HF.out, decide_eq_false hln]; simp)
    clear hp hln
    rw [← hrs] at c0
    clear hrs hb2
    exact z1h
  ·have hb2 : (a.rs == a.sch) = false := by rw [zwi]; exact hrs
   have HR : Hid (V.kh a = false) := zwe (by rw [HF.out, decide_eq_false hrs]; simp)
   clear hp
   exact z1h
theorem zpn (n r : Int) (l : List V.Itv) (ua : Option Addr) (uc : Nat) (w : World) (hm : zg w) (hv : Itvs w (.slice ua l.length uc) l) (hs : Lens l) (hl : l.length ≤ maxLen) :
  Calls Tryz.prog 41 #[.int .i64 n, setV r (.slice ua l.length uc)] w fun e w' => e = .returned (.bool (V.zdr n r l)) /\ Below w.heap.size w w' := by
 have hb : Below w.heap.size w (w.alloc (.cells #[.int .i64 r, .slice ua l.length uc] 45)) := (zwh _ w).alloc (zwg _) _
 have c0 : (w.alloc (.cells #[.int .i64 r, .slice ua l.length uc] 45)).cell? ⟨w.heap.size, 0, none⟩ = some (.int .i64 r) := by rw [World.cell?_alloc_new]; rfl
 have c1 : (w.alloc (.cells #[.int .i64 r, .slice ua l.length uc] 45)).cell? ⟨w.heap.size, 1, none⟩ = some (.slice ua l.length uc) := by rw [World.cell?_alloc_new]; rfl
 have HM := zwe (hm.below hb)
 have HV := zwe (hv.below hb)
 have HS := zwe hs
 have HL := zwe hl
 have HB := zwe hb
 have HF : Hid (V.zdr n r l = (decide (r = n) && (decide (1 ≤ l.length) && V.okR r l))) := zwe rfl
 clear hm hv hs hl hb
 unfold setV
 go_enter Tryz.func41, Tryz.ntmps41
 go_wp2_with fail
 generalize w.alloc (.cells #[.int .i64 r, .slice ua l.length uc] 45) = w0 at *
 refine (zb9 r (.slice ua l.length uc) l w0 HM.out HV.out HS.out HL.out).mono ?_
 rintro e w1 ⟨rfl, hb1⟩
 have HB1 := zwf HB hb1
 replace c0 := zb hb1 c0
 replace c1 := zb hb1 c1
 clear hb1 HB HM HV
 rcases hp : V.okR r l with _ | _
 ·have HR : Hid (V.zdr n r l = false) := zwe (by rw [HF.out, hp]; simp)
  clear hp
  exact z1h
 ·by_cases hrs : r = n
  ·subst hrs
   by_cases hln : 1 ≤ l.length
   ·have hi : (0 : Int) < (l.length : Int) := by omega
    have HR : Hid (V.zdr r r l = true) := zwe (by rw [HF.out, hp, decide_eq_true hln]; simp)
    clear hp
    go_wp2
    go_ret
    exact ⟨zc (by rw [HR.out]; first | rfl | exact decide_eq_true (by omega)), HB1.out⟩
   ·have hi : ¬ (0 : Int) < (l.length : Int) := by omega
    have HR : Hid (V.zdr r r l = false) := zwe (by rw [HF.out, decide_eq_false hln]; simp)
    clear hp
    go_wp2
    go_ret
    exact ⟨zc (by rw [HR.out]; first | rfl | exact decide_eq_false (by omega)), HB1.out⟩
  ·have hb2 : (r == n) = false := by rw [zwi]; exact hrs
   have HR : Hid (V.zdr n r l = false) := zwe (by rw [HF.out, decide_eq_false hrs]; simp)
   clear hp
   exact z1h
end Go.Proofs.YtcfbkcapbbhmpaaGreatDoor
