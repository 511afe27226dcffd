/-
  Stores into blocks that are known whole.
  Slices of structs that are read; appends as steps of regions that draw.
  Rows of lines of one's own: how they are made, grow and are read.
-/
import Derived.Test.YtnhfaincdabdkaaGreatDoorMR
import Derived.Laws.Rows
import Derived.Laws.Entries
import Derived.Lib.Builder
namespace Go.Proofs.YtnhfaincdabdkaaGreatDoor
open Go.RowKit

/-- block g holds the cells new now; nothing else has changed -/
structure PutAt (w W : World) (g : Nat) (new : Array Value) (t : TypeId) : Prop where
  here : W.heap[g]? = some (.cells new t (0, 0))
  size : W.heap.size = w.heap.size
  grown : w.grownBy W (some g)
theorem PutAt.below {w w0 W : World} {g B : Nat} {new : Array Value} {t : TypeId} (h : PutAt w W g new t) (hb : Below B w0 w) (hg : B ≤ g) : Below B w0 W :=
  hb.trans ⟨h.grown.os, h.grown.tape, h.grown.output, h.grown.size, fun k hk => h.grown.block k (by
    by_cases e : k < w.heap.size
    · exact e
    · have : w.heap[k]? = none := Array.getElem?_eq_none (by omega)
      have h2 : W.heap[k]? = none := Array.getElem?_eq_none (by rw [h.size]; omega)
      exfalso
      have := (Array.getElem?_eq_some_iff.1 h.here).1
      rw [h.size] at this
      omega) (fun e => by cases e; omega)⟩
theorem PutAt.other {w W : World} {g i : Nat} {new : Array Value} {t : TypeId} {o : Obj} (h : PutAt w W g new t) (hi : w.heap[i]? = some o) (hne : i ≠ g) : W.heap[i]? = some o :=
  (h.grown.block i (Array.getElem?_eq_some_iff.1 hi).1 (fun e => hne (by cases e; rfl))).trans hi
theorem PutAt.cell {w W : World} {g b o : Nat} {new : Array Value} {t : TypeId} {u : Value} (h : PutAt w W g new t) (hc : w.cell? ⟨b, o, none⟩ = some u) (hne : b ≠ g) : W.cell? ⟨b, o, none⟩ = some u :=
  h.grown.cell hc (fun e => hne (by cases e; rfl))
theorem PutAt.row {α : Type} {enc : α → List Value} {k : Nat} {T : TypeId} {w W : World} {g N : Nat} {new : Array Value} {t : TypeId} {v : Value} {l : List α} (h : PutAt w W g new t) (hr : GRow T k enc w N v l) (hg : g < N) : GRow T k enc W N v l :=
  hr.kept h.grown (fun b e => by cases e; exact hg)

theorem putAt_set {w : World} {g o : Nat} {old : Array Value} {t : TypeId} (hg : w.heap[g]? = some (.cells old t (0, 0))) (v : Value) : PutAt w (w.setCell ⟨g, o, none⟩ v) g (old.setIfInBounds o v) t :=
  ⟨heap_setCell_same w g o old t v hg, by simp [World.setCell], ⟨rfl, rfl, rfl, by simp [World.setCell], fun k _ hk => Below.heap_setCell _ _ _ _ (fun e => hk (by rw [e]))⟩⟩
theorem setRow_here {w : World} {g : Nat} {old new : Array Value} {t : TypeId} (hg : w.heap[g]? = some (.cells old t (0, 0))) : (w.setRow g new).heap[g]? = some (.cells new t (0, 0)) := by
  have hlt := (Array.getElem?_eq_some_iff.1 hg).1
  have hv := (Array.getElem?_eq_some_iff.1 hg).2
  unfold World.setRow
  rw [Array.getElem?_eq_getElem (by simpa using hlt), Array.getElem_modify]
  simp [hv]
theorem putAt_row {w : World} {g : Nat} {old new : Array Value} {t : TypeId} (hg : w.heap[g]? = some (.cells old t (0, 0))) : PutAt w (w.setRow g new) g new t :=
  ⟨setRow_here hg, by simp, ⟨rfl, rfl, rfl, by simp, fun k _ hk => setRow_other w g k new (fun e => hk (by rw [e]))⟩⟩

theorem run_set1 {P : Program} {w : World} {b o : Nat} {ty : TypeId} {v u : Value} (hc : w.cell? ⟨b, o, none⟩ = some u) (hf : w.frozen? ⟨b, o, none⟩ = false) (hi : (P.info? ty).map (·.size) = some 1) (h1 : v.oneCell' = true) :
    (storeVar ty ⟨b, o, none⟩ v).run P w = .ok () (w.setCell ⟨b, o, none⟩ v) := by
  have := run_storeCells_cells (P := P) b o [v] 0 w (fun j hj => by obtain rfl : j = 0 := by simpa using hj
                                                                    simp [hc]) (fun j hj => by obtain rfl : j = 0 := by simpa using hj
                                                                                               simp [hf]) (fun x hx => by simp at hx; subst hx; exact h1)
  have hcs : v.cells = #[v] := by cases v <;> first | rfl | cases h1
  cases hq : P.info? ty with
  | none => simp [hq] at hi
  | some i =>
    have hs : i.size = 1 := by simpa [hq] using hi
    simp only [Nat.add_zero] at this
    simp [storeVar, sizeOf, typeInfo, hq, hcs, hs, this]
    rfl
/-- at the operation: one cell of a block stored -/
theorem wl_put1 {ops : Array Oper} {rest : List Oper} {o : Oper} {a : Act} {w : World} {Q : Exit → Act → World → Prop} (hgd : o.guard = none) (ty : TypeId) (x y : Operand) (ho : o.op = .store ty x y)
    (g off : Nat) (old : Array Value) (t : TypeId) (hg : w.heap[g]? = some (.cells old t (0, 0))) (hoff : off < old.size) (hx : a.eval x = .pointer (some ⟨g, off, none⟩)) (v : Value) (hy : a.eval y = v) (hi : (Tryz.prog.info? ty).map (·.size) = some 1) (h1 : v.oneCell' = true)
    (h : ∀ W, PutAt w W g (old.setIfInBounds off v) t → wpList Tryz.prog ops Q rest (a.put o.dst undef) W) : wpList Tryz.prog ops Q (o :: rest) a w :=
  wpList_plain hgd fun K hK => by
    have hc : w.cell? ⟨g, off, none⟩ = some old[off] := by rw [Lib.cell_of_heap hg, Array.getElem?_eq_getElem hoff]
    unfold Oper.wp execOp
    simp only [ho, hx, hy, Instr.storeAt, Instr.sureAddr, Sem.run_bind, Sem.run_pure, Result.andThen_ok, run_set1 hc (Lib.frozen_of_heap hg off) hi h1]
    exact hK _ _ (h _ (putAt_set hg v))
/-- at the operation: a whole block stored -/
theorem wl_putRow {ops : Array Oper} {rest : List Oper} {o : Oper} {a : Act} {w : World} {Q : Exit → Act → World → Prop} (hgd : o.guard = none) (ty : TypeId) (x y : Operand) (ho : o.op = .store ty x y)
    (g : Nat) (old : Array Value) (t : TypeId) (hg : w.heap[g]? = some (.cells old t (0, 0))) (hx : a.eval x = .pointer (some ⟨g, 0, none⟩)) (new : Array Value) (hy : a.eval y = .agg new) (hs : old.size = new.size) (hi : (Tryz.prog.info? ty).map (·.size) = some new.size) (h1 : new.all (·.oneCell') = true)
    (h : ∀ W, PutAt w W g new t → wpList Tryz.prog ops Q rest (a.put o.dst undef) W) : wpList Tryz.prog ops Q (o :: rest) a w :=
  wpList_store_row hgd ty x y ho g new hx hy t old hg hi hs h1 (h _ (putAt_row hg))
end Go.Proofs.YtnhfaincdabdkaaGreatDoor
namespace Go.Proofs.YtnhfaincdabdkaaGreatDoor
open Go.RowKit

section
variable {α : Type} {enc : α → List Value} {k : Nat} {T : TypeId}
/-- v is a slice of the structs l, k cells each -/
def GSl (k : Nat) (enc : α → List Value) (w : World) (v : Value) (l : List α) : Prop := ∃ a cap, v = .slice a l.length cap ∧ ∀ j (h : j < l.length), ∃ g off, a = some ⟨g, off, none⟩ ∧ g < w.heap.size ∧ ∀ i u, (enc l[j])[i]? = some u → w.cell? ⟨g, off + j * k + i, none⟩ = some u
theorem GSl.nil (w : World) : GSl k enc w (.slice none 0 0) [] := ⟨none, 0, rfl, fun j h => by simp at h⟩
theorem GSl.slice {w : World} {v : Value} {l : List α} (h : GSl k enc w v l) : ∃ a cap, v = .slice a l.length cap := by
  obtain ⟨a, c, e, _⟩ := h
  exact ⟨a, c, e⟩
theorem GSl.below {w w' : World} {v : Value} {l : List α} (h : GSl k enc w v l) (hb : Below w.heap.size w w') : GSl k enc w' v l := by
  obtain ⟨a, cap, e, hc⟩ := h
  refine ⟨a, cap, e, fun j hj => ?_⟩
  obtain ⟨g, off, ea, hlt, hcell⟩ := hc j hj
  exact ⟨g, off, ea, Nat.lt_of_lt_of_le hlt hb.size, fun i u hu => (hb.cell (p := ⟨g, off + j * k + i, none⟩) hlt).trans (hcell i u hu)⟩
theorem GSl.at {w : World} {a : Option Addr} {n cap : Nat} {l : List α} (h : GSl k enc w (.slice a n cap) l) (j : Nat) (hj : j < l.length) : ∃ g off, a = some ⟨g, off, none⟩ ∧ g < w.heap.size ∧ ∀ i u, (enc l[j])[i]? = some u → w.cell? ⟨g, off + j * k + i, none⟩ = some u := by
  obtain ⟨a', c, e, hc⟩ := h
  obtain ⟨g, off, ea, hb, hcell⟩ := hc j hj
  cases e
  exact ⟨g, off, ea, hb, hcell⟩
theorem GRow.gsl (hk : ∀ x, (enc x).length = k) {w : World} {N : Nat} {v : Value} {l : List α} (h : GRow T k enc w N v l) : GSl k enc w v l := by
  obtain ⟨a, cap, rfl⟩ := GRow.slice h
  refine ⟨a, cap, rfl, fun j hj => ?_⟩
  obtain ⟨g, c, e, _, hlt, hc⟩ := GRow.at hk h j hj
  cases e
  exact ⟨g, 0, rfl, hlt, fun i u hu => by rw [Nat.zero_add]; exact hc i u hu⟩
/-- the cells of a part of a slice -/
theorem GSl.cells (hk : ∀ x, (enc x).length = k) {w : World} {g off n cap : Nat} {l : List α} (h : GSl k enc w (.slice (some ⟨g, off, none⟩) n cap) l) (i : Nat) : ∀ j u, ((l.drop i).flatMap enc)[j]? = some u → w.cell? ⟨g, off + i * k + j, none⟩ = some u := by
  intro j u hu
  have hlen := (List.getElem?_eq_some_iff.1 hu).1
  rw [gflat_len hk] at hlen
  have hk0 : 0 < k := by
    rcases Nat.eq_zero_or_pos k with h0 | h0
    · rw [h0, Nat.mul_zero] at hlen; omega
    · exact h0
  have hdiv : j / k < (l.drop i).length := (Nat.div_lt_iff_lt_mul hk0).2 hlen
  have hmod := Nat.mod_lt j hk0
  have hsum : j = (j / k) * k + j % k := by rw [Nat.mul_comm]; exact (Nat.div_add_mod j k).symm
  rw [hsum, gflat_at hk _ hdiv _ hmod] at hu
  have hi : i + j / k < l.length := by rw [List.length_drop] at hdiv; exact Nat.add_lt_of_lt_sub' hdiv
  rw [List.getElem_drop] at hu
  obtain ⟨g', off', e, hlt, hc⟩ := h.at (i + j / k) hi
  cases e
  have := hc (j % k) u hu
  rw [show off + (i + j / k) * k + j % k = off + i * k + j by
    rw [Nat.add_mul]
    have h2 := hsum
    generalize j / k * k = A at *
    generalize j % k = B at *
    generalize i * k = C at *
    omega] at this
  exact this

/-- some elements appended, as a step of a region that draws -/
theorem step_appendN {ops : Array Oper} {o : Oper} {a : Act} {w : World} {K : Act → World → Prop} {Q : Exit → Act → World → Prop} {E : Prop} (hk : ∀ x, (enc x).length = k) (hk0 : 0 < k) (h1c : ∀ x, ∀ u ∈ enc x, u.oneCell' = true) {bytes : Nat} (hi : GInfo T k bytes) (hby : bytes ≤ 1000) (hgd : o.guard = none) (s x : Operand) (S : TypeId)
    (ho : o.op = .call { callee := .builtin .append, args := #[s, x], argTypes := #[S, S] }) (hu : Tryz.prog.underlying S = some (.slice T))
    (N : Nat) (v : Value) (l : List α) (hs : a.eval s = v) (hown : GRow T k enc w N v l) (ad : Addr) (c : Nat) (ys : List α) (m : Nat) (hm : ys.length = m) (hx : a.eval x = .slice (some ad) m c) (hr : ∀ j u, (ys.flatMap enc)[j]? = some u → w.cell? (ad.add j) = some u) (hl : l.length + ys.length ≤ 1000000) (hN : N ≤ w.heap.size)
    (h : ∀ v' w', GRow T k enc w' N v' (l ++ ys) → w.grownBy w' v.ownBlock → K (a.put o.dst v') w') : if Region.wanted o (yielded ops a.tmps) = true then Oper.wp Tryz.prog o a w K Q else E := by
  rw [if_pos (by simp [Region.wanted, hgd])]
  subst hm
  obtain ⟨ie, z, hie, hz, h1, h2, h3⟩ := hi
  obtain ⟨v', w', hr', ho', hg, _⟩ := run_append_own (P := Tryz.prog) w N S o.type T ie z k bytes hu hie hz h1 h2 h3 hk0 v l.length (l.flatMap enc) hown ad ys.length c (ys.flatMap enc) (gflat_len hk ys) hr (fun u hu => by
    obtain ⟨y, _, hy⟩ := List.mem_flatMap.1 hu
    exact h1c y u hy) (by unfold maxLen; omega) (by
      have : (l.length + ys.length) * bytes ≤ 1000000 * 1000 := Nat.mul_le_mul hl hby
      omega) hN
  unfold Oper.wp execOp
  simp only [ho, resolve, invoke, builtin, Sem.run_bind, Sem.run_pure, Result.andThen_ok, List.map_toArray, List.map_cons, List.map_nil, hs, hx, hr']
  refine h v' w' ?_ hg
  unfold GRow
  rw [List.length_append, List.flatMap_append]
  exact ho'
/-- one element appended that lies in a block of its own, as a step -/
theorem step_appendG {ops : Array Oper} {o : Oper} {a : Act} {w : World} {K : Act → World → Prop} {Q : Exit → Act → World → Prop} {E : Prop} (hk : ∀ x, (enc x).length = k) (hk0 : 0 < k) (h1c : ∀ x, ∀ u ∈ enc x, u.oneCell' = true) {bytes : Nat} (hi : GInfo T k bytes) (hby : bytes ≤ 1000) (hgd : o.guard = none) (s x : Operand) (S : TypeId)
    (ho : o.op = .call { callee := .builtin .append, args := #[s, x], argTypes := #[S, S] }) (hu : Tryz.prog.underlying S = some (.slice T))
    (N : Nat) (v : Value) (l : List α) (hs : a.eval s = v) (hown : GRow T k enc w N v l) (b : Nat) (c : α) (hx : a.eval x = .slice (some ⟨b, 0, none⟩) 1 1) (hr : ∀ j u, (enc c)[j]? = some u → w.cell? ⟨b, j, none⟩ = some u) (hl : l.length ≤ 900000) (hN : N ≤ w.heap.size)
    (h : ∀ v' w', GRow T k enc w' N v' (l ++ [c]) → w.grownBy w' v.ownBlock → K (a.put o.dst v') w') : if Region.wanted o (yielded ops a.tmps) = true then Oper.wp Tryz.prog o a w K Q else E :=
  step_appendN hk hk0 h1c hi hby hgd s x S ho hu N v l hs hown ⟨b, 0, none⟩ 1 [c] 1 rfl hx (fun j u hj => by
    rw [Addr.add_mid, Nat.zero_add]
    exact hr j u (by simpa using hj)) (by simp; omega) hN h
end
end Go.Proofs.YtnhfaincdabdkaaGreatDoor
namespace Go.Proofs.YtnhfaincdabdkaaGreatDoor
open Go.RowKit

/-- one element appended that lies in a block of its own, as a step; it tells whose block the new slice is -/
theorem step_appendA {α : Type} {enc : α → List Value} {k : Nat} {T : TypeId} {ops : Array Oper} {o : Oper} {a : Act} {w : World} {K : Act → World → Prop} {Q : Exit → Act → World → Prop} {E : Prop} (hk : ∀ x, (enc x).length = k) (hk0 : 0 < k) (h1c : ∀ x, ∀ u ∈ enc x, u.oneCell' = true) {bytes : Nat} (hi : GInfo T k bytes) (hby : bytes ≤ 1000) (hgd : o.guard = none) (s x : Operand) (S : TypeId)
    (ho : o.op = .call { callee := .builtin .append, args := #[s, x], argTypes := #[S, S] }) (hu : Tryz.prog.underlying S = some (.slice T))
    (N : Nat) (v : Value) (l : List α) (hs : a.eval s = v) (hown : GRow T k enc w N v l) (b : Nat) (c : α) (hx : a.eval x = .slice (some ⟨b, 0, none⟩) 1 1) (hr : ∀ j u, (enc c)[j]? = some u → w.cell? ⟨b, j, none⟩ = some u) (hl : l.length ≤ 900000) (hN : N ≤ w.heap.size)
    (h : ∀ v' w', GRow T k enc w' N v' (l ++ [c]) → w.grownBy w' v.ownBlock → (v'.ownBlock = v.ownBlock ∨ v'.ownBlock = some w.heap.size) → K (a.put o.dst v') w') : if Region.wanted o (yielded ops a.tmps) = true then Oper.wp Tryz.prog o a w K Q else E := by
  rw [if_pos (by simp [Region.wanted, hgd])]
  obtain ⟨ie, z, hie, hz, h1, h2, h3⟩ := hi
  obtain ⟨v', w', hr', ho', hg, _, hob⟩ := run_append_own_at (P := Tryz.prog) w N S o.type T ie z k bytes hu hie hz h1 h2 h3 hk0 v l.length (l.flatMap enc) hown ⟨b, 0, none⟩ 1 1 (enc c) (by rw [hk]; omega) (fun j u hj => by
    rw [Addr.add_mid, Nat.zero_add]
    exact hr j u hj) (h1c c) (by unfold maxLen; omega) (by
      have : (l.length + 1) * bytes ≤ 1000000 * 1000 := Nat.mul_le_mul (by omega) hby
      omega) hN
  unfold Oper.wp execOp
  simp only [ho, resolve, invoke, builtin, Sem.run_bind, Sem.run_pure, Result.andThen_ok, List.map_toArray, List.map_cons, List.map_nil, hs, hx, hr']
  refine h v' w' ?_ hg hob
  unfold GRow
  rw [List.length_append, List.flatMap_append]
  simpa using ho'

/-- a slice value -/
structure Lsl where
  a : Option Addr
  n : Nat
  c : Nat
def Lsl.v (s : Lsl) : Value := .slice s.a s.n s.c
def lslE (s : Lsl) : List Value := [s.v]
theorem lslE_len (s : Lsl) : (lslE s).length = 1 := rfl
theorem lslE_one (s : Lsl) : ∀ u ∈ lslE s, u.oneCell' = true := by
  intro u hu
  simp [lslE] at hu
  subst hu
  rfl
theorem lineInfo : GInfo 61 1 24 := by
  have h : (match Tryz.prog.info? 61 with | some i => i.size == 1 && (i.bytes == 24 && (match i.zero with | some z => z.cells.size == 1 | none => false)) | none => false) = true := by kernel_rfl
  unfold GInfo
  cases hq : Tryz.prog.info? 61 with
  | none => rw [hq] at h; cases h
  | some i =>
    rw [hq] at h
    simp only [Bool.and_eq_true, beq_iff_eq] at h
    obtain ⟨h1, h2, h3⟩ := h
    cases hz : i.zero with
    | none => rw [hz] at h3; cases h3
    | some z =>
      rw [hz] at h3
      exact ⟨i, z, rfl, hz, h1, h2, by simpa using h3⟩
theorem Strs.grown {w w' : World} {v : Value} {l : List V.Bs} {row : Option Nat} (h : Strs w v l) (hg : w.grownBy w' row) (hs : l ≠ [] → ∀ c, v.ownBlock = some c → row ≠ some c) : Strs w' v l := by
  obtain ⟨a, cap, rfl, hx⟩ := h
  refine ⟨a, cap, rfl, fun j hj => ?_⟩
  obtain ⟨b, off, rfl, hlt, h0⟩ := hx j hj
  have hne : l ≠ [] := fun e => by rw [e] at hj; simp at hj
  have hb : row ≠ some b := hs hne b rfl
  exact ⟨b, off, rfl, Nat.lt_of_lt_of_le hlt hg.size, hg.cell h0 (fun e => hb e.symm)⟩
theorem Strs.lt {w : World} {v : Value} {l : List V.Bs} (h : Strs w v l) (hl : l ≠ []) {c : Nat} (hc : v.ownBlock = some c) : c < w.heap.size := by
  obtain ⟨a, cap, rfl, hx⟩ := h
  obtain ⟨b, off, rfl, hlt, _⟩ := hx 0 (List.length_pos_iff.2 hl)
  simp [Value.ownBlock] at hc
  omega
/-- a row of lines: the slices us, the words ls -/
structure LRow (N : Nat) (w : World) (v : Value) (us : List Lsl) (ls : List (List V.Bs)) : Prop where
  row : GRow 61 1 lslE w N v us
  len : us.length = ls.length
  each : ∀ j (h : j < us.length) (h' : j < ls.length), Strs w us[j].v ls[j] ∧ (ls[j] ≠ [] → ∀ c, us[j].v.ownBlock = some c → v.ownBlock ≠ some c)
theorem LRow.nil (N : Nat) (w : World) : LRow N w (.slice none 0 0) [] [] := ⟨GRow.nil _ _, rfl, fun j h => by simp at h⟩
theorem LRow.later {N : Nat} {w w' : World} {v : Value} {us : List Lsl} {ls : List (List V.Bs)} (h : LRow N w v us ls) (hb : Below w.heap.size w w') : LRow N w' v us ls :=
  ⟨GRow.below h.row hb, h.len, fun j hj hj' => ⟨strs_below (h.each j hj hj').1 hb, (h.each j hj hj').2⟩⟩
theorem LRow.add {N : Nat} {w w' : World} {v v' : Value} {us : List Lsl} {ls : List (List V.Bs)} {u : Lsl} {x : List V.Bs} (h : LRow N w v us ls) (hr : GRow 61 1 lslE w' N v' (us ++ [u])) (hg : w.grownBy w' v.ownBlock) (ho : v'.ownBlock = v.ownBlock ∨ v'.ownBlock = some w.heap.size)
    (hu : Strs w u.v x) (hs : x ≠ [] → ∀ c, u.v.ownBlock = some c → v.ownBlock ≠ some c) : LRow N w' v' (us ++ [u]) (ls ++ [x]) := by
  have one : ∀ (q : Value) (y : List V.Bs), Strs w q y → (y ≠ [] → ∀ c, q.ownBlock = some c → v.ownBlock ≠ some c) → Strs w' q y ∧ (y ≠ [] → ∀ c, q.ownBlock = some c → v'.ownBlock ≠ some c) := fun q y hq hn => by
    refine ⟨hq.grown hg hn, fun hy c hc => ?_⟩
    rcases ho with e | e
    · rw [e]; exact hn hy c hc
    · rw [e]
      intro g
      have := hq.lt hy hc
      cases g
      omega
  refine ⟨hr, by rw [List.length_append, List.length_append, h.len]; rfl, fun j hj hj' => ?_⟩
  by_cases e : j < us.length
  · have e2 : j < ls.length := by rw [← h.len]; exact e
    rw [List.getElem_append_left e, List.getElem_append_left e2]
    exact one _ _ (h.each j e e2).1 (h.each j e e2).2
  · have ej : j = us.length := by rw [List.length_append, List.length_singleton] at hj; omega
    subst ej
    have e1 : (us ++ [u])[us.length] = u := by simp
    have e2 : (ls ++ [x])[us.length]'hj' = x := by simp [h.len]
    rw [e1, e2]
    exact one _ _ hu hs
/-- a row laid whole -/
theorem LRow.one {N : Nat} {w : World} {u : Lsl} {x : List V.Bs} (hN : N ≤ w.heap.size) (hu : Strs w u.v x) (h0 : x ≠ []) : LRow N (w.alloc (.cells #[u.v] 61)) (.slice (some ⟨w.heap.size, 0, none⟩) 1 1) [u] [x] := by
  have hb : Below w.heap.size w (w.alloc (.cells #[u.v] 61)) := (Below.refl _ w).alloc (Nat.le_refl _) _
  refine ⟨⟨rfl, .inr ⟨w.heap.size, 1, #[u.v], rfl, hN, ?_, Nat.le_refl _, by unfold maxLen; omega, rfl, rfl⟩⟩, rfl, fun j hj hj' => ?_⟩
  · rw [heap_alloc, if_pos rfl]
  · obtain rfl : j = 0 := by simpa using hj
    refine ⟨strs_below hu hb, fun _ c hc => ?_⟩
    have := hu.lt h0 hc
    intro e
    simp [Value.ownBlock] at e
    omega
theorem LRow.lines {N : Nat} {w : World} {v : Value} {us : List Lsl} {ls : List (List V.Bs)} (h : LRow N w v us ls) : Lines w v ls := by
  obtain ⟨a, cap, rfl⟩ := GRow.slice h.row
  refine ⟨a, cap, by rw [h.len], fun j hj => ?_⟩
  have hj' : j < us.length := by rw [h.len]; exact hj
  obtain ⟨g, cap2, e, hN, hg, hc⟩ := GRow.at lslE_len h.row j hj'
  cases e
  exact ⟨g, 0, us[j].v, rfl, hg, by simpa using hc 0 us[j].v rfl, (h.each j hj' hj).1⟩
theorem LRow.slice {N : Nat} {w : World} {v : Value} {us : List Lsl} {ls : List (List V.Bs)} (h : LRow N w v us ls) : ∃ a cap, v = .slice a ls.length cap := by
  rw [← h.len]; exact GRow.slice h.row
/-- a line laid in a block of its own -/
theorem strs_new (w : World) (l : List V.Bs) : Strs (w.alloc (.cells (l.map fun x => Value.string ⟨x.toArray⟩).toArray 9)) (.slice (some ⟨w.heap.size, 0, none⟩) l.length l.length) l :=
  ⟨_, _, rfl, fun j hj => ⟨w.heap.size, 0, rfl, by simp, by rw [Nat.zero_add, World.cell?_alloc_new]; simp [hj]⟩⟩
end Go.Proofs.YtnhfaincdabdkaaGreatDoor
