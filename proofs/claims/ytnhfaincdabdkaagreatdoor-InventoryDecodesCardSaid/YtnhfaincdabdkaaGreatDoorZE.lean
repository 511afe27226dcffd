/-
  The state of a merge: what the loop keeps.
  Walk: inventory.Children.
  Steps with inventories: loaded, built, stored.
-/
import Derived.Test.YtnhfaincdabdkaaGreatDoorID
import Derived.Test.YtnhfaincdabdkaaGreatDoorPJ
import Derived.Test.YtnhfaincdabdkaaGreatDoorJW
import Derived.Test.YtnhfaincdabdkaaGreatDoorR3
import Derived.OrdersHeld
namespace Go.Proofs.YtnhfaincdabdkaaGreatDoor
open Go.RowKit

theorem CRow.kept2 {w w' : World} {N : Nat} {v : Value} {l : List V.Comp} (h : CRow w N v l) {row : Option Nat} (hg : w.grownBy w' row) (hr : ∀ b, row = some b → v.ownBlock ≠ some b) : CRow w' N v l := by
  obtain ⟨⟨hx, h⟩, hw⟩ := h
  refine ⟨⟨hx, ?_⟩, hw⟩
  rcases h with h | ⟨g, cap, cur, rfl, hb, hgg, rest⟩
  · exact .inl h
  · refine .inr ⟨g, cap, cur, rfl, hb, ?_, rest⟩
    rw [hg.block g (Array.getElem?_eq_some_iff.1 hgg).1 (fun e => hr g e.symm rfl)]
    exact hgg
theorem CRow.heap {w : World} {N : Nat} {v : Value} {l : List V.Comp} (h : CRow w N v l) {g : Nat} (hb : v.ownBlock = some g) : ∃ cur, w.heap[g]? = some (.cells cur 88 (0, 0)) := by
  obtain ⟨⟨_, h⟩, _⟩ := h
  rcases h with ⟨rfl, _⟩ | ⟨g', cap, cur, rfl, _, hg, _⟩
  · cases hb
  · simp [Value.ownBlock] at hb
    subst hb
    exact ⟨cur, hg⟩
theorem CRow.lt {w : World} {N : Nat} {v : Value} {l : List V.Comp} (h : CRow w N v l) {g : Nat} (hb : v.ownBlock = some g) : g < w.heap.size := by
  obtain ⟨cur, hc⟩ := h.heap hb
  exact (Array.getElem?_eq_some_iff.1 hc).1
theorem CRow.ne {w : World} {N : Nat} {v : Value} {l : List V.Comp} (h : CRow w N v l) {g : Nat} {cs : Array Value} {t : TypeId} {fr : Nat × Nat} (hg : w.heap[g]? = some (.cells cs t fr)) (ht : t ≠ 88) : v.ownBlock ≠ some g := fun hb => by
  obtain ⟨cur, hc⟩ := h.heap hb
  rw [hc] at hg
  cases hg
  exact ht rfl

theorem inv_range {d : List Int} {time : Int} {v : Value} (hd : d.length = 32) {w : World} {g : Nat} {t : TypeId} (hg : w.heap[g]? = some (.cells (icells d time v) t (0, 0))) : w.rangeAt g 0 (dcellsL d) := by
  intro i u hu
  rw [cell_of_row w g (0 + i) _ _ _ hg]
  have hi := (List.getElem?_eq_some_iff.1 hu).1
  have h32 : (dcellsL d).length = 32 := by unfold dcellsL; simp [hd]
  unfold icells
  rw [Nat.zero_add, List.getElem?_toArray, List.getElem?_append_left (by omega)]
  exact hu
theorem setCell_heap {w : World} {g : Nat} {cs : Array Value} {t : TypeId} {fr : Nat × Nat} (o : Nat) (v : Value) (hg : w.heap[g]? = some (.cells cs t fr)) : (w.setCell ⟨g, o, none⟩ v).heap[g]? = some (.cells (cs.setIfInBounds o v) t fr) := by
  have hlt := (Array.getElem?_eq_some_iff.1 hg).1
  have hv := (Array.getElem?_eq_some_iff.1 hg).2
  unfold World.setCell
  rw [Array.getElem?_eq_getElem (by simpa using hlt), Array.getElem_modify]
  simp [hv]
theorem icells_set33 {d : List Int} (hd : d.length = 32) (time : Int) (v u : Value) : (icells d time v).setIfInBounds 33 u = icells d time u := by
  have h32 : (dcellsL d).length = 32 := by unfold dcellsL; simp [hd]
  unfold icells
  rw [List.setIfInBounds_toArray, List.set_append_right _ _ (by omega), h32]
  rfl
theorem ccells_set0 (c : V.Comp) (p : Int) : (ccells c).setIfInBounds 0 (.int .i64 p) = ccells { c with par := p } := by
  unfold ccells cellsL
  simp
theorem frozen_row {w : World} {g o : Nat} {cs : Array Value} {t : TypeId} (hg : w.heap[g]? = some (.cells cs t (0, 0))) : w.frozen? ⟨g, o, none⟩ = false := by
  simp [World.frozen?, hg]

theorem run_set {P : Program} {w : World} {b o : Nat} {ty : TypeId} {v u : Value} (hc : w.cell? ⟨b, o, none⟩ = some u) (hf : w.frozen? ⟨b, o, none⟩ = false) (hi : (P.info? ty).map (·.size) = some 1) (h1 : v.oneCell' = true) :
    (storeVar ty ⟨b, o, none⟩ v).run P w = .ok () (w.setCell ⟨b, o, none⟩ v) := by
  have := run_storeCells_cells (P := P) b o [v] 0 w (fun j hj => by obtain rfl : j = 0 := by simpa using hj
                                                                    simp [hc]) (fun j hj => by obtain rfl : j = 0 := by simpa using hj
                                                                                               simp [hf]) (fun x hx => by simp at hx; subst hx; exact h1)
  have hcs : v.cells = #[v] := by cases v <;> first | rfl | cases h1
  cases hq : P.info? ty with
  | none => simp [hq] at hi
  | some i =>
    have hs : i.size = 1 := by simpa [hq] using hi
    simp only [Nat.add_zero] at this
    simp [storeVar, sizeOf, typeInfo, hq, hcs, hs, this]
    rfl
/-- at the operation: one cell stored -/
theorem wl_set {ops : Array Oper} {rest : List Oper} {o : Oper} {a : Act} {w : World} {Q : Exit → Act → World → Prop} (hgd : o.guard = none) (ty : TypeId) (x y : Operand) (ho : o.op = .store ty x y)
    (b off : Nat) (hx : a.eval x = .pointer (some ⟨b, off, none⟩)) (v : Value) (hy : a.eval y = v) (u : Value) (hc : w.cell? ⟨b, off, none⟩ = some u) (hf : w.frozen? ⟨b, off, none⟩ = false) (hi : (Tryz.prog.info? ty).map (·.size) = some 1) (h1 : v.oneCell' = true)
    (h : wpList Tryz.prog ops Q rest (a.put o.dst undef) (w.setCell ⟨b, off, none⟩ v)) : wpList Tryz.prog ops Q (o :: rest) a w :=
  wpList_plain hgd fun K hK => by
    unfold Oper.wp execOp
    simp only [ho, hx, hy, Instr.storeAt, Instr.sureAddr, Sem.run_bind, Sem.run_pure, Result.andThen_ok, run_set hc hf hi h1]
    exact hK _ _ h
theorem int_size : (Tryz.prog.info? 3).map (·.size) = some 1 := by kernel_rfl
theorem comps_size : (Tryz.prog.info? 25).map (·.size) = some 1 := by kernel_rfl
theorem nat_wf {m : Nat} (h : m ≤ 1000000) : (Lit.int .i64 (m : Int)).wf = true := by
  simp [Lit.wf, IntKind.min, IntKind.max, IntKind.signed, IntKind.bits]; omega
/-- what the loop of a merge keeps -/
structure MInv (w : World) (N O S n : Nat) (d : List Int) (mx : Int) (v : Value) (out : List V.Comp) (st : List Int) (W : World) : Prop where
  row : CRow W N v out
  inv : W.heap[O]? = some (.cells (icells d mx v) 27 (0, 0))
  stands : ∃ cur, W.heap[S]? = some (.cells cur 3 (0, 0)) ∧ cur.size = n ∧ st.length ≤ n ∧ ∀ (j : Nat) x, st[j]? = some x → cur[j]? = some (.int .i64 x)
  zero : W.heap[w.heap.size + 1 + 1]? = some (.cells (icells zero32 0 (.slice none 0 0)) 27 (0, 0))
  below : Below w.heap.size w W
  size : N ≤ W.heap.size
  base : w.heap.size + 3 ≤ N
  hO : N ≤ O
  hS : N ≤ S
namespace MInv
variable {w : World} {N O S n : Nat} {d : List Int} {mx : Int} {v : Value} {out : List V.Comp} {st : List Int} {W W' : World}
theorem ne (h : MInv w N O S n d mx v out st W) : O ≠ S := fun e => by
  subst e
  obtain ⟨cur, hc, _⟩ := h.stands
  have hi := h.inv
  rw [hc] at hi
  cases hi
theorem keep (h : MInv w N O S n d mx v out st W) {row : Option Nat} (hg : W.grownBy W' row) (hr : ∀ b, row = some b → w.heap.size + 3 ≤ b ∧ b ≠ O ∧ b ≠ S ∧ v.ownBlock ≠ some b) : MInv w N O S n d mx v out st W' := by
  have hl : ∀ k, k < W.heap.size → (∀ b, row = some b → b ≠ k) → W'.heap[k]? = W.heap[k]? := fun k hk hb => hg.block k hk (fun e => hb k e.symm rfl)
  obtain ⟨cur, h1, h2⟩ := h.stands
  refine ⟨h.row.kept2 hg (fun b hb => (hr b hb).2.2.2), ?_, ⟨cur, ?_, h2⟩, ?_, ?_, Nat.le_trans h.size hg.size, h.base, h.hO, h.hS⟩
  · rw [hl O (Array.getElem?_eq_some_iff.1 h.inv).1 (fun b hb => (hr b hb).2.1)]; exact h.inv
  · rw [hl S (Array.getElem?_eq_some_iff.1 h1).1 (fun b hb => (hr b hb).2.2.1)]; exact h1
  · rw [hl _ (Array.getElem?_eq_some_iff.1 h.zero).1 (fun b hb => by have := (hr b hb).1; omega)]; exact h.zero
  · refine h.below.trans ⟨hg.os, hg.tape, hg.output, hg.size, fun k hk => hl k (by have := h.size; have := h.base; omega) (fun b hb => by have := (hr b hb).1; omega)⟩
/-- a call, a new block -/
theorem call (h : MInv w N O S n d mx v out st W) (hb : Below W.heap.size W W') : MInv w N O S n d mx v out st W' :=
  h.keep (below_grown hb none) (fun b e => by cases e)
theorem alloc (h : MInv w N O S n d mx v out st W) (o : Obj) : MInv w N O S n d mx v out st (W.alloc o) :=
  h.keep (World.grownBy_alloc W o none) (fun b e => by cases e)
/-- a block that lies behind its row and holds components changed -/
theorem other (h : MInv w N O S n d mx v out st W) {X : Nat} (hX : ∀ b, v.ownBlock = some b → b < X) {cs : Array Value} (hc : W.heap[X]? = some (.cells cs 88 (0, 0))) (hx : w.heap.size + 3 ≤ X) (hg : W.grownBy W' (some X)) : MInv w N O S n d mx v out st W' := by
  refine h.keep hg (fun b e => ?_)
  cases e
  obtain ⟨cur, h1, h2⟩ := h.stands
  refine ⟨hx, ?_, ?_, fun e => by have := hX _ e; omega⟩
  · intro e; subst e; have := h.inv; rw [hc] at this; cases this
  · intro e; subst e; rw [hc] at h1; cases h1
/-- a place stored behind the others -/
theorem push (h : MInv w N O S n d mx v out st W) (hk : st.length < n) (x : Int) : MInv w N O S n d mx v out (st ++ [x]) (W.setCell ⟨S, st.length, none⟩ (.int .i64 x)) := by
  obtain ⟨cur, h1, h2, h3, h4⟩ := h.stands
  have hg := set_grown W S st.length (.int .i64 x)
  have hl : ∀ k, k < W.heap.size → k ≠ S → (W.setCell ⟨S, st.length, none⟩ (.int .i64 x)).heap[k]? = W.heap[k]? := fun k hk hb => hg.block k hk (fun e => by cases e; exact hb rfl)
  have hz := Array.getElem?_eq_some_iff.1 h.zero
  refine ⟨h.row.kept2 hg (fun b hb => by cases hb; exact h.row.ne h1 (by decide)), ?_, ⟨_, setCell_heap _ _ h1, by simp [h2], by simp; omega, ?_⟩, ?_, ?_, Nat.le_trans h.size hg.size, h.base, h.hO, h.hS⟩
  · rw [hl O (Array.getElem?_eq_some_iff.1 h.inv).1 h.ne]; exact h.inv
  · intro j y hj
    rcases Nat.lt_trichotomy j st.length with hlt | rfl | hgt
    · rw [List.getElem?_append_left hlt] at hj
      rw [Array.getElem?_setIfInBounds_ne (by omega)]
      exact h4 j y hj
    · rw [List.getElem?_append_right (Nat.le_refl _)] at hj
      simp at hj
      subst hj
      rw [Array.getElem?_setIfInBounds_self_of_lt (by omega)]
    · rw [List.getElem?_eq_none (by simp; omega)] at hj
      cases hj
  · rw [hl _ hz.1 (by have := h.hS; have := h.base; omega)]; exact h.zero
  · exact h.below.trans ⟨hg.os, hg.tape, hg.output, hg.size, fun k hk => hl k (by have := h.size; have := h.base; omega) (by have := h.hS; have := h.base; omega)⟩
/-- the last place stored anew -/
theorem last {x : Int} (h : MInv w N O S n d mx v out (st ++ [x]) W) (y : Int) : MInv w N O S n d mx v out (st ++ [y]) (W.setCell ⟨S, st.length, none⟩ (.int .i64 y)) := by
  obtain ⟨cur, h1, h2, h3, h4⟩ := h.stands
  have h5 : MInv w N O S n d mx v out st W := ⟨h.row, h.inv, ⟨cur, h1, h2, by simp at h3; omega, fun j z hj => h4 j z (by rw [List.getElem?_append_left (List.getElem?_eq_some_iff.1 hj).1]; exact hj)⟩, h.zero, h.below, h.size, h.base, h.hO, h.hS⟩
  exact h5.push (by simp at h3; omega) y
/-- a component appended -/
theorem append (hd : d.length = 32) (h : MInv w N O S n d mx v out st W) {v' : Value} {out' : List V.Comp} (hr : CRow W' N v' out') (hg : W.grownBy W' v.ownBlock) : MInv w N O S n d mx v' out' st (W'.setCell ⟨O, 33, none⟩ v') := by
  have hblk := h.row.block
  obtain ⟨cur, h1, h2⟩ := h.stands
  have hl : ∀ k, k < W.heap.size → v.ownBlock ≠ some k → W'.heap[k]? = W.heap[k]? := fun k hk hb => hg.block k hk (fun e => hb e.symm)
  have hi : W'.heap[O]? = _ := (hl O (Array.getElem?_eq_some_iff.1 h.inv).1 (h.row.ne h.inv (by decide))).trans h.inv
  have hs : W'.heap[S]? = _ := (hl S (Array.getElem?_eq_some_iff.1 h1).1 (h.row.ne h1 (by decide))).trans h1
  have hz : W'.heap[w.heap.size + 1 + 1]? = _ := (hl _ (Array.getElem?_eq_some_iff.1 h.zero).1 (h.row.ne h.zero (by decide))).trans h.zero
  have hg2 := set_grown W' O 33 v'
  have hl2 : ∀ k, k < W'.heap.size → k ≠ O → (W'.setCell ⟨O, 33, none⟩ v').heap[k]? = W'.heap[k]? := fun k hk hb => hg2.block k hk (fun e => by cases e; exact hb rfl)
  refine ⟨hr.kept2 hg2 (fun b hb => by cases hb; exact hr.ne hi (by decide)), ?_, ⟨cur, ?_, h2⟩, ?_, ?_, Nat.le_trans h.size (Nat.le_trans hg.size hg2.size), h.base, h.hO, h.hS⟩
  · rw [setCell_heap _ _ hi, icells_set33 hd]
  · rw [hl2 S (Array.getElem?_eq_some_iff.1 hs).1 h.ne.symm]; exact hs
  · rw [hl2 _ (Array.getElem?_eq_some_iff.1 hz).1 (by have := h.hO; have := h.base; omega)]; exact hz
  · have hsz := h.size
    have hbs := h.base
    have hO := h.hO
    refine (h.below.trans ⟨hg.os, hg.tape, hg.output, hg.size, fun k hk => hl k (by omega) (fun e => by have := hblk k e; omega)⟩).trans ⟨hg2.os, hg2.tape, hg2.output, hg2.size, fun k hk => hl2 k (by have := hg.size; omega) (by omega)⟩
theorem invCell (hd : d.length = 32) (h : MInv w N O S n d mx v out st W) : W.cell? ⟨O, 33, none⟩ = some v := by
  rw [cell_of_row W O 33 _ _ _ h.inv]; exact icells_33 hd mx v
theorem standCell (h : MInv w N O S n d mx v out st W) {j : Nat} {x : Int} (hj : st[j]? = some x) : W.cell? ⟨S, j, none⟩ = some (.int .i64 x) := by
  obtain ⟨cur, h1, _, _, h4⟩ := h.stands
  rw [cell_of_row W S j _ _ _ h1]
  exact h4 j x hj
theorem standAny (h : MInv w N O S n d mx v out st W) {j : Nat} (hj : j < n) : ∃ u, W.cell? ⟨S, j, none⟩ = some u := by
  obtain ⟨cur, h1, h2, _, _⟩ := h.stands
  rw [cell_of_row W S j _ _ _ h1]
  exact ⟨_, Array.getElem?_eq_getElem (by omega)⟩
theorem standFree (h : MInv w N O S n d mx v out st W) (j : Nat) : W.frozen? ⟨S, j, none⟩ = false := by
  obtain ⟨cur, h1, _⟩ := h.stands
  exact frozen_row h1
theorem invKept (h : MInv w N O S n d mx v out st W) (hg : W.grownBy W' v.ownBlock) : W'.heap[O]? = some (.cells (icells d mx v) 27 (0, 0)) :=
  (hg.block O (Array.getElem?_eq_some_iff.1 h.inv).1 (fun e => h.row.ne h.inv (by decide) e.symm)).trans h.inv
theorem apart (h : MInv w N O S n d mx v out st W) {X : Nat} {cs : Array Value} {fr : Nat × Nat} (hX : W.heap[X]? = some (.cells cs 88 fr)) : X ≠ S := fun e => by
  subst e
  obtain ⟨cur, h1, _⟩ := h.stands
  rw [hX] at h1
  cases h1
end MInv
end Go.Proofs.YtnhfaincdabdkaaGreatDoor
namespace Go.Proofs.YtnhfaincdabdkaaGreatDoor
open Go.RowKit

namespace V
/-- the components up to place k that p contains -/
def kidsTo (l : List Comp) (p : Int) (k : Nat) : List Nat := (List.range k).filter fun i => match l[i]? with | some c => c.par == p | none => false
def kids (l : List Comp) (p : Int) : List Nat := kidsTo l p l.length
theorem kidsTo_step {l : List Comp} {p : Int} {k : Nat} (h : k < l.length) : kidsTo l p (k + 1) = if (l[k].par == p) = true then kidsTo l p k ++ [k] else kidsTo l p k := by
  unfold kidsTo
  rw [List.range_succ, List.filter_append]
  simp only [List.filter_cons, List.filter_nil, List.getElem?_eq_getElem h]
  split <;> simp
theorem kidsTo_len (l : List Comp) (p : Int) (k : Nat) : (kidsTo l p k).length ≤ k := by
  have := List.length_filter_le (fun i => match l[i]? with | some c => c.par == p | none => false) (List.range k)
  simpa [kidsTo] using this
end V

/-- a row of numbers of one's own -/
def IRow (w : World) (N : Nat) (v : Value) (l : List Nat) : Prop := w.ownsRow N 3 1 v l.length (l.map fun (i : Nat) => Value.int .i64 (i : Int))
theorem IRow.nil (w : World) (N : Nat) : IRow w N (.slice none 0 0) [] := ⟨rfl, .inl ⟨rfl, rfl⟩⟩
theorem IRow.slice {w : World} {N : Nat} {v : Value} {l : List Nat} (h : IRow w N v l) : ∃ a cap, v = .slice a l.length cap := by
  rcases h.2 with ⟨rfl, hn⟩ | ⟨g, cap, cur, rfl, _⟩
  · exact ⟨none, 0, by rw [hn]⟩
  · exact ⟨_, cap, rfl⟩
theorem IRow.kept {w w' : World} {N : Nat} {v : Value} {l : List Nat} (h : IRow w N v l) {row : Option Nat} (hg : w.grownBy w' row) (hr : ∀ b, row = some b → b < N) : IRow w' N v l := by
  obtain ⟨hx, h⟩ := h
  refine ⟨hx, ?_⟩
  rcases h with h | ⟨g, cap, cur, rfl, hb, hgg, rest⟩
  · exact .inl h
  · refine .inr ⟨g, cap, cur, rfl, hb, ?_, rest⟩
    rw [hg.block g (Array.getElem?_eq_some_iff.1 hgg).1 (fun e => by have := hr g e.symm; omega)]
    exact hgg
theorem IRow.block {w : World} {N : Nat} {v : Value} {l : List Nat} (h : IRow w N v l) : ∀ b, v.ownBlock = some b → N ≤ b := by
  intro b hb
  rcases h.2 with ⟨rfl, _⟩ | ⟨g, cap, cur, rfl, hbb, _⟩
  · cases hb
  · simp [Value.ownBlock] at hb; omega
theorem info_int19 : (Tryz.prog.info? 3).map (fun i => (i.zero, i.size, i.bytes)) = some (some (.int .i64 0), 1, 8) := by kernel_rfl
/-- at the operation: a number appended -/
theorem wl_appendI {ops : Array Oper} {rest : List Oper} {o : Oper} {a : Act} {w : World} {Q : Exit → Act → World → Prop} (hgd : o.guard = none) (s x : Operand)
    (ho : o.op = .call { callee := .builtin .append, args := #[s, x], argTypes := #[28, 28] })
    (N : Nat) (v : Value) (l : List Nat) (hs : a.eval s = v) (hown : IRow w N v l) (b : Nat) (i : Nat) (hx : a.eval x = .slice (some ⟨b, 0, none⟩) 1 1) (hr : w.cell? ⟨b, 0, none⟩ = some (.int .i64 (i : Int))) (hl : l.length ≤ 1000000) (hN : N ≤ w.heap.size)
    (h : ∀ v' w', IRow w' N v' (l ++ [i]) → w.grownBy w' v.ownBlock → wpList Tryz.prog ops Q rest (a.put o.dst v') w') : wpList Tryz.prog ops Q (o :: rest) a w := by
  obtain ⟨i0, hi, hz0, hz1, hz2⟩ := info_parts info_int19
  refine wpList_append_own w hgd s x 28 ho N 3 i0 (.int .i64 0) 1 8 Tryz.underlying28 hi hz0 hz1 hz2 rfl (by decide) v l.length _ hs hown ⟨b, 0, none⟩ 1 1 [.int .i64 (i : Int)] hx rfl ?_ ?_ (by unfold maxLen; omega) (by omega) hN ?_
  · intro j u hj
    have : j = 0 := by
      have := (List.getElem?_eq_some_iff.1 hj).1
      simpa using this
    subst this
    rw [Addr.add_mid]
    simpa [hr] using hj
  · intro u hu
    rw [List.mem_singleton.1 hu]; rfl
  · intro v' w' ho' hg _
    refine h v' w' ?_ hg
    unfold IRow
    rw [List.length_append, List.map_append]
    exact ho'

def KidsPost (l : List V.Comp) (p : Int) (w : World) (e : Ending) (w' : World) : Prop :=
  ∃ v, e = .returned v ∧ IRow w' w.heap.size v (V.kids l p) ∧ Below w.heap.size w w'
end Go.Proofs.YtnhfaincdabdkaaGreatDoor
namespace Go.Proofs.YtnhfaincdabdkaaGreatDoor
open Go.RowKit

/-- at the operation: an inventory loaded -/
theorem wl_loadV {ops : Array Oper} {rest : List Oper} {o : Oper} {a : Act} {w : World} {Q : Exit → Act → World → Prop} (hgd : o.guard = none) (x : Operand) (ho : o.op = .load 27 x)
    (g : Nat) (hx : a.eval x = .pointer (some ⟨g, 0, none⟩)) (cs : Array Value) (hcs : cs.size = 34) (hgr : w.heap[g]? = some (.cells cs 27 (0, 0)))
    (h : wpList Tryz.prog ops Q rest (a.put o.dst (.agg cs)) w) : wpList Tryz.prog ops Q (o :: rest) a w :=
  wpList_load_row hgd _ x ho g hx _ cs (0, 0) _ hgr Tryz.underlying27 rfl (by rw [invInfo, hcs]) h
/-- at the operation: an inventory stored -/
theorem wl_storeV {ops : Array Oper} {rest : List Oper} {o : Oper} {a : Act} {w : World} {Q : Exit → Act → World → Prop} (hgd : o.guard = none) (x y : Operand) (ho : o.op = .store 27 x y)
    (g : Nat) (old : Array Value) (t : TypeId) (hg : w.heap[g]? = some (.cells old t (0, 0))) (hx : a.eval x = .pointer (some ⟨g, 0, none⟩)) (d : List Int) (time : Int) (v : Value) (hd : d.length = 32) (hv : v.oneCell' = true) (hy : a.eval y = .agg (icells d time v)) (ho34 : old.size = 34)
    (h : wpList Tryz.prog ops Q rest (a.put o.dst undef) (w.setRow g (icells d time v))) : wpList Tryz.prog ops Q (o :: rest) a w :=
  wpList_store_row hgd _ x y ho g (icells d time v) hx hy t old hg (by rw [invInfo, icells_size hd]) (by rw [ho34, icells_size hd]) (icells_one hv) h
/-- at an operation whose guard holds: an inventory loaded -/
theorem wg_loadI {ops : Array Oper} {rest : List Oper} {o : Oper} {a : Act} {w : World} {Q : Exit → Act → World → Prop} (hw : Region.wanted o (yielded ops a.tmps) = true) (x : Operand) (ho : o.op = .load 27 x)
    (g : Nat) (hx : a.eval x = .pointer (some ⟨g, 0, none⟩)) (cs : Array Value) (hcs : cs.size = 34) (hgr : w.heap[g]? = some (.cells cs 27 (0, 0)))
    (h : wpList Tryz.prog ops Q rest (a.put o.dst (.agg cs)) w) : wpList Tryz.prog ops Q (o :: rest) a w :=
  wl_wanted hw fun _ hK => wp_load_row _ x ho g hx _ cs (0, 0) _ hgr Tryz.underlying27 rfl (by rw [invInfo, hcs]) (hK _ _ h)
theorem ex_load {P : Program} {o : Oper} {ev : Operand → Value} {w : World} {ty : TypeId} {x : Operand} {p v : Value} (ho : o.op = .load ty x) (hx : ev x = p) (h : (Instr.loadAt ty p).run P w = .ok v w) : (execOp ev o).run P w = .ok (.value v) w := by
  unfold execOp
  simp only [ho, hx, Sem.run_bind, h, Result.andThen_ok, Sem.run_pure]
theorem load_dig {d : List Int} (hd : d.length = 32) {w : World} {b o : Nat} (h : w.rangeAt b o (dcellsL d)) : (Instr.loadAt 24 (.pointer (some ⟨b, o, none⟩))).run Tryz.prog w = .ok (.agg (dcells d)) w :=
  run_loadAt_mid w b o _ (dcellsL d) _ h Tryz.underlying24 rfl (by rw [digInfo]; unfold dcellsL; simp [hd])
theorem ex_build {P : Program} {o : Oper} {ev : Operand → Value} {w : World} {t : TypeId} {parts : Array (Nat × Operand)} {cells : Array Value} (ho : o.op = .build t parts) (h : P.built t (parts.map fun (i, x) => (i, ev x)).toList = some cells) : (execOp ev o).run P w = .ok (.value (.agg cells)) w := by
  unfold execOp
  simp only [ho, Sem.run_bind, run_build w t _ cells h, Result.andThen_ok, Sem.run_pure]
theorem range32 {d : List Int} (hd : d.length = 32) : d = (List.range 32).map fun i => d.getD i 0 := by
  apply List.ext_getElem
  · simp [hd]
  · intro i h1 h2
    simp [List.getD, List.getElem?_eq_getElem h1]
set_option maxRecDepth 100000 in
theorem built_inv' (f : Nat → Int) (time : Int) (a : Option Addr) (n c : Nat) : Tryz.prog.built 27 [(0, .agg (dcells ((List.range 32).map f))), (1, .int .i64 time), (2, .slice a n c)] = some (icells ((List.range 32).map f) time (.slice a n c)) := by kernel_rfl
theorem built_inv {d : List Int} (hd : d.length = 32) (time : Int) (a : Option Addr) (n c : Nat) : Tryz.prog.built 27 [(0, .agg (dcells d)), (1, .int .i64 time), (2, .slice a n c)] = some (icells d time (.slice a n c)) := by
  rw [range32 hd]; exact built_inv' _ _ _ _ _
/-- a new inventory, as a step of a region that draws -/
theorem step_allocV {ops : Array Oper} {o : Oper} {a : Act} {w : World} {K : Act → World → Prop} {Q : Exit → Act → World → Prop} {E : Prop} (hgd : o.guard = none) (ho : o.op = .alloc 27)
    (h : K (a.put o.dst (.pointer (some ⟨w.heap.size, 0, none⟩))) (w.alloc (.cells (icells zero32 0 (.slice none 0 0)) 27))) :
    if Region.wanted o (yielded ops a.tmps) = true then Oper.wp Tryz.prog o a w K Q else E := by
  rw [if_pos (by simp [Region.wanted, hgd])]
  rw [← zero_inv] at h
  obtain ⟨dst, op, ty, ps, af, gd⟩ := o
  simp only at ho
  subst ho
  simp only at h
  generalize hK' : (fun (a' : Act) (w' : World) => K a' w') = K' at *
  subst hK'
  go_simp
  exact h
/-- .. stored into it -/
theorem step_storeV {ops : Array Oper} {o : Oper} {a : Act} {w : World} {K : Act → World → Prop} {Q : Exit → Act → World → Prop} {E : Prop} (hgd : o.guard = none) (x y : Operand) (ho : o.op = .store 27 x y)
    (g : Nat) (old : Array Value) (t : TypeId) (hg : w.heap[g]? = some (.cells old t (0, 0))) (hx : a.eval x = .pointer (some ⟨g, 0, none⟩)) (d : List Int) (time : Int) (v : Value) (hd : d.length = 32) (hv : v.oneCell' = true) (hy : a.eval y = .agg (icells d time v)) (ho34 : old.size = 34)
    (h : K (a.put o.dst undef) (w.setRow g (icells d time v))) :
    if Region.wanted o (yielded ops a.tmps) = true then Oper.wp Tryz.prog o a w K Q else E := by
  rw [if_pos (by simp [Region.wanted, hgd])]
  exact wp_store_row _ x y ho g (icells d time v) hx hy t old hg (by rw [invInfo, icells_size hd]) (by rw [ho34, icells_size hd]) (icells_one hv) h
end Go.Proofs.YtnhfaincdabdkaaGreatDoor
