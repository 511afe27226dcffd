/-
  Appends of whole slices of components; empty slices made; the state of the reference's merge.
-/
import Derived.Test.YtoiabbhppbghdaaDoorIF
import Derived.Test.YtoiabbhppbghdaaDoorID
import Derived.Test.YtoiabbhppbghdaaDoorJX
import Derived.Test.YtoiabbhppbghdaaDoorJZ
import Derived.Laws.OwnMore
namespace Go.Proofs.YtoiabbhppbghdaaDoor
open Go.RowKit

theorem run_append_nil {P : Program} {w : World} (base : Nat) (t ty e : TypeId) (i : TypeInfo) (size : Nat) (ht : P.underlying t = some (.slice e)) (hi : P.info? e = some i)
    (v : Value) (n : Nat) (xs : List Value) (hown : w.ownsRow base e size v n xs) (c : Nat) :
    (Builtin.append_ #[t, t] ty #[v, .slice none 0 c]).run P w = .ok v w := by
  rcases hown.2 with ⟨rfl, rfl⟩ | ⟨g, cap, cur, rfl, _, _, hnc, _⟩
  · simp [Builtin.append_, run_underlying ht, sizeOf, typeInfo, hi, Builtin.lenOf, Builtin.firstCells]
  · simp [Builtin.append_, run_underlying ht, sizeOf, typeInfo, hi, Builtin.lenOf, Builtin.firstCells, hnc, storeCells]
/-- the operation: a slice of components appended to a row of one's own -/
theorem wp_appendCs {o : Oper} {a : Act} {w : World} {K : Act → World → Prop} {Q : Exit → Act → World → Prop} (s x : Operand)
    (ho : o.op = .call { callee := .builtin .append, args := #[s, x], argTypes := #[24, 24] })
    (N : Nat) (v : Value) (l : List V.Comp) (hs : a.eval s = v) (hown : CRow w N v l) (u : Value) (m : List V.Comp) (hx : a.eval x = u) (hu : Comps w u m) (hl : l.length + m.length ≤ 1000000) (hN : N ≤ w.heap.size)
    (h : ∀ v' w', CRow w' N v' (l ++ m) → w.grownBy w' v.ownBlock → K (a.put o.dst v') w') : o.wp Tryd.prog a w K Q := by
  obtain ⟨ie, z, hi, hz, h1, h2, h3⟩ := compIE3
  have hwf := hu.wf
  obtain ⟨ua, uc, rfl, hat⟩ := hu
  rcases ua with _ | ad
  · have hn : m = [] := by
      cases m with
      | nil => rfl
      | cons c r =>
        obtain ⟨_, b, off, e, _⟩ := hat 0 (by simp)
        cases e
    subst hn
    have hrun := run_append_nil (P := Tryd.prog) (w := w) N 24 o.type 35 ie 36 Tryd.underlying24 hi v l.length (l.flatMap cellsL) hown.1 uc
    unfold Oper.wp
    simp [execOp, ho, resolve, invoke, builtin, hs, hx, hrun, Result.andThen]
    exact h v w (by rw [List.append_nil]; exact hown) ⟨rfl, rfl, rfl, Nat.le_refl _, fun _ _ _ => rfl⟩
  · refine wp_append_own w s x 24 ho N 35 ie z 36 80 Tryd.underlying24 hi hz h1 h2 h3 (by decide) v l.length (l.flatMap cellsL) hs hown.1 ad m.length uc (m.flatMap cellsL) hx (flat_len hwf) ?_ ?_ (by unfold maxLen; omega) (by omega) hN ?_
    · intro j u hju
      obtain ⟨q, hq, i, hi, rfl, hu⟩ := flat_get hwf hju
      obtain ⟨_, b, off, e, hlt, hr⟩ := hat q hq
      cases e
      rw [Addr.add_mid]
      have := hr i u hu
      rw [show off + q * 36 + i = off + (q * 36 + i) by omega] at this
      exact this
    · intro u hu
      obtain ⟨c, hc, huc⟩ := List.mem_flatMap.1 hu
      exact Array.all_eq_true_iff_forall_mem.1 (comp_one (c := c)) u (by unfold ccells; simpa using huc)
    · intro v' w' ho' hg _
      refine h v' w' ⟨?_, fun d hd => ?_⟩ hg
      · rw [List.length_append, List.flatMap_append]; exact ho'
      · rcases List.mem_append.1 hd with hd | hd
        · exact hown.2 d hd
        · exact hwf d hd
theorem step_appendCs {ops : Array Oper} {o : Oper} {a : Act} {w : World} {K : Act → World → Prop} {Q : Exit → Act → World → Prop} {E : Prop} (hgd : o.guard = none) (s x : Operand)
    (ho : o.op = .call { callee := .builtin .append, args := #[s, x], argTypes := #[24, 24] })
    (N : Nat) (v : Value) (l : List V.Comp) (hs : a.eval s = v) (hown : CRow w N v l) (u : Value) (m : List V.Comp) (hx : a.eval x = u) (hu : Comps w u m) (hl : l.length + m.length ≤ 1000000) (hN : N ≤ w.heap.size)
    (h : ∀ v' w', CRow w' N v' (l ++ m) → w.grownBy w' v.ownBlock → K (a.put o.dst v') w') : if Region.wanted o (yielded ops a.tmps) = true then Oper.wp Tryd.prog o a w K Q else E := by
  rw [if_pos (by simp [Region.wanted, hgd])]
  exact wp_appendCs s x ho N v l hs hown u m hx hu hl hN h
theorem wl_appendCs {ops : Array Oper} {rest : List Oper} {o : Oper} {a : Act} {w : World} {Q : Exit → Act → World → Prop} (hgd : o.guard = none) (s x : Operand)
    (ho : o.op = .call { callee := .builtin .append, args := #[s, x], argTypes := #[24, 24] })
    (N : Nat) (v : Value) (l : List V.Comp) (hs : a.eval s = v) (hown : CRow w N v l) (u : Value) (m : List V.Comp) (hx : a.eval x = u) (hu : Comps w u m) (hl : l.length + m.length ≤ 1000000) (hN : N ≤ w.heap.size)
    (h : ∀ v' w', CRow w' N v' (l ++ m) → w.grownBy w' v.ownBlock → wpList Tryd.prog ops Q rest (a.put o.dst v') w') : wpList Tryd.prog ops Q (o :: rest) a w :=
  wpList_plain hgd fun _ hK => wp_appendCs s x ho N v l hs hown u m hx hu hl hN fun v' w' h2 h3 => hK _ _ (h v' w' h2 h3)
theorem run_build0 (w : World) : (Instr.buildSlice 24 0 #[]).run Tryd.prog w = .ok (.slice (some ⟨w.heap.size, 0, none⟩) 0 0) (w.alloc (.cells #[] 35)) := by
  obtain ⟨ie, z, hi, hz, h1, h2, h3⟩ := compIE3
  simp [Instr.buildSlice, run_underlying Tryd.underlying24, sizeOf, typeInfo, zeroValue, hi, hz, newRow, Instr.fill]
  have e : Array.map (fun (_ : Nat) => (default : Value)) (Array.range 0) = #[] := Array.eq_empty_of_size_eq_zero (by simp)
  rw [e]
theorem step_build0 {ops : Array Oper} {o : Oper} {a : Act} {w : World} {K : Act → World → Prop} {Q : Exit → Act → World → Prop} {E : Prop} (hgd : o.guard = none) (ho : o.op = .buildSlice 24 0 #[])
    (h : K (a.put o.dst (.slice (some ⟨w.heap.size, 0, none⟩) 0 0)) (w.alloc (.cells #[] 35))) : if Region.wanted o (yielded ops a.tmps) = true then Oper.wp Tryd.prog o a w K Q else E := by
  rw [if_pos (by simp [Region.wanted, hgd])]
  unfold Oper.wp execOp
  simp only [ho, Sem.run_bind, List.map_toArray, List.map_nil, run_build0 w, Result.andThen_ok]
  exact h
theorem wl_build0 {ops : Array Oper} {rest : List Oper} {o : Oper} {a : Act} {w : World} {Q : Exit → Act → World → Prop} (hgd : o.guard = none) (ho : o.op = .buildSlice 24 0 #[])
    (h : wpList Tryd.prog ops Q rest (a.put o.dst (.slice (some ⟨w.heap.size, 0, none⟩) 0 0)) (w.alloc (.cells #[] 35))) : wpList Tryd.prog ops Q (o :: rest) a w :=
  wpList_plain hgd fun _ hK => by
    unfold Oper.wp execOp
    simp only [ho, Sem.run_bind, List.map_toArray, List.map_nil, run_build0 w, Result.andThen_ok]
    exact hK _ _ h
/-- an empty slice made is a row of one's own -/
theorem CRow.made0 (w : World) {N : Nat} (hN : N ≤ w.heap.size) : CRow (w.alloc (.cells #[] 35)) N (.slice (some ⟨w.heap.size, 0, none⟩) 0 0) [] :=
  ⟨World.ownsRow_made w #[] 0 hN (Nat.zero_le _) rfl, fun c hc => by simp at hc⟩

/-- at the operation: a number appended -/
theorem wl_appendZ {ops : Array Oper} {rest : List Oper} {o : Oper} {a : Act} {w : World} {Q : Exit → Act → World → Prop} (hgd : o.guard = none) (s x : Operand)
    (ho : o.op = .call { callee := .builtin .append, args := #[s, x], argTypes := #[27, 27] })
    (N : Nat) (v : Value) (l : List Int) (hs : a.eval s = v) (hown : ZRow w N v l) (b : Nat) (i : Int) (hx : a.eval x = .slice (some ⟨b, 0, none⟩) 1 1) (hr : w.cell? ⟨b, 0, none⟩ = some (.int .i64 i)) (hl : l.length ≤ 1000000) (hN : N ≤ w.heap.size)
    (h : ∀ v' w', ZRow w' N v' (l ++ [i]) → w.grownBy w' v.ownBlock → wpList Tryd.prog ops Q rest (a.put o.dst v') w') : wpList Tryd.prog ops Q (o :: rest) a w := by
  obtain ⟨i0, hi, hz0, hz1, hz2⟩ := info_parts info_int19
  refine wpList_append_own w hgd s x 27 ho N 3 i0 (.int .i64 0) 1 8 Tryd.underlying27 hi hz0 hz1 hz2 rfl (by decide) v l.length _ hs hown ⟨b, 0, none⟩ 1 1 [.int .i64 i] hx rfl ?_ ?_ (by unfold maxLen; omega) (by omega) hN ?_
  · intro j u hj
    have : j = 0 := by
      have := (List.getElem?_eq_some_iff.1 hj).1
      simpa using this
    subst this
    rw [Addr.add_mid]
    simpa [hr] using hj
  · intro u hu
    rw [List.mem_singleton.1 hu]; rfl
  · intro v' w' ho' hg _
    refine h v' w' ?_ hg
    unfold ZRow
    rw [List.length_append, List.map_append]
    exact ho'
theorem ZRow.get {w : World} {N : Nat} {v : Value} {l : List Int} (h : ZRow w N v l) {j : Nat} (hj : j < l.length) : ∃ g cap, v = .slice (some ⟨g, 0, none⟩) l.length cap ∧ w.cell? ⟨g, j, none⟩ = some (.int .i64 l[j]) := by
  rcases h.2 with ⟨_, h0⟩ | ⟨g, cap, cur, rfl, hrest⟩
  · omega
  · refine ⟨g, cap, rfl, ?_⟩
    have := World.ownsRow.cellAt h j (by omega)
    rw [this, List.getElem?_map, List.getElem?_eq_getElem hj]
    rfl

/-- what the loop of the reference's merge keeps: w the world behind the checks -/
structure RInv (w : World) (O : Nat) (d : List Int) (mx : Int) (v : Value) (out : List V.Comp) (pv : Value) (st : List Int) (W : World) : Prop where
  row : CRow W w.heap.size v out
  inv : W.heap[O]? = some (.cells (icells d mx v) 26 (0, 0))
  place : ZRow W w.heap.size pv st
  below : Below w.heap.size w W
  hO : w.heap.size ≤ O
namespace RInv
variable {w : World} {O : Nat} {d : List Int} {mx : Int} {v : Value} {out : List V.Comp} {pv : Value} {st : List Int} {W W' : World}
theorem placeNe (h : RInv w O d mx v out pv st W) {g : Nat} {cs : Array Value} {t : TypeId} {fr : Nat × Nat} (hg : W.heap[g]? = some (.cells cs t fr)) (ht : t ≠ 3) : pv.ownBlock ≠ some g := fun hb => by
  obtain ⟨cur, hc⟩ := h.place.cellsAt g hb
  rw [hc] at hg
  cases hg
  exact ht rfl
theorem call (h : RInv w O d mx v out pv st W) (hb : Below W.heap.size W W') : RInv w O d mx v out pv st W' :=
  ⟨h.row.kept2 (below_grown hb none) (fun b e => by cases e), (hb.block O (Array.getElem?_eq_some_iff.1 h.inv).1).trans h.inv, h.place.kept (below_grown hb none) (fun b e => by cases e), h.below.trans (hb.mono h.below.size), h.hO⟩
theorem alloc (h : RInv w O d mx v out pv st W) (o : Obj) : RInv w O d mx v out pv st (W.alloc o) :=
  h.call ((Below.refl _ W).alloc (Nat.le_refl _) o)
theorem invCell (hd : d.length = 32) (h : RInv w O d mx v out pv st W) : W.cell? ⟨O, 33, none⟩ = some v := by
  rw [cell_of_row W O 33 _ _ _ h.inv]; exact icells_33 hd mx v
theorem invKept (h : RInv w O d mx v out pv st W) (hg : W.grownBy W' v.ownBlock) : W'.heap[O]? = some (.cells (icells d mx v) 26 (0, 0)) :=
  (hg.block O (Array.getElem?_eq_some_iff.1 h.inv).1 (fun e => h.row.ne h.inv (by decide) e.symm)).trans h.inv
theorem growBelow (h : RInv w O d mx v out pv st W) {u : Value} (hu : ∀ b, u.ownBlock = some b → w.heap.size ≤ b) (hg : W.grownBy W' u.ownBlock) : Below w.heap.size w W' :=
  h.below.trans ⟨hg.os, hg.tape, hg.output, hg.size, fun k hk => hg.block k (by have := h.below.size; omega) (fun e => by have := hu k e.symm; omega)⟩
/-- a component appended -/
theorem append (hd : d.length = 32) (h : RInv w O d mx v out pv st W) {v' : Value} {out' : List V.Comp} (hr : CRow W' w.heap.size v' out') (hg : W.grownBy W' v.ownBlock) : RInv w O d mx v' out' pv st (W'.setCell ⟨O, 33, none⟩ v') := by
  have hi := h.invKept hg
  have hp : ZRow W' w.heap.size pv st := h.place.kept hg (fun b hb e => by
    obtain ⟨cur, hc⟩ := h.row.heap hb
    exact h.placeNe hc (by decide) e)
  have hg2 := set_grown W' O 33 v'
  refine ⟨hr.kept2 hg2 (fun b hb => by cases hb; exact hr.ne hi (by decide)), ?_, hp.kept hg2 (fun b hb e => by
    cases hb
    obtain ⟨cur, hc⟩ := hp.cellsAt O e
    rw [hi] at hc; cases hc), ?_, h.hO⟩
  · rw [setCell_heap _ _ hi, icells_set33 hd]
  · exact (h.growBelow h.row.block hg).setCell (p := ⟨O, 33, none⟩) h.hO _
/-- a place appended -/
theorem push (h : RInv w O d mx v out pv st W) {pv' : Value} {st' : List Int} (hr : ZRow W' w.heap.size pv' st') (hg : W.grownBy W' pv.ownBlock) : RInv w O d mx v out pv' st' W' := by
  refine ⟨h.row.kept2 hg (fun b hb e => ?_), ?_, hr, h.growBelow h.place.block hg, h.hO⟩
  · obtain ⟨cur, hc⟩ := h.row.heap e
    exact h.placeNe hc (by decide) hb
  · exact (hg.block O (Array.getElem?_eq_some_iff.1 h.inv).1 (fun e => h.placeNe h.inv (by decide) e.symm)).trans h.inv
end RInv
end Go.Proofs.YtoiabbhppbghdaaDoor
