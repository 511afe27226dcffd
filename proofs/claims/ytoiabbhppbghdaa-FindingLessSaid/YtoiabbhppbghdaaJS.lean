/-
  Rows of components of one's own: how they read, an append; laws in regions that only read.
-/
import Derived.Test.YtoiabbhppbghdaaJM
import Derived.Test.YtoiabbhppbghdaaJH
import Derived.Laws.AppendOwn
import Derived.OwnWalk
import Derived.Still
namespace Go.Proofs.Ytoiabbhppbghdaa
open Go.RowKit

theorem cellsL_len {c : V.Comp} (h : CompWf c) : (cellsL c).length = 36 := by have := h.size; unfold ccells at this; simpa using this
theorem flat_at : ∀ {l : List V.Comp}, (∀ c ∈ l, CompWf c) → ∀ j (h : j < l.length) i, i < 36 → (l.flatMap cellsL)[j * 36 + i]? = (cellsL l[j])[i]?
  | [], _, j, h, _, _ => by simp at h
  | c :: l, hw, 0, _, i, hi => by
    rw [List.flatMap_cons, List.getElem?_append_left (by rw [cellsL_len (hw c (by simp))]; omega)]
    simp
  | c :: l, hw, j + 1, h, i, hi => by
    have hl := cellsL_len (hw c (by simp))
    rw [List.flatMap_cons, List.getElem?_append_right (by rw [hl]; omega), hl, show (j + 1) * 36 + i - 36 = j * 36 + i by omega]
    rw [flat_at (fun d hd => hw d (by simp [hd])) j (by simpa using h) i hi]
    simp
theorem flat_len : ∀ {l : List V.Comp}, (∀ c ∈ l, CompWf c) → (l.flatMap cellsL).length = l.length * 36
  | [], _ => rfl
  | c :: l, hw => by
    rw [List.flatMap_cons, List.length_append, cellsL_len (hw c (by simp)), flat_len (fun d hd => hw d (by simp [hd])), List.length_cons]
    omega

/-- a row of components of one's own -/
def CRow (w : World) (N : Nat) (v : Value) (l : List V.Comp) : Prop := w.ownsRow N 47 36 v l.length (l.flatMap cellsL) ∧ ∀ c ∈ l, CompWf c
theorem CRow.nil (w : World) (N : Nat) : CRow w N (.slice none 0 0) [] := ⟨⟨rfl, .inl ⟨rfl, rfl⟩⟩, fun c hc => by simp at hc⟩
theorem CRow.comps {w : World} {N : Nat} {v : Value} {l : List V.Comp} (h : CRow w N v l) : Comps w v l := by
  obtain ⟨⟨hx, h⟩, hw⟩ := h
  rcases h with ⟨rfl, hn⟩ | ⟨g, cap, cur, rfl, hb, hg, hnc, hm, hsz, htk⟩
  · have := List.eq_nil_of_length_eq_zero hn
    subst this
    exact Comps.nil w
  · refine ⟨_, cap, rfl, fun j hj => ⟨hw _ (List.getElem_mem hj), g, 0, rfl, (Array.getElem?_eq_some_iff.1 hg).1, fun i u hu => ?_⟩⟩
    have hi : i < 36 := by
      have := (List.getElem?_eq_some_iff.1 hu).1
      rw [cellsL_len (hw _ (List.getElem_mem hj))] at this
      exact this
    rw [cell_of_row w g _ cur _ (0, 0) hg, show 0 + j * 36 + i = j * 36 + i by omega]
    have h1 := flat_at hw j hj i hi
    rw [hu, ← htk, List.getElem?_take] at h1
    split at h1
    · simpa using h1
    · cases h1
theorem CRow.kept {w w' : World} {N : Nat} {v : Value} {l : List V.Comp} (h : CRow w N v l) {row : Option Nat} (hg : w.grownBy w' row) (hr : ∀ b, row = some b → b < N) : CRow w' N v l := by
  obtain ⟨⟨hx, h⟩, hw⟩ := h
  refine ⟨⟨hx, ?_⟩, hw⟩
  rcases h with h | ⟨g, cap, cur, rfl, hb, hgg, rest⟩
  · exact .inl h
  · refine .inr ⟨g, cap, cur, rfl, hb, ?_, rest⟩
    rw [hg.block g (Array.getElem?_eq_some_iff.1 hgg).1 (fun e => by have := hr g e.symm; omega)]
    exact hgg
theorem CRow.block {w : World} {N : Nat} {v : Value} {l : List V.Comp} (h : CRow w N v l) : ∀ b, v.ownBlock = some b → N ≤ b := by
  obtain ⟨⟨_, h⟩, _⟩ := h
  intro b hb
  rcases h with ⟨rfl, _⟩ | ⟨g, cap, cur, rfl, hbb, _⟩
  · cases hb
  · simp [Value.ownBlock] at hb; omega

theorem compIE3 : ∃ ie z, Try.prog.info? 47 = some ie ∧ ie.zero = some z ∧ ie.size = 36 ∧ ie.bytes = 80 ∧ z.cells.size = 36 := by
  have h : (match Try.prog.info? 47 with | some i => i.size == 36 && (i.bytes == 80 && (match i.zero with | some z => z.cells.size == 36 | none => false)) | none => false) = true := by kernel_rfl
  cases hq : Try.prog.info? 47 with
  | none => rw [hq] at h; cases h
  | some i =>
    rw [hq] at h
    simp only [Bool.and_eq_true, beq_iff_eq] at h
    obtain ⟨h1, h2, h3⟩ := h
    cases hz : i.zero with
    | none => rw [hz] at h3; cases h3
    | some z =>
      rw [hz] at h3
      exact ⟨i, z, rfl, hz, h1, h2, by simpa using h3⟩
/-- at the operation: a component appended -/
theorem wl_appendC {ops : Array Oper} {rest : List Oper} {o : Oper} {a : Act} {w : World} {Q : Exit → Act → World → Prop} (hgd : o.guard = none) (s x : Operand)
    (ho : o.op = .call { callee := .builtin .append, args := #[s, x], argTypes := #[39, 39] })
    (N : Nat) (v : Value) (l : List V.Comp) (hs : a.eval s = v) (hown : CRow w N v l) (b : Nat) (c : V.Comp) (hc : CompWf c) (hx : a.eval x = .slice (some ⟨b, 0, none⟩) 1 1) (hr : w.rangeAt b 0 (cellsL c)) (hl : l.length ≤ 1000000) (hN : N ≤ w.heap.size)
    (h : ∀ v' w', CRow w' N v' (l ++ [c]) → w.grownBy w' v.ownBlock → wpList Try.prog ops Q rest (a.put o.dst v') w') : wpList Try.prog ops Q (o :: rest) a w := by
  obtain ⟨ie, z, hi, hz, h1, h2, h3⟩ := compIE3
  refine wpList_append_own w hgd s x 39 ho N 47 ie z 36 80 Try.underlying39 hi hz h1 h2 h3 (by decide) v l.length (l.flatMap cellsL) hs hown.1 ⟨b, 0, none⟩ 1 1 (cellsL c) hx (cellsL_len hc) ?_ ?_ (by unfold maxLen; omega) (by omega) hN ?_
  · intro j u hj
    rw [Addr.add_mid]
    exact hr j u hj
  · intro u hu
    have := Array.all_eq_true_iff_forall_mem.1 (comp_one (c := c)) u (by unfold ccells; simpa using hu)
    exact this
  · intro v' w' ho' hg _
    refine h v' w' ⟨?_, fun d hd => ?_⟩ hg
    · rw [List.length_append, List.flatMap_append]
      simpa using ho'
    · rcases List.mem_append.1 hd with hd | hd
      · exact hown.2 d hd
      · rw [List.mem_singleton.1 hd]; exact hc
/-- at the operation: one component as a slice of its own -/
theorem wl_build1 {ops : Array Oper} {rest : List Oper} {o : Oper} {a : Act} {w : World} {Q : Exit → Act → World → Prop} (hgd : o.guard = none) (x : Operand) (ho : o.op = .buildSlice 39 1 #[(0, x)])
    (c : V.Comp) (hc : CompWf c) (hx : a.eval x = .agg (ccells c))
    (h : wpList Try.prog ops Q rest (a.put o.dst (.slice (some ⟨w.heap.size, 0, none⟩) 1 1)) (w.alloc (.cells (ccells c) 47))) : wpList Try.prog ops Q (o :: rest) a w := by
  obtain ⟨ie, z, hie, hsz, hz⟩ := compIE
  refine wpList_buildSlice hgd _ 47 1 _ ho (ccells c) ie z Try.underlying39 hie hz (by rw [hsz]; decide) (by rw [hsz]; decide) ?_ h
  have := Great.fill_whole (s := 36) (by decide) [Value.agg (ccells c)] ((Array.range (1 * ie.size)).map (z.cells[· % z.cells.size]!)) (fun v hv => by
    rcases List.mem_cons.1 hv with rfl | hv
    · exact hc.size
    · cases hv) (by rw [hsz]; simp)
  rw [hsz] at this ⊢
  simp only [hx, List.map_toArray, List.map_cons, List.map_nil]
  exact this.trans (by simp [Value.cells])

/-- in a region that only reads: a component loaded -/
theorem still_load {ops : Array Oper} {o : Oper} {a : Act} {w : World} {K : Act → Prop} {E : Prop} (hw : Region.wanted o (yielded ops a.tmps) = true) (x : Operand) (ho : o.op = .load 47 x)
    (b off : Nat) (hx : a.eval x = .pointer (some ⟨b, off, none⟩)) (c : V.Comp) (hc : CompWf c) (hr : w.rangeAt b off (cellsL c)) (h : K (a.put o.dst (.agg (ccells c)))) :
    if Region.wanted o (yielded ops a.tmps) = true then o.still Try.prog a w K else E := by
  rw [if_pos hw]
  unfold Oper.still execOp
  simp only [ho, hx, Sem.run_bind, load_comp hc hr, Result.andThen_ok, Sem.run_pure, Oper.stillUpon_value]
  exact h
/-- .. an operation that yields -/
theorem still_val {P : Program} {ops : Array Oper} {o : Oper} {a : Act} {w : World} {K : Act → Prop} {E : Prop} (hw : Region.wanted o (yielded ops a.tmps) = true) (v : Value) (he : (execOp a.eval o).run P w = .ok (.value v) w) (h : K (a.put o.dst v)) :
    if Region.wanted o (yielded ops a.tmps) = true then o.still P a w K else E := by
  rw [if_pos hw]
  unfold Oper.still
  rw [he, Oper.stillUpon_value]
  exact h
/-- .. an operation whose guard does not hold -/
theorem still_skip {P : Program} {ops : Array Oper} {o : Oper} {a : Act} {w : World} {K : Act → Prop} (hw : Region.wanted o (yielded ops a.tmps) = false) (h : K (a.put o.dst undef)) :
    if Region.wanted o (yielded ops a.tmps) = true then o.still P a w K else K (a.put o.dst undef) := by
  rw [if_neg (by rw [hw]; decide)]
  exact h
/-- .. two components compared -/
theorem still_eql {ops : Array Oper} {o : Oper} {a : Act} {w : World} {K : Act → Prop} {E : Prop} (hw : Region.wanted o (yielded ops a.tmps) = true) (x y : Operand) (ho : o.op = .binOp .eql 47 x y 47)
    (c d : V.Comp) (hc : CompWf c) (hd : CompWf d) (hx : a.eval x = .agg (ccells c)) (hy : a.eval y = .agg (ccells d)) (h : K (a.put o.dst (.bool (decide (c = d))))) :
    if Region.wanted o (yielded ops a.tmps) = true then o.still Try.prog a w K else E := by
  rw [if_pos hw]
  unfold Oper.still execOp
  simp only [ho, hx, hy, Sem.run_bind, run_eqGuard_agg w .eql 47 x y _ _ guard_comp, Result.andThen_ok, run_eql_struct, eq_comp hc hd, Sem.run_pure, Oper.stillUpon_value]
  exact h

theorem compsTo_append (l : List V.Comp) (c : V.Comp) : ∀ k, k ≤ l.length → V.compsTo (l ++ [c]) k = V.compsTo l k
  | 0, _ => rfl
  | k + 1, h => by
    have h1 : k < l.length := by omega
    rw [V.compsTo_step h1, V.compsTo_step (l := l ++ [c]) (by simp; omega), compsTo_append l c k (by omega)]
    rw [List.getElem_append_left h1]
    unfold V.compAt
    rw [List.take_append_of_le_length (by omega)]
theorem compsTo_more {l : List V.Comp} {c : V.Comp} (h : V.compsTo l l.length = true) (h1 : V.compOk c = true) (h2 : -1 ≤ c.par) (h3 : c.par < l.length) (h4 : c ∉ l) : V.compsTo (l ++ [c]) (l ++ [c]).length = true := by
  rw [List.length_append, List.length_singleton, V.compsTo_step (by simp), compsTo_append l c _ (Nat.le_refl _), h]
  rw [List.getElem_append_right (Nat.le_refl _)]
  simp only [Nat.sub_self, List.getElem_cons_zero, Bool.true_and]
  rw [V.compAt_iff]
  refine ⟨h1, h2, h3, ?_⟩
  rw [List.take_append_of_le_length (Nat.le_refl _), List.take_length]
  exact h4
end Go.Proofs.Ytoiabbhppbghdaa
