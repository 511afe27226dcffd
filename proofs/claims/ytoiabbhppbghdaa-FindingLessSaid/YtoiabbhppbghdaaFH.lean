/-
  Walk: the maker Case, with no facts.
-/
import Derived.Test.YtoiabbhppbghdaaFF
import Derived.Test.YtoiabbhppbghdaaJT
namespace Go.Proofs.Ytoiabbhppbghdaa
open Go.RowKit

/-- the cells of a case without facts -/
def csl (d : List Int) (t : Int) (v u : Value) : List Value := dcellsL d ++ [.int .i64 t, .slice none 0 0, v, u]
def cscells (d : List Int) (t : Int) (v u : Value) : Array Value := (csl d t v u).toArray
theorem cs_at {d : List Int} (h : DigOk d) {t : Int} {v u : Value} (i : Nat) : (cscells d t v u)[32 + i]? = [Value.int .i64 t, .slice none 0 0, v, u][i]? := by
  unfold cscells csl
  rw [List.getElem?_toArray, List.getElem?_append_right (by rw [dL_len h]; omega), dL_len h, Nat.add_sub_cancel_left]
theorem cs_size {d : List Int} (h : DigOk d) {t : Int} {v u : Value} : (cscells d t v u).size = 36 := by
  unfold cscells csl
  rw [List.size_toArray, List.length_append, dL_len h]
  rfl
theorem cs_set34 {d : List Int} (h : DigOk d) {t : Int} {v u : Value} (v' : Value) : (cscells d t v u).setIfInBounds 34 v' = cscells d t v' u := by
  have h32 := dL_len h
  unfold cscells csl
  rw [List.setIfInBounds_toArray, List.set_append_right _ _ (by omega), h32]
  rfl
theorem cs_set35 {d : List Int} (h : DigOk d) {t : Int} {v u : Value} (u' : Value) : (cscells d t v u).setIfInBounds 35 u' = cscells d t v u' := by
  have h32 := dL_len h
  unfold cscells csl
  rw [List.setIfInBounds_toArray, List.set_append_right _ _ (by omega), h32]
  rfl
theorem cs_one {d : List Int} {t : Int} {v u : Value} (h1 : v.oneCell' = true) (h2 : u.oneCell' = true) : (cscells d t v u).all (·.oneCell') = true := by
  rw [Array.all_eq_true_iff_forall_mem]
  intro x hx
  unfold cscells csl dcellsL at hx
  simp at hx
  rcases hx with ⟨n, _, rfl⟩ | rfl | rfl | rfl | rfl <;> first | rfl | exact h1 | exact h2
theorem csInfo : (Try.prog.info? 29).map (·.size) = some 36 := by kernel_rfl
theorem csRow : ∃ d, Try.prog.underlying 29 = some d ∧ d.isRow = true := ⟨_, Try.underlying29, rfl⟩
theorem zero_cs : (#[.int .u8 0, Value.int .u8 0, Value.int .u8 0, Value.int .u8 0, Value.int .u8 0, Value.int .u8 0, Value.int .u8 0, Value.int .u8 0, Value.int .u8 0, Value.int .u8 0, Value.int .u8 0, Value.int .u8 0, Value.int .u8 0, Value.int .u8 0, Value.int .u8 0, Value.int .u8 0, Value.int .u8 0, Value.int .u8 0, Value.int .u8 0, Value.int .u8 0, Value.int .u8 0, Value.int .u8 0, Value.int .u8 0, Value.int .u8 0, Value.int .u8 0, Value.int .u8 0, Value.int .u8 0, Value.int .u8 0, Value.int .u8 0, Value.int .u8 0, Value.int .u8 0, Value.int .u8 0, .int .i64 0, .slice none 0 0, .slice none 0 0, .slice none 0 0] : Array Value) = cscells zero32 0 (.slice none 0 0) (.slice none 0 0) := rfl
theorem finds_size : (Try.prog.info? 26).map (·.size) = some 1 := by kernel_rfl
/-- at the operation: a case stored into a new block, into a block, loaded -/
theorem wl_storeCs {ops : Array Oper} {rest : List Oper} {o : Oper} {a : Act} {w : World} {Q : Exit → Act → World → Prop} (hgd : o.guard = none) (p y : Operand) (ho : o.op = .store 29 p y)
    (g : Nat) (old : Array Value) (T : TypeId) (hg : w.heap[g]? = some (.cells old T (0, 0))) (hp : a.eval p = .pointer (some ⟨g, 0, none⟩)) (d : List Int) (t : Int) (v u : Value) (hd : DigOk d) (h1 : v.oneCell' = true) (h2 : u.oneCell' = true) (hy : a.eval y = .agg (cscells d t v u)) (ho36 : old.size = 36)
    (W : World) (hW : W = w.setRow g (cscells d t v u)) (h : wpList Try.prog ops Q rest (a.put o.dst undef) W) : wpList Try.prog ops Q (o :: rest) a w := by
  subst hW
  exact wpList_store_row hgd _ p y ho g (cscells d t v u) hp hy T old hg (by rw [csInfo, cs_size hd]) (by rw [ho36, cs_size hd]) (cs_one h1 h2) h
theorem wl_loadCs {ops : Array Oper} {rest : List Oper} {o : Oper} {a : Act} {w : World} {Q : Exit → Act → World → Prop} (hgd : o.guard = none) (p : Operand) (ho : o.op = .load 29 p)
    (g : Nat) (T : TypeId) (hp : a.eval p = .pointer (some ⟨g, 0, none⟩)) (d : List Int) (t : Int) (v u : Value) (hd : DigOk d) (hg : w.heap[g]? = some (.cells (cscells d t v u) T (0, 0)))
    (h : wpList Try.prog ops Q rest (a.put o.dst (.agg (cscells d t v u))) w) : wpList Try.prog ops Q (o :: rest) a w := by
  obtain ⟨td, hu, hdd⟩ := csRow
  have hr : w.rangeAt g 0 (csl d t v u) := fun i x hx => by
    rw [Nat.zero_add, cell_of_row w g i _ _ _ hg]
    unfold cscells
    simpa using hx
  have hs : (csl d t v u).length = 36 := by have := cs_size (t := t) (v := v) (u := u) hd; unfold cscells at this; simpa using this
  exact wpList_load_mid hgd _ p ho g 0 hp (csl d t v u) td hr hu hdd (by rw [csInfo, hs]) h
theorem loadVar_cs {d : List Int} {t : Int} {v u : Value} (hd : DigOk d) {w : World} {g : Nat} {T : TypeId} (hg : w.heap[g]? = some (.cells (cscells d t v u) T (0, 0))) : (loadVar 29 ⟨g, 0, none⟩).run Try.prog w = .ok (.agg (cscells d t v u)) w := by
  obtain ⟨td, hu, hdd⟩ := csRow
  exact run_loadVar_row w g T _ (cscells d t v u) (0, 0) td hg hu (by cases td <;> first | rfl | cases hdd) (by rw [csInfo, cs_size hd])
theorem step_build1F {ops : Array Oper} {o : Oper} {a : Act} {w : World} {K : Act → World → Prop} {Q : Exit → Act → World → Prop} {E : Prop} (hgd : o.guard = none) (e1 : Operand) (ho : o.op = .buildSlice 26 1 #[(0, e1)])
    (x : FV) (hx : DigOk x.f.inv) (h1 : a.eval e1 = .agg (fcells x))
    (h : K (a.put o.dst (.slice (some ⟨w.heap.size, 0, none⟩) 1 1)) (w.alloc (.cells (fcells x) 64))) : if Region.wanted o (yielded ops a.tmps) = true then Oper.wp Try.prog o a w K Q else E := by
  rw [if_pos (by simp [Region.wanted, hgd])]
  obtain ⟨ie, z, hie, hz, hsz, _, _⟩ := findIE3
  refine wp_buildSlice _ 64 1 _ ho (fcells x) ie z Try.underlying26 hie hz (by rw [hsz]; decide) (by rw [hsz]; decide) ?_ h
  have := Great.fill_whole (s := 39) (by decide) [Value.agg (fcells x)] ((Array.range (1 * ie.size)).map (z.cells[· % z.cells.size]!)) (fun v hv => by
    rcases List.mem_cons.1 hv with rfl | hv
    · exact fcells_size hx
    · cases hv) (by rw [hsz]; simp)
  rw [hsz] at this ⊢
  simp only [h1, List.map_toArray, List.map_cons, List.map_nil]
  exact this.trans (by simp [Value.cells])
theorem step_append1F {ops : Array Oper} {o : Oper} {a : Act} {w : World} {K : Act → World → Prop} {Q : Exit → Act → World → Prop} {E : Prop} (hgd : o.guard = none) (s x : Operand)
    (ho : o.op = .call { callee := .builtin .append, args := #[s, x], argTypes := #[26, 26] })
    (N : Nat) (v : Value) (xs : List FV) (hs : a.eval s = v) (hown : FRow w N v xs) (b : Nat) (y : FV) (hy : FOk w y) (hx : a.eval x = .slice (some ⟨b, 0, none⟩) 1 1) (hr : w.rangeAt b 0 (fl y)) (hl : xs.length ≤ 100000) (hN : N ≤ w.heap.size)
    (h : ∀ v' w', FRow w' N v' (xs ++ [y]) → w.grownBy w' v.ownBlock → K (a.put o.dst v') w') : if Region.wanted o (yielded ops a.tmps) = true then Oper.wp Try.prog o a w K Q else E := by
  rw [if_pos (by simp [Region.wanted, hgd])]
  obtain ⟨ie, z, hi, hz, h1, h2, h3⟩ := findIE3
  refine wp_append_own w s x 26 ho N 64 ie z 39 128 Try.underlying26 hi hz h1 h2 h3 (by decide) v xs.length _ hs hown ⟨b, 0, none⟩ 1 1 (fl y) hx (by rw [fl_len hy.inv]) ?_ (fl_one hy) (by unfold maxLen; omega) (by omega) hN ?_
  · intro j u hj
    rw [Addr.add_mid]
    exact hr j u hj
  · intro v' w' ho' hg _
    refine h v' w' ?_ hg
    unfold FRow
    rw [List.length_append, List.flatMap_append]
    simpa using ho'

theorem strIE : ∃ ie z, Try.prog.info? 9 = some ie ∧ ie.zero = some z ∧ ie.size = 1 := by
  have h : (match Try.prog.info? 9 with | some i => i.size == 1 && i.zero.isSome | none => false) = true := by kernel_rfl
  cases hq : Try.prog.info? 9 with
  | none => rw [hq] at h; cases h
  | some i =>
    rw [hq] at h
    simp only [Bool.and_eq_true, beq_iff_eq] at h
    obtain ⟨z, hz⟩ := Option.isSome_iff_exists.1 h.2
    exact ⟨i, z, rfl, hz, h.1⟩
theorem wl_build1S {ops : Array Oper} {rest : List Oper} {o : Oper} {a : Act} {w : World} {Q : Exit → Act → World → Prop} (hgd : o.guard = none) (e1 : Operand) (ho : o.op = .buildSlice 27 1 #[(0, e1)])
    (s : ByteArray) (h1 : a.eval e1 = .string s) (W : World) (hW : W = w.alloc (.cells #[.string s] 9))
    (h : wpList Try.prog ops Q rest (a.put o.dst (.slice (some ⟨w.heap.size, 0, none⟩) 1 1)) W) : wpList Try.prog ops Q (o :: rest) a w := by
  subst hW
  obtain ⟨ie, z, hie, hz, hsz⟩ := strIE
  refine wpList_buildSlice hgd _ 9 1 _ ho #[.string s] ie z Try.underlying27 hie hz (by rw [hsz]; decide) (by rw [hsz]; decide) ?_ h
  have := Great.fill_whole (s := 1) (by decide) [Value.string s] ((Array.range (1 * ie.size)).map (z.cells[· % z.cells.size]!)) (fun v hv => by
    rcases List.mem_cons.1 hv with rfl | hv
    · rfl
    · cases hv) (by rw [hsz]; simp)
  rw [hsz] at this ⊢
  simp only [h1, List.map_toArray, List.map_cons, List.map_nil]
  exact this.trans (by simp [Value.cells])

/-- what the maker keeps: the case in block C, the result's block, the row of findings, the tape -/
structure CInv (w : World) (b C k : Nat) (d : List Int) (t : Int) (c u v : Value) (xs : List FV) (W : World) : Prop where
  cb : W.heap[C]? = some (.cells (cscells d t c u) 29 (0, 0))
  rb : W.heap[w.heap.size]? = some (.cells (cscells zero32 0 (.slice none 0 0) (.slice none 0 0)) 29 (0, 0))
  row : FRow W w.heap.size v xs
  ok : ∀ y ∈ xs, FOk W y
  up : ∀ y ∈ xs, Up w.heap.size y.dv ∧ Up w.heap.size y.ev
  sev : ∀ y ∈ xs, 1 ≤ y.f.sev ∧ y.f.sev ≤ 10
  tape : Tape W b k
  gr : w.grownBy W (some b)
  hb : b < w.heap.size
  hC : w.heap.size < C
namespace CInv
variable {w : World} {b C k : Nat} {d : List Int} {t : Int} {c u v : Value} {xs : List FV} {W W' : World}
theorem size (h : CInv w b C k d t c u v xs W) : C < W.heap.size := (Array.getElem?_eq_some_iff.1 h.cb).1
theorem below (h : CInv w b C k d t c u v xs W) (hb : Below W.heap.size W W') : CInv w b C k d t c u v xs W' :=
  ⟨(hb.block C h.size).trans h.cb, (hb.block _ (by have := h.size; have := h.hC; omega)).trans h.rb, h.row.kept (below_grown hb none) (fun b' e => by cases e), fun y hy => (h.ok y hy).below hb, h.up, h.sev, h.tape.below hb, World.grownBy.trans h.gr (below_grown hb (some b)), h.hb, h.hC⟩
theorem next {k' : Nat} (h : CInv w b C k d t c u v xs W) (hg : W.grownBy W' (some b)) (ht : Tape W' b k') : CInv w b C k' d t c u v xs W' := by
  have h1 := h.hb
  have h2 := h.hC
  have h3 := h.size
  exact ⟨(hg.block C h3 (by simp; omega)).trans h.cb, (hg.block _ (by omega) (by simp; omega)).trans h.rb, h.row.kept hg (fun b' e hh => by cases e; have := (h.row.block hh).1; omega), fun y hy => (h.ok y hy).grown hg ((h.up y hy).1.le (by omega)) ((h.up y hy).2.le (by omega)), h.up, h.sev, ht, World.grownBy.trans h.gr hg, h.hb, h.hC⟩
theorem le {k' : Nat} (h : CInv w b C k d t c u v xs W) (hk : k ≤ k') : CInv w b C k' d t c u v xs W := ⟨h.cb, h.rb, h.row, h.ok, h.up, h.sev, h.tape.le hk, h.gr, h.hb, h.hC⟩
theorem own (h : CInv w b C k d t c u v xs W) {b' : Nat} (e : v.ownBlock = some b') : w.heap.size ≤ b' ∧ b' ≠ C ∧ b' ≠ w.heap.size ∧ ∃ cs t fr, W.heap[b']? = some (.cells cs t fr) ∧ t ≠ 24 := by
  obtain ⟨h1, cur, hc⟩ := h.row.block e
  refine ⟨h1, fun e2 => ?_, fun e2 => ?_, _, _, _, hc, by decide⟩
  · rw [e2, h.cb] at hc
    simp at hc
  · rw [e2, h.rb] at hc
    simp at hc
theorem append {x : FV} {v' : Value} (h : CInv w b C k d t c u v xs W) (hf : FRow W' w.heap.size v' (xs ++ [x])) (hg : W.grownBy W' v.ownBlock) (hx : FOk W x) (hu : Up w.heap.size x.dv ∧ Up w.heap.size x.ev) (hs : 1 ≤ x.f.sev ∧ x.f.sev ≤ 10) : CInv w b C k d t c u v' (xs ++ [x]) W' := by
  have h1 := h.hb
  have h2 := h.hC
  have h3 := h.size
  have ho : ∀ b', v.ownBlock = some b' → _ := fun b' e => h.own e
  refine ⟨(hg.block C h3 (fun e => (ho C e.symm).2.1 rfl)).trans h.cb, (hg.block _ (by omega) (fun e => (ho _ e.symm).2.2.1 rfl)).trans h.rb, hf, ?_, ?_, ?_, h.tape.grown hg (fun e => by have := (ho b e).1; omega) (fun b' e => by have := (ho b' e).1; omega), grown_own h.gr hg (fun b' e => (ho b' e).1), h.hb, h.hC⟩
  · intro y hy
    rcases List.mem_append.1 hy with hy | hy
    · exact (h.ok y hy).grow hg (fun b' e => (ho b' e).2.2.2)
    · rw [List.mem_singleton.1 hy]; exact hx.grow hg (fun b' e => (ho b' e).2.2.2)
  · intro y hy
    rcases List.mem_append.1 hy with hy | hy
    · exact h.up y hy
    · rw [List.mem_singleton.1 hy]; exact hu
  · intro y hy
    rcases List.mem_append.1 hy with hy | hy
    · exact h.sev y hy
    · rw [List.mem_singleton.1 hy]; exact hs
/-- the case's block changed, in whatever way -/
theorem setC {c' u' : Value} {g : Nat} (h : CInv w b C k d t c u v xs W) (hg : W.grownBy W' (some g)) (hgC : g = C) (hc : W'.heap[C]? = some (.cells (cscells d t c' u') 29 (0, 0))) : CInv w b C k d t c' u' v xs W' := by
  subst hgC
  have h1 := h.hb
  have h2 := h.hC
  have h3 := h.size
  refine ⟨hc, (hg.block _ (by omega) (by simp; omega)).trans h.rb, h.row.kept hg (fun b' e hh => by cases e; exact (h.own hh).2.1 rfl), fun y hy => (h.ok y hy).grow hg (fun b' e => by cases e; exact ⟨_, _, _, h.cb, by decide⟩), h.up, h.sev, h.tape.grown hg (by simp; omega) (by intro b' e; cases e; omega), grown_new h.gr hg (by omega), h.hb, h.hC⟩
theorem set34 (h : CInv w b C k d t c u v xs W) (hd : DigOk d) : CInv w b C k d t v u v xs (W.setCell ⟨C, 34, none⟩ v) := by
  have := setCell_heap 34 v h.cb
  rw [cs_set34 hd] at this
  exact h.setC (set_grown W C 34 v) rfl this
theorem set35 (h : CInv w b C k d t c u v xs W) (hd : DigOk d) (u' : Value) : CInv w b C k d t c u' v xs (W.setCell ⟨C, 35, none⟩ u') := by
  have := setCell_heap 35 u' h.cb
  rw [cs_set35 hd] at this
  exact h.setC (set_grown W C 35 u') rfl this
theorem one (h : CInv w b C k d t c u v xs W) : v.oneCell' = true := by
  obtain ⟨a, cap, rfl⟩ := h.row.slice
  rfl
/-- the result's block is set: what is left are findings -/
theorem finds (h : CInv w b C k d t c u v xs W) (cs : Array Value) : Finds (W.setRow w.heap.size cs) v xs := by
  have hg := setRow_grown W w.heap.size cs
  exact FRow.finds (h.row.kept hg (fun b' e hh => by cases e; exact (h.own hh).2.2.1 rfl)) (fun y hy => (h.ok y hy).grow hg (fun b' e => by cases e; exact ⟨_, _, _, h.rb, by decide⟩))
end CInv

def CasePost (b : Nat) (w : World) (e : Ending) (w' : World) : Prop :=
  ∃ (cs : Array Value) (v : Value) (xs : List FV), e = .returned (.agg cs) ∧ cs[34]? = some v ∧ Finds w' v xs ∧ xs.length ≤ 8 ∧ (∀ x ∈ xs, 1 ≤ x.f.sev ∧ x.f.sev ≤ 10) ∧ w.grownBy w' (some b)

set_option maxRecDepth 100000 in
set_option maxHeartbeats 6400000 in
theorem case_any (b : Nat) (w : World) (h : Tape w b 0) :
    Calls Try.prog 6 #[.pointer (some ⟨b, 0, none⟩), .int .i64 0, .int .i64 8] w (CasePost b w) := by
  have HT := Lib.hid h
  have hbw := h.lt
  clear h
  obtain ⟨W0, hW0⟩ : ∃ W0, W0 = w.alloc (.cells (cscells zero32 0 (.slice none 0 0) (.slice none 0 0)) 29) := ⟨_, rfl⟩
  have hg0 : W0.heap[w.heap.size]? = some (.cells (cscells zero32 0 (.slice none 0 0) (.slice none 0 0)) 29 (0, 0)) := by rw [hW0]; exact heap_alloc_new w _
  have hz0 : W0.heap.size = w.heap.size + 1 := by rw [hW0]; simp
  have hb0 : Below w.heap.size w W0 := by rw [hW0]; exact (Below.refl _ w).alloc (Nat.le_refl _) _
  have HZD : Hid (DigOk zero32) := Lib.hid ⟨rfl, by decide⟩
  go_enter Try.func6, Try.ntmps6
  go_wp2_with fail
  rw [zero_cs, ← hW0]
  clear hW0
  refine (sum_any b 0 _ (HT.out.below hb0) (by omega)).mono ?_
  rintro e w1 ⟨y, hy1, hy2, rfl, ht1, hg1⟩
  have HDG : Hid (DigOk (dig1 (y : Int))) := Lib.hid (dig1_ok (by omega) (by omega))
  have HG1 := Lib.hid (World.grownBy.trans (below_grown hb0 (some b)) hg1)
  have HT1 := Lib.hid ht1
  have HR1 := Lib.hid ((hg1.block w.heap.size (by omega) (by simp; omega)).trans hg0)
  have hz1 : w.heap.size < w1.heap.size := Nat.lt_of_lt_of_le (by omega) hg1.size
  clear hg0 hz0 hb0 ht1 hg1 hy1 hy2
  go_wp2_with fail
  refine (next_any b (0 + 1) 40 w1 HT1.out (by omega) (by omega) (by omega)).mono ?_
  rintro e w2 ⟨r0, hr0, rfl, ht2, hg2⟩
  have HG2 := Lib.hid (World.grownBy.trans HG1.out hg2)
  have HR2 := Lib.hid ((hg2.block w.heap.size hz1 (by simp; omega)).trans HR1.out)
  have hz2 : w.heap.size < w2.heap.size := Nat.lt_of_lt_of_le hz1 hg2.size
  obtain ⟨W2, hW2⟩ : ∃ W2, W2 = w2.alloc (.cells (cscells zero32 0 (.slice none 0 0) (.slice none 0 0)) 29) := ⟨_, rfl⟩
  have hb2 : Below w2.heap.size w2 W2 := by rw [hW2]; exact (Below.refl _ w2).alloc (Nat.le_refl _) _
  have HCZ : Hid (W2.heap[w2.heap.size]? = some (.cells (cscells zero32 0 (.slice none 0 0) (.slice none 0 0)) 29 (0, 0))) := Lib.hid (by rw [hW2]; exact heap_alloc_new w2 _)
  obtain ⟨W3, hW3⟩ : ∃ W3, W3 = W2.setRow w2.heap.size (cscells (dig1 (y : Int)) r0 (.slice none 0 0) (.slice none 0 0)) := ⟨_, rfl⟩
  have hgs : W2.grownBy W3 (some w2.heap.size) := by rw [hW3]; exact setRow_grown W2 _ _
  have HC3 : Hid (W3.heap[w2.heap.size]? = some (.cells (cscells (dig1 (y : Int)) r0 (.slice none 0 0) (.slice none 0 0)) 29 (0, 0))) := Lib.hid (by rw [hW3]; exact setRow_heap _ _ _ _ _ _ HCZ.out)
  have HT3 := Lib.hid ((ht2.below hb2).grown hgs (by simp; have := ht2.lt; omega) (by intro b' e; cases e; exact ht2.lt))
  have HG3 := Lib.hid (grown_new (World.grownBy.trans HG2.out (below_grown hb2 (some b))) hgs (by omega))
  have HR3 := Lib.hid ((hgs.block w.heap.size (Nat.lt_of_lt_of_le hz2 hb2.size) (by simp; omega)).trans ((hb2.block w.heap.size hz2).trans HR2.out))
  have hbC : b < w2.heap.size := by omega
  have HW2 := Lib.hid hW2
  have HW3 := Lib.hid hW3
  clear ht2 hg2 hb2 hgs hW2 hW3 HT1 HG1 HR1 HG2 HR2 hz1
  go_wp2_with (first | (refine wpList_buildTo rfl 29 _ rfl _ rfl (cscells (dig1 (y : Int)) r0 (.slice none 0 0) (.slice none 0 0)) (by kernel_rfl) ?_) | (rw [zero_cs, ← HW2.out]; refine wl_storeCs rfl _ _ rfl w2.heap.size _ _ HCZ.out rfl (dig1 (y : Int)) r0 (.slice none 0 0) (.slice none 0 0) HDG.out rfl rfl rfl (cs_size HZD.out) W3 HW3.out ?_) | fail)
  obtain ⟨C, hC⟩ : ∃ C, C = w2.heap.size := ⟨_, rfl⟩
  rw [← hC] at hz2 hbC HC3 ⊢
  clear hC HW2 HW3 HCZ HZD
  have hwC : w.heap.size ≤ C := by omega
  refine (next_any b (0 + 1 + 1) 1 W3 HT3.out (by omega) (by omega) (by omega)).mono ?_
  rintro e w4 ⟨r1, hr1, rfl, ht4, hg4⟩
  obtain rfl : r1 = 0 := by omega
  have HC4 := Lib.hid ((hg4.block C (Array.getElem?_eq_some_iff.1 HC3.out).1 (by simp; omega)).trans HC3.out)
  have HR4 := Lib.hid ((hg4.block w.heap.size (Array.getElem?_eq_some_iff.1 HR3.out).1 (by simp; omega)).trans HR3.out)
  have HG4 := Lib.hid (World.grownBy.trans HG3.out hg4)
  have HT4 := Lib.hid ht4
  clear ht4 hg4 HC3 HR3 HG3 HT3
  go_wp2
  go_loopw [8] (fun fv wx => fv = .int .i64 0 ∧ wx = w4) (fun _ _ => 0)
  case atStart => exact ⟨rfl, rfl⟩
  case round =>
    obtain ⟨rfl, rfl⟩ := hrel
    go_wp2_with fail
    refine (next_any b (0 + 1 + 1 + 1) 9 wr HT4.out (by omega) (by omega) (by omega)).mono ?_
    rintro e w5 ⟨r2, hr2, rfl, ht5, hg5⟩
    have HC5 := Lib.hid ((hg5.block C (Array.getElem?_eq_some_iff.1 HC4.out).1 (by simp; omega)).trans HC4.out)
    have HR5 := Lib.hid ((hg5.block w.heap.size (Array.getElem?_eq_some_iff.1 HR4.out).1 (by simp; omega)).trans HR4.out)
    have HG5 := Lib.hid (World.grownBy.trans HG4.out hg5)
    have HT5 := Lib.hid ht5
    clear ht5 hg5 HC4 HR4 HG4 HT4
    have hr28 : r2 ≤ 8 := by omega
    go_wp2
    go_loopw [9] (fun nv wx => ∃ (q : Nat) (xs : List FV) (v : Value), q ≤ r2 ∧ nv = .int .i64 q ∧ xs.length + q ≤ 8 ∧ CInv w b C (1000 - 10 * q) (dig1 (y : Int)) r0 v (.slice none 0 0) v xs wx) (fun nv _ => (intOf nv).toNat)
    case atStart => exact ⟨r2, [], _, Nat.le_refl _, rfl, by simp; omega, HC5.out, HR5.out, FRow.nil _ _, fun y hy => (by cases hy), fun y hy => (by cases hy), fun y hy => (by cases hy), HT5.out.le (by omega), HG5.out, hbw, hz2⟩
    case round =>
      clear HC5 HR5 HG5 HT5
      obtain ⟨q, xs, v, hq, rfl, hlen, hin⟩ := hrel
      have HIwr := Lib.hid hin
      obtain ⟨va, vc, hov⟩ := hin.row.slice
      subst hov
      clear hin
      by_cases hq0 : q = 0
      · subst hq0
        go_wp2_with fail
        refine (next_any b _ 6 wr HIwr.out.tape (by omega) (by omega) (by omega)).mono ?_
        rintro e w6 ⟨r3, hr3, rfl, ht6, hg6⟩
        have HI6 := Lib.hid (HIwr.out.next hg6 ht6)
        clear ht6 hg6 HIwr
        by_cases h0 : r3 = 0
        · subst h0
          go_wp2_with fail
          refine (idsOf_any w6).mono ?_
          rintro e w7 ⟨rfl, hw7⟩
          have hb7 : Below w6.heap.size w6 w7 := by rw [hw7]; exact (Below.refl _ w6).alloc (Nat.le_refl _) _
          have HIC : Hid (∀ j, j < idNames.length → w7.cell? ⟨w6.heap.size, 0 + j, none⟩ = some (.string ⟨(idNames.getD j []).toArray⟩)) := Lib.hid (by
            intro j hj
            rw [hw7, Nat.zero_add, World.cell?_alloc_new]
            have hj3 : j < 3 := hj
            rcases (show j = 0 ∨ j = 1 ∨ j = 2 by omega) with rfl | rfl | rfl <;> rfl)
          have HI7 := Lib.hid (HI6.out.below hb7)
          have hbz : b < w6.heap.size := by have := HI6.out.size; omega
          clear hw7 hb7
          go_wp2_with fail
          refine (pick_any b _ w7 ⟨w6.heap.size, 0, none⟩ 3 idNames HI7.out.tape (by omega) (by decide) (by decide) (by show w6.heap.size ≠ b; omega) rfl HIC.out).mono ?_
          rintro e w8 ⟨x, hx, rfl, ht8, hg8⟩
          obtain ⟨W8, hW8⟩ : ∃ W8, W8 = w8.alloc (.cells #[.string ⟨x.toArray⟩] 9) := ⟨_, rfl⟩
          have HI8 := Lib.hid ((HI7.out.next hg8 ht8).below (W' := W8) (by rw [hW8]; exact (Below.refl _ w8).alloc (Nat.le_refl _) _))
          have HW8 := Lib.hid hW8
          obtain ⟨W9, hW9⟩ : ∃ W9, W9 = W8.setCell ⟨C, 35, none⟩ (.slice (some ⟨w8.heap.size, 0, none⟩) 1 1) := ⟨_, rfl⟩
          have HI9 : Hid (CInv w b C _ (dig1 (y : Int)) r0 (.slice va xs.length vc) (.slice (some ⟨w8.heap.size, 0, none⟩) 1 1) (.slice va xs.length vc) xs W9) := Lib.hid (by rw [hW9]; exact HI8.out.set35 HDG.out _)
          have HW9 := Lib.hid hW9
          have h35 : W8.cell? ⟨C, 35, none⟩ = some (.slice none 0 0) := by rw [cell_of_row W8 C 35 _ _ _ HI8.out.cb]; exact cs_at HDG.out 3
          have hf35 : W8.frozen? ⟨C, 35, none⟩ = false := frozen_row HI8.out.cb
          obtain ⟨W10, hW10⟩ : ∃ W10, W10 = W9.setRow w.heap.size (cscells (dig1 (y : Int)) r0 (.slice va xs.length vc) (.slice (some ⟨w8.heap.size, 0, none⟩) 1 1)) := ⟨_, rfl⟩
          have HW10 := Lib.hid hW10
          clear ht8 hg8 hW8 hW9 hW10 HI6 HI7 HIC hx
          go_wp2_with (first | (refine wl_build1S rfl _ rfl ⟨x.toArray⟩ rfl W8 HW8.out ?_) | (rw [← HW9.out]; refine wl_loadCs rfl _ rfl C 29 rfl (dig1 (y : Int)) r0 _ _ HDG.out HI9.out.cb ?_) | (refine wl_storeCs rfl _ _ rfl w.heap.size _ _ HI9.out.rb rfl (dig1 (y : Int)) r0 _ _ HDG.out rfl rfl rfl rfl W10 HW10.out ?_) | fail)
          refine bodyPost_ret (v := .agg (cscells (dig1 (y : Int)) r0 (.slice va xs.length vc) (.slice (some ⟨w8.heap.size, 0, none⟩) 1 1))) ?_ rfl ⟨_, _, xs, rfl, cs_at HDG.out 2, ?_, by omega, HI9.out.sev, ?_⟩
          · rw [HW10.out]
            exact results_one Try.results6 rfl (loadVar_cs HDG.out (setRow_heap _ w.heap.size _ _ _ _ HI9.out.rb))
          · rw [HW10.out]
            exact HI9.out.finds _
          · rw [HW10.out]
            exact grown_new HI9.out.gr (setRow_grown _ _ _) (Nat.le_refl _)
        · have h0' : ((r3 : Int) == 0) = false := by rw [beq_eq_false_iff_ne]; omega
          obtain ⟨W10, hW10⟩ : ∃ W10, W10 = w6.setRow w.heap.size (cscells (dig1 (y : Int)) r0 (.slice va xs.length vc) (.slice none 0 0)) := ⟨_, rfl⟩
          have HW10 := Lib.hid hW10
          clear hW10
          go_wp2_with (first | (refine wl_loadCs rfl _ rfl C 29 rfl (dig1 (y : Int)) r0 _ _ HDG.out HI6.out.cb ?_) | (refine wl_storeCs rfl _ _ rfl w.heap.size _ _ HI6.out.rb rfl (dig1 (y : Int)) r0 _ _ HDG.out rfl rfl rfl rfl W10 HW10.out ?_) | fail)
          refine bodyPost_ret (v := .agg (cscells (dig1 (y : Int)) r0 (.slice va xs.length vc) (.slice none 0 0))) ?_ rfl ⟨_, _, xs, rfl, cs_at HDG.out 2, ?_, by omega, HI6.out.sev, ?_⟩
          · rw [HW10.out]
            exact results_one Try.results6 rfl (loadVar_cs HDG.out (setRow_heap _ w.heap.size _ _ _ _ HI6.out.rb))
          · rw [HW10.out]
            exact HI6.out.finds _
          · rw [HW10.out]
            exact grown_new HI6.out.gr (setRow_grown _ _ _) (Nat.le_refl _)
      · obtain ⟨p, rfl⟩ : ∃ p, q = p + 1 := ⟨q - 1, by omega⟩
        have hp0 : (0 : Int) < ((p + 1 : Nat) : Int) := by omega
        go_wp2_with fail
        refine wp_region_held (S := fun _ => True) (by kernel_rfl) ?_
        change wpAnyH _ _ _ _ _ _ _ _ (World.drew _)
        have HIw3 := Lib.hid (HIwr.out.below (Below.refl wr.heap.size wr).drew)
        clear HIwr
        generalize wr.drew = w3 at *
        refine wpAnyH_take (i := 0) (v := .pointer (some ⟨C, 34, none⟩)) rfl (by kernel_rfl) (by kernel_rfl) (by kernel_rfl) (fun _ _ _ h => h) (Or.inl ⟨by rfl, fun W _ => by go_simp⟩) trivial ?_
        refine wpAnyH_take (i := 2) (v := .pointer (some ⟨b, 0, none⟩)) rfl (by kernel_rfl) (by kernel_rfl) (by kernel_rfl) (fun _ _ _ h => h) (Or.inl ⟨by rfl, fun W _ => by go_simp⟩) trivial ?_
        simp only [List.getElem_toArray, List.getElem_cons_succ, List.getElem_cons_zero, Act.put, List.setIfInBounds_toArray, List.set_cons_succ, List.set_cons_zero]
        refine wpAnyH_all (rs := [1, 3]) (by kernel_rfl) (by simp) ?_
        intro i0 hi0
        have hi3 : i0 = 1 ∨ i0 = 3 := by simpa using hi0
        clear hi0
        rcases hi3 with rfl | rfl
        · have h34 : w3.cell? ⟨C, 34, none⟩ = some (.slice va xs.length vc) := by rw [cell_of_row w3 C 34 _ _ _ HIw3.out.cb]; exact cs_at HDG.out 2
          refine wpOp_step (by rfl) (fun K hK => step_get rfl (.slice va xs.length vc) (ex_load rfl rfl (by go_simp)) (hK _ _ ⟨trivial, ?_⟩))
          clear hK K h34
          simp only [List.getElem_toArray, List.getElem_cons_succ, List.getElem_cons_zero, Act.put, List.setIfInBounds_toArray, List.set_cons_succ, List.set_cons_zero]
          refine wpAnyH_all (rs := [3]) (by kernel_rfl) (by simp) ?_
          intro i0 hi0
          obtain rfl : i0 = 3 := by simpa using hi0
          clear hi0
          refine wpOp_step (by rfl) (fun K hK => ?_)
          refine step_call rfl _ #[.pointer (some ⟨b, 0, none⟩)] (by go_simp) (finding_any b _ w3 HIw3.out.tape (by omega)) ?_
          rintro e w4 ⟨x, rfl, hok, hs1, hs2, hu1, hu2, ht, hg⟩
          refine ⟨_, rfl, hK _ _ ⟨trivial, ?_⟩⟩
          clear hK K
          have HXw4 := Lib.hid hok
          have HSX := Lib.hid (And.intro hs1 hs2)
          have HUX : Hid (Up w.heap.size x.dv ∧ Up w.heap.size x.ev) := Lib.hid ⟨hu1.le HIw3.out.gr.size, hu2.le HIw3.out.gr.size⟩
          have HIw4 := Lib.hid (HIw3.out.next hg ht)
          clear hok hs1 hs2 hu1 hu2 ht hg HIw3
          simp only [List.getElem_toArray, List.getElem_cons_succ, List.getElem_cons_zero, Act.put, List.setIfInBounds_toArray, List.set_cons_succ, List.set_cons_zero]
          refine wpAnyH_all (rs := [4]) (by kernel_rfl) (by simp) ?_
          intro i0 hi0
          obtain rfl : i0 = 4 := by simpa using hi0
          clear hi0
          refine wpOp_step (by rfl) (fun K hK => step_build1F rfl _ rfl x HXw4.out.inv rfl (hK _ _ ⟨trivial, ?_⟩))
          clear hK K
          have hb : Below w4.heap.size w4 (w4.alloc (.cells (fcells x) 64)) := (Below.refl _ w4).alloc (Nat.le_refl _) _
          have HXw5 := Lib.hid (HXw4.out.below hb)
          have HR : Hid ((w4.alloc (.cells (fcells x) 64)).rangeAt w4.heap.size 0 (fl x)) := Lib.hid (find_range (heap_alloc_new w4 _))
          have HIw5 := Lib.hid (HIw4.out.below hb)
          clear hb HXw4 HIw4
          generalize (w4.alloc (.cells (fcells x) 64)) = w5 at *
          generalize w4.heap.size = X at *
          simp only [List.getElem_toArray, List.getElem_cons_succ, List.getElem_cons_zero, Act.put, List.setIfInBounds_toArray, List.set_cons_succ, List.set_cons_zero]
          refine wpAnyH_all (rs := [5]) (by kernel_rfl) (by simp) ?_
          intro i0 hi0
          obtain rfl : i0 = 5 := by simpa using hi0
          clear hi0
          refine wpOp_step (by rfl) (fun K hK => ?_)
          refine step_append1F rfl _ _ rfl w.heap.size (.slice va xs.length vc) xs rfl HIw5.out.row X x HXw5.out rfl HR.out (by omega) HIw5.out.gr.size ?_
          intro v9 w9 hf9 hg9
          refine hK _ _ ⟨trivial, ?_⟩
          clear hK K
          have HI9 := Lib.hid (HIw5.out.append hf9 hg9 HXw5.out HUX.out HSX.out)
          clear hf9 hg9 HXw5 HIw5 HR
          simp only [List.getElem_toArray, List.getElem_cons_succ, List.getElem_cons_zero, Act.put, List.setIfInBounds_toArray, List.set_cons_succ, List.set_cons_zero]
          refine wpAnyH_take (i := 6) (v := .pointer (some ⟨C, 34, none⟩)) rfl (by kernel_rfl) (by kernel_rfl) (by kernel_rfl) (fun _ _ _ h => h) (Or.inl ⟨by rfl, fun W _ => by go_simp⟩) trivial ?_
          simp only [List.getElem_toArray, List.getElem_cons_succ, List.getElem_cons_zero, Act.put, List.setIfInBounds_toArray, List.set_cons_succ, List.set_cons_zero]
          refine wpAnyH_all (rs := [7]) (by kernel_rfl) (by simp) ?_
          intro i0 hi0
          obtain rfl : i0 = 7 := by simpa using hi0
          clear hi0
          have h34 : w9.cell? ⟨C, 34, none⟩ = some (.slice va xs.length vc) := by rw [cell_of_row w9 C 34 _ _ _ HI9.out.cb]; exact cs_at HDG.out 2
          refine wpOp_step (by rfl) (fun K hK => step_set rfl 26 _ _ rfl C 34 rfl v9 rfl _ h34 (frozen_row HI9.out.cb) finds_size HI9.out.one (hK _ _ ⟨trivial, ?_⟩))
          clear hK K h34
          have HI10 := Lib.hid (HI9.out.set34 HDG.out)
          clear HI9
          refine wpAnyH_done (by kernel_rfl) ?_ _
          generalize w9.setCell ⟨C, 34, none⟩ v9 = w10 at *
          simp only [List.getElem_toArray, List.getElem_cons_succ, List.getElem_cons_zero, Act.put, List.setIfInBounds_toArray, List.set_cons_succ, List.set_cons_zero]
          go_wp2
          go_roundw
          case rel => exact ⟨p, xs ++ [x], v9, by omega, rfl, by simp; omega, HI10.out.le (by omega)⟩
          case measure => simp [intOf]
        · refine wpOp_step (by rfl) (fun K hK => ?_)
          refine step_call rfl _ #[.pointer (some ⟨b, 0, none⟩)] (by go_simp) (finding_any b _ w3 HIw3.out.tape (by omega)) ?_
          rintro e w4 ⟨x, rfl, hok, hs1, hs2, hu1, hu2, ht, hg⟩
          refine ⟨_, rfl, hK _ _ ⟨trivial, ?_⟩⟩
          clear hK K
          have HXw4 := Lib.hid hok
          have HSX := Lib.hid (And.intro hs1 hs2)
          have HUX : Hid (Up w.heap.size x.dv ∧ Up w.heap.size x.ev) := Lib.hid ⟨hu1.le HIw3.out.gr.size, hu2.le HIw3.out.gr.size⟩
          have HIw4 := Lib.hid (HIw3.out.next hg ht)
          clear hok hs1 hs2 hu1 hu2 ht hg HIw3
          simp only [List.getElem_toArray, List.getElem_cons_succ, List.getElem_cons_zero, Act.put, List.setIfInBounds_toArray, List.set_cons_succ, List.set_cons_zero]
          refine wpAnyH_all (rs := [1, 4]) (by kernel_rfl) (by simp) ?_
          intro i0 hi0
          have hi3 : i0 = 1 ∨ i0 = 4 := by simpa using hi0
          clear hi0
          rcases hi3 with rfl | rfl
          · have h34 : w4.cell? ⟨C, 34, none⟩ = some (.slice va xs.length vc) := by rw [cell_of_row w4 C 34 _ _ _ HIw4.out.cb]; exact cs_at HDG.out 2
            refine wpOp_step (by rfl) (fun K hK => step_get rfl (.slice va xs.length vc) (ex_load rfl rfl (by go_simp)) (hK _ _ ⟨trivial, ?_⟩))
            clear hK K h34
            simp only [List.getElem_toArray, List.getElem_cons_succ, List.getElem_cons_zero, Act.put, List.setIfInBounds_toArray, List.set_cons_succ, List.set_cons_zero]
            refine wpAnyH_all (rs := [4]) (by kernel_rfl) (by simp) ?_
            intro i0 hi0
            obtain rfl : i0 = 4 := by simpa using hi0
            clear hi0
            refine wpOp_step (by rfl) (fun K hK => step_build1F rfl _ rfl x HXw4.out.inv rfl (hK _ _ ⟨trivial, ?_⟩))
            clear hK K
            have hb : Below w4.heap.size w4 (w4.alloc (.cells (fcells x) 64)) := (Below.refl _ w4).alloc (Nat.le_refl _) _
            have HXw5 := Lib.hid (HXw4.out.below hb)
            have HR : Hid ((w4.alloc (.cells (fcells x) 64)).rangeAt w4.heap.size 0 (fl x)) := Lib.hid (find_range (heap_alloc_new w4 _))
            have HIw5 := Lib.hid (HIw4.out.below hb)
            clear hb HXw4 HIw4
            generalize (w4.alloc (.cells (fcells x) 64)) = w5 at *
            generalize w4.heap.size = X at *
            simp only [List.getElem_toArray, List.getElem_cons_succ, List.getElem_cons_zero, Act.put, List.setIfInBounds_toArray, List.set_cons_succ, List.set_cons_zero]
            refine wpAnyH_all (rs := [5]) (by kernel_rfl) (by simp) ?_
            intro i0 hi0
            obtain rfl : i0 = 5 := by simpa using hi0
            clear hi0
            refine wpOp_step (by rfl) (fun K hK => ?_)
            refine step_append1F rfl _ _ rfl w.heap.size (.slice va xs.length vc) xs rfl HIw5.out.row X x HXw5.out rfl HR.out (by omega) HIw5.out.gr.size ?_
            intro v9 w9 hf9 hg9
            refine hK _ _ ⟨trivial, ?_⟩
            clear hK K
            have HI9 := Lib.hid (HIw5.out.append hf9 hg9 HXw5.out HUX.out HSX.out)
            clear hf9 hg9 HXw5 HIw5 HR
            simp only [List.getElem_toArray, List.getElem_cons_succ, List.getElem_cons_zero, Act.put, List.setIfInBounds_toArray, List.set_cons_succ, List.set_cons_zero]
            refine wpAnyH_take (i := 6) (v := .pointer (some ⟨C, 34, none⟩)) rfl (by kernel_rfl) (by kernel_rfl) (by kernel_rfl) (fun _ _ _ h => h) (Or.inl ⟨by rfl, fun W _ => by go_simp⟩) trivial ?_
            simp only [List.getElem_toArray, List.getElem_cons_succ, List.getElem_cons_zero, Act.put, List.setIfInBounds_toArray, List.set_cons_succ, List.set_cons_zero]
            refine wpAnyH_all (rs := [7]) (by kernel_rfl) (by simp) ?_
            intro i0 hi0
            obtain rfl : i0 = 7 := by simpa using hi0
            clear hi0
            have h34 : w9.cell? ⟨C, 34, none⟩ = some (.slice va xs.length vc) := by rw [cell_of_row w9 C 34 _ _ _ HI9.out.cb]; exact cs_at HDG.out 2
            refine wpOp_step (by rfl) (fun K hK => step_set rfl 26 _ _ rfl C 34 rfl v9 rfl _ h34 (frozen_row HI9.out.cb) finds_size HI9.out.one (hK _ _ ⟨trivial, ?_⟩))
            clear hK K h34
            have HI10 := Lib.hid (HI9.out.set34 HDG.out)
            clear HI9
            refine wpAnyH_done (by kernel_rfl) ?_ _
            generalize w9.setCell ⟨C, 34, none⟩ v9 = w10 at *
            simp only [List.getElem_toArray, List.getElem_cons_succ, List.getElem_cons_zero, Act.put, List.setIfInBounds_toArray, List.set_cons_succ, List.set_cons_zero]
            go_wp2
            go_roundw
            case rel => exact ⟨p, xs ++ [x], v9, by omega, rfl, by simp; omega, HI10.out.le (by omega)⟩
            case measure => simp [intOf]
          · refine wpOp_step (by rfl) (fun K hK => step_build1F rfl _ rfl x HXw4.out.inv rfl (hK _ _ ⟨trivial, ?_⟩))
            clear hK K
            have hb : Below w4.heap.size w4 (w4.alloc (.cells (fcells x) 64)) := (Below.refl _ w4).alloc (Nat.le_refl _) _
            have HXw5 := Lib.hid (HXw4.out.below hb)
            have HR : Hid ((w4.alloc (.cells (fcells x) 64)).rangeAt w4.heap.size 0 (fl x)) := Lib.hid (find_range (heap_alloc_new w4 _))
            have HIw5 := Lib.hid (HIw4.out.below hb)
            clear hb HXw4 HIw4
            generalize (w4.alloc (.cells (fcells x) 64)) = w5 at *
            generalize w4.heap.size = X at *
            simp only [List.getElem_toArray, List.getElem_cons_succ, List.getElem_cons_zero, Act.put, List.setIfInBounds_toArray, List.set_cons_succ, List.set_cons_zero]
            refine wpAnyH_all (rs := [1]) (by kernel_rfl) (by simp) ?_
            intro i0 hi0
            obtain rfl : i0 = 1 := by simpa using hi0
            clear hi0
            have h34 : w5.cell? ⟨C, 34, none⟩ = some (.slice va xs.length vc) := by rw [cell_of_row w5 C 34 _ _ _ HIw5.out.cb]; exact cs_at HDG.out 2
            refine wpOp_step (by rfl) (fun K hK => step_get rfl (.slice va xs.length vc) (ex_load rfl rfl (by go_simp)) (hK _ _ ⟨trivial, ?_⟩))
            clear hK K h34
            simp only [List.getElem_toArray, List.getElem_cons_succ, List.getElem_cons_zero, Act.put, List.setIfInBounds_toArray, List.set_cons_succ, List.set_cons_zero]
            refine wpAnyH_all (rs := [5]) (by kernel_rfl) (by simp) ?_
            intro i0 hi0
            obtain rfl : i0 = 5 := by simpa using hi0
            clear hi0
            refine wpOp_step (by rfl) (fun K hK => ?_)
            refine step_append1F rfl _ _ rfl w.heap.size (.slice va xs.length vc) xs rfl HIw5.out.row X x HXw5.out rfl HR.out (by omega) HIw5.out.gr.size ?_
            intro v9 w9 hf9 hg9
            refine hK _ _ ⟨trivial, ?_⟩
            clear hK K
            have HI9 := Lib.hid (HIw5.out.append hf9 hg9 HXw5.out HUX.out HSX.out)
            clear hf9 hg9 HXw5 HIw5 HR
            simp only [List.getElem_toArray, List.getElem_cons_succ, List.getElem_cons_zero, Act.put, List.setIfInBounds_toArray, List.set_cons_succ, List.set_cons_zero]
            refine wpAnyH_take (i := 6) (v := .pointer (some ⟨C, 34, none⟩)) rfl (by kernel_rfl) (by kernel_rfl) (by kernel_rfl) (fun _ _ _ h => h) (Or.inl ⟨by rfl, fun W _ => by go_simp⟩) trivial ?_
            simp only [List.getElem_toArray, List.getElem_cons_succ, List.getElem_cons_zero, Act.put, List.setIfInBounds_toArray, List.set_cons_succ, List.set_cons_zero]
            refine wpAnyH_all (rs := [7]) (by kernel_rfl) (by simp) ?_
            intro i0 hi0
            obtain rfl : i0 = 7 := by simpa using hi0
            clear hi0
            have h34 : w9.cell? ⟨C, 34, none⟩ = some (.slice va xs.length vc) := by rw [cell_of_row w9 C 34 _ _ _ HI9.out.cb]; exact cs_at HDG.out 2
            refine wpOp_step (by rfl) (fun K hK => step_set rfl 26 _ _ rfl C 34 rfl v9 rfl _ h34 (frozen_row HI9.out.cb) finds_size HI9.out.one (hK _ _ ⟨trivial, ?_⟩))
            clear hK K h34
            have HI10 := Lib.hid (HI9.out.set34 HDG.out)
            clear HI9
            refine wpAnyH_done (by kernel_rfl) ?_ _
            generalize w9.setCell ⟨C, 34, none⟩ v9 = w10 at *
            simp only [List.getElem_toArray, List.getElem_cons_succ, List.getElem_cons_zero, Act.put, List.setIfInBounds_toArray, List.set_cons_succ, List.set_cons_zero]
            go_wp2
            go_roundw
            case rel => exact ⟨p, xs ++ [x], v9, by omega, rfl, by simp; omega, HI10.out.le (by omega)⟩
            case measure => simp [intOf]
end Go.Proofs.Ytoiabbhppbghdaa
