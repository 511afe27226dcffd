/-
  Pairs of inventories: loaded, stored, built.
-/
import Derived.Test.YtoiabbhppbghdaaDoorIE
import Derived.Test.YtoiabbhppbghdaaDoorIN
namespace Go.Proofs.YtoiabbhppbghdaaDoor
open Go.RowKit

/-- an inventory as a value with what its components read as -/
structure IV where
  d : List Int
  t : Int
  v : Value
  l : List V.Comp
def icl (x : IV) : List Value := dcellsL x.d ++ [.int .i64 x.t, x.v]
def pcl (x y : IV) : List Value := icl x ++ icl y
structure IVok (W : World) (x : IV) (m : Nat) : Prop where
  hd : x.d.length = 32
  hdw : ∀ n ∈ x.d, (Lit.int .u8 n).wf = true
  comps : Comps W x.v x.l
  len : x.l.length ≤ m
theorem IVok.below {W W' : World} {x : IV} {m : Nat} (h : IVok W x m) (hb : Below W.heap.size W W') : IVok W' x m := ⟨h.hd, h.hdw, h.comps.below hb, h.len⟩
theorem icl_len {x : IV} (h : x.d.length = 32) : (icl x).length = 34 := by unfold icl dcellsL; simp [h]
theorem pcl_len {x y : IV} (hx : x.d.length = 32) (hy : y.d.length = 32) : (pcl x y).length = 68 := by unfold pcl; rw [List.length_append, icl_len hx, icl_len hy]
theorem icl_one {x : IV} (h : x.v.oneCell' = true) : ∀ u ∈ icl x, u.oneCell' = true := by
  intro u hu
  unfold icl dcellsL at hu
  simp at hu
  rcases hu with ⟨n, _, rfl⟩ | rfl | rfl
  · rfl
  · rfl
  · exact h
theorem pcl_one {x y : IV} (hx : x.v.oneCell' = true) (hy : y.v.oneCell' = true) : (pcl x y).toArray.all (·.oneCell') = true :=
  all_oneCell_toArray fun u hu => (List.mem_append.1 hu).elim (icl_one hx u) (icl_one hy u)
theorem pairInfo : (Tryd.prog.info? 48).map (·.size) = some 68 := by kernel_rfl
theorem pairRow : ∃ d, Tryd.prog.underlying 48 = some d ∧ d.isRow = true := ⟨_, Tryd.underlying48, rfl⟩
theorem pairIE : ∃ ie z, Tryd.prog.info? 48 = some ie ∧ ie.size = 68 ∧ ie.zero = some z := by
  have h : (match Tryd.prog.info? 48 with | some i => i.size == 68 && i.zero.isSome | none => false) = true := by kernel_rfl
  cases hq : Tryd.prog.info? 48 with
  | none => rw [hq] at h; cases h
  | some i =>
    rw [hq] at h
    simp only [Bool.and_eq_true, beq_iff_eq] at h
    obtain ⟨z, hz⟩ := Option.isSome_iff_exists.1 h.2
    exact ⟨i, z, rfl, h.1, hz⟩
set_option maxRecDepth 100000 in
theorem built_pair' (f g : Nat → Int) (t t' : Int) (v v' : Value) : Tryd.prog.built 48 [(0, .agg (icells ((List.range 32).map f) t v)), (1, .agg (icells ((List.range 32).map g) t' v'))] = some (pcl ⟨(List.range 32).map f, t, v, []⟩ ⟨(List.range 32).map g, t', v', []⟩).toArray := by kernel_rfl
theorem built_pair {x y : IV} (hx : x.d.length = 32) (hy : y.d.length = 32) : Tryd.prog.built 48 [(0, .agg (icells x.d x.t x.v)), (1, .agg (icells y.d y.t y.v))] = some (pcl x y).toArray := by
  obtain ⟨d, t, v, l⟩ := x
  obtain ⟨d', t', v', l'⟩ := y
  simp only at hx hy ⊢
  rw [range32 hx, range32 hy]
  exact built_pair' _ _ _ _ _ _
theorem inv_rangeAll {x : IV} {w : World} {g : Nat} {T : TypeId} (hg : w.heap[g]? = some (.cells (icells x.d x.t x.v) T (0, 0))) : w.rangeAt g 0 (icl x) := fun i u hu => by
  rw [Nat.zero_add, cell_of_row w g i _ _ _ hg]
  show (icl x).toArray[i]? = _
  simpa using hu
theorem load_invR {x : IV} (hx : x.d.length = 32) {w : World} {g off : Nat} (hr : w.rangeAt g off (icl x)) : (Instr.loadAt 26 (.pointer (some ⟨g, off, none⟩))).run Tryd.prog w = .ok (.agg (icells x.d x.t x.v)) w :=
  run_loadAt_mid w g off _ (icl x) _ hr Tryd.underlying26 rfl (by rw [invInfo, icl_len hx])
/-- at the operation: an inventory loaded from some place -/
theorem wl_loadR {ops : Array Oper} {rest : List Oper} {o : Oper} {a : Act} {w : World} {Q : Exit → Act → World → Prop} (hgd : o.guard = none) (y : Operand) (ho : o.op = .load 26 y)
    (g off : Nat) (hy : a.eval y = .pointer (some ⟨g, off, none⟩)) (x : IV) (hx : x.d.length = 32) (hr : w.rangeAt g off (icl x))
    (h : wpList Tryd.prog ops Q rest (a.put o.dst (.agg (icells x.d x.t x.v))) w) : wpList Tryd.prog ops Q (o :: rest) a w :=
  wpList_load_mid hgd _ y ho g off hy (icl x) _ hr Tryd.underlying26 rfl (by rw [invInfo, icl_len hx]) h
/-- .. at an operation whose guard holds -/
theorem wg_loadR {ops : Array Oper} {rest : List Oper} {o : Oper} {a : Act} {w : World} {Q : Exit → Act → World → Prop} (hw : Region.wanted o (yielded ops a.tmps) = true) (y : Operand) (ho : o.op = .load 26 y)
    (g off : Nat) (hy : a.eval y = .pointer (some ⟨g, off, none⟩)) (x : IV) (hx : x.d.length = 32) (hr : w.rangeAt g off (icl x))
    (h : wpList Tryd.prog ops Q rest (a.put o.dst (.agg (icells x.d x.t x.v))) w) : wpList Tryd.prog ops Q (o :: rest) a w :=
  wl_wanted hw fun _ hK => wp_load_mid _ y ho g off hy (icl x) _ hr Tryd.underlying26 rfl (by rw [invInfo, icl_len hx]) (hK _ _ h)
/-- at the operation: an inventory stored into a new block -/
theorem wl_storeI {ops : Array Oper} {rest : List Oper} {o : Oper} {a : Act} {w : World} {Q : Exit → Act → World → Prop} (hgd : o.guard = none) (p y : Operand) (ho : o.op = .store 26 p y)
    (old : Array Value) (hp : a.eval p = .pointer (some ⟨w.heap.size, 0, none⟩)) (x : IV) (hx : x.d.length = 32) (hv : x.v.oneCell' = true) (hy : a.eval y = .agg (icells x.d x.t x.v)) (ho34 : old.size = 34)
    (h : wpList Tryd.prog ops Q rest (a.put o.dst undef) (w.alloc (.cells (icells x.d x.t x.v) 26))) : wpList Tryd.prog ops Q (o :: rest) a (w.alloc (.cells old 26)) := by
  refine wl_storeV hgd p y ho w.heap.size old _ (heap_alloc_new w _) hp x.d x.t x.v hx hv hy ho34 ?_
  rw [set_new]; exact h
/-- at the operation: a pair loaded -/
theorem wl_loadP {ops : Array Oper} {rest : List Oper} {o : Oper} {a : Act} {w : World} {Q : Exit → Act → World → Prop} (hgd : o.guard = none) (p : Operand) (ho : o.op = .load 48 p)
    (g off : Nat) (hp : a.eval p = .pointer (some ⟨g, off, none⟩)) (x y : IV) (hx : x.d.length = 32) (hy : y.d.length = 32) (hr : w.rangeAt g off (pcl x y))
    (h : wpList Tryd.prog ops Q rest (a.put o.dst (.agg (pcl x y).toArray)) w) : wpList Tryd.prog ops Q (o :: rest) a w := by
  obtain ⟨d, hu, hd⟩ := pairRow
  exact wpList_load_mid hgd _ p ho g off hp (pcl x y) d hr hu hd (by rw [pairInfo, pcl_len hx hy]) h
/-- at the operation: a pair stored into a new block -/
theorem wl_storeP {ops : Array Oper} {rest : List Oper} {o : Oper} {a : Act} {w : World} {Q : Exit → Act → World → Prop} (hgd : o.guard = none) (p z : Operand) (ho : o.op = .store 48 p z)
    (old : Array Value) (t : TypeId) (hp : a.eval p = .pointer (some ⟨w.heap.size, 0, none⟩)) (x y : IV) (hx : x.d.length = 32) (hy : y.d.length = 32) (hxv : x.v.oneCell' = true) (hyv : y.v.oneCell' = true) (hz : a.eval z = .agg (pcl x y).toArray) (ho68 : old.size = 68)
    (h : wpList Tryd.prog ops Q rest (a.put o.dst undef) (w.alloc (.cells (pcl x y).toArray t))) : wpList Tryd.prog ops Q (o :: rest) a (w.alloc (.cells old t)) := by
  refine wpList_store_row hgd _ p z ho w.heap.size (pcl x y).toArray hp hz t old (heap_alloc_new w _) (by rw [pairInfo, List.size_toArray, pcl_len hx hy]) (by rw [ho68, List.size_toArray, pcl_len hx hy]) (pcl_one hxv hyv) ?_
  rw [set_new]; exact h
theorem pair_new (x y : IV) (w : World) (t : TypeId) : (w.alloc (.cells (pcl x y).toArray t)).rangeAt w.heap.size 0 (pcl x y) := fun i u hu => by
  rw [World.cell?_alloc_new, Nat.zero_add]
  simpa using hu
theorem pair_left {x y : IV} {w : World} {g off : Nat} (h : w.rangeAt g off (pcl x y)) : w.rangeAt g off (icl x) := fun i u hu => h i u (by
  unfold pcl
  rw [List.getElem?_append_left (List.getElem?_eq_some_iff.1 hu).1]
  exact hu)
theorem pair_right {x y : IV} (hx : x.d.length = 32) {w : World} {g off : Nat} (h : w.rangeAt g off (pcl x y)) : w.rangeAt g (off + 34) (icl y) := fun i u hu => by
  have := h (34 + i) u (by
    unfold pcl
    rw [List.getElem?_append_right (by rw [icl_len hx]; omega), icl_len hx, Nat.add_sub_cancel_left]
    exact hu)
  rwa [show off + (34 + i) = off + 34 + i by omega] at this
/-- three pairs as a slice, as a step of a region that draws -/
def cells3 (p q r : List Value) : Array Value := (p ++ (q ++ r)).toArray
theorem step_build3 {ops : Array Oper} {o : Oper} {a : Act} {w : World} {K : Act → World → Prop} {Q : Exit → Act → World → Prop} {E : Prop} (hgd : o.guard = none) (e1 e2 e3 : Operand) (ho : o.op = .buildSlice 50 3 #[(0, e1), (1, e2), (2, e3)])
    (p q r : List Value) (hp : p.length = 68) (hq : q.length = 68) (hr : r.length = 68) (h1 : a.eval e1 = .agg p.toArray) (h2 : a.eval e2 = .agg q.toArray) (h3 : a.eval e3 = .agg r.toArray)
    (h : K (a.put o.dst (.slice (some ⟨w.heap.size, 0, none⟩) 3 3)) (w.alloc (.cells (cells3 p q r) 48))) : if Region.wanted o (yielded ops a.tmps) = true then Oper.wp Tryd.prog o a w K Q else E := by
  rw [if_pos (by simp [Region.wanted, hgd])]
  obtain ⟨ie, z, hie, hsz, hz⟩ := pairIE
  refine wp_buildSlice _ 48 3 _ ho (cells3 p q r) ie z Tryd.underlying50 hie hz (by rw [hsz]; decide) (by rw [hsz]; decide) ?_ h
  have := Great.fill_whole (s := 68) (by decide) [Value.agg p.toArray, Value.agg q.toArray, Value.agg r.toArray] ((Array.range (3 * ie.size)).map (z.cells[· % z.cells.size]!)) (fun v hv => by
    simp only [List.mem_cons, List.not_mem_nil, or_false] at hv
    rcases hv with rfl | rfl | rfl <;> simp [Value.cells, hp, hq, hr]) (by rw [hsz]; simp)
  rw [hsz] at this ⊢
  simp only [h1, h2, h3, List.map_toArray, List.map_cons, List.map_nil]
  exact this.trans (by simp [Value.cells, cells3])
theorem three_at {p q r : List Value} (hp : p.length = 68) (hq : q.length = 68) {w : World} {g : Nat} {T : TypeId} (hg : w.heap[g]? = some (.cells (cells3 p q r) T (0, 0))) : w.rangeAt g 0 p ∧ w.rangeAt g 68 q ∧ w.rangeAt g 136 r := by
  have e : ∀ i, w.cell? ⟨g, i, none⟩ = (p ++ (q ++ r))[i]? := fun i => by
    rw [cell_of_row w g i _ _ _ hg]
    unfold cells3
    rw [List.getElem?_toArray]
  refine ⟨fun i u hu => ?_, fun i u hu => ?_, fun i u hu => ?_⟩
  · rw [Nat.zero_add, e, List.getElem?_append_left (List.getElem?_eq_some_iff.1 hu).1]; exact hu
  · rw [e, List.getElem?_append_right (by omega), hp, show 68 + i - 68 = i by omega, List.getElem?_append_left (List.getElem?_eq_some_iff.1 hu).1]; exact hu
  · rw [e, List.getElem?_append_right (by omega), hp, List.getElem?_append_right (by omega), hq, show 136 + i - 68 - 68 = i by omega]; exact hu
/-- what merging returns -/
theorem mergeVal_dig {d d' : List Int} {t t' : Int} {l l' : List V.Comp} (hd : d.length = 32) (hdw : ∀ n ∈ d, (Lit.int .u8 n).wf = true) : (V.mergeVal d t l d' t' l').1.length = 32 ∧ (∀ n ∈ (V.mergeVal d t l d' t' l').1, (Lit.int .u8 n).wf = true) ∧ (V.mergeVal d t l d' t' l').2.2.length ≤ l.length + l'.length := by
  unfold V.mergeVal
  split
  · exact ⟨hd, hdw, V.mergeTo_out _ (Nat.le_refl _)⟩
  · exact ⟨rfl, by decide, by simp⟩
end Go.Proofs.YtoiabbhppbghdaaDoor
