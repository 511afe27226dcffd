/-
  The iterator over what contains a component: contract.
  Rows of numbers of one's own; a slice that reads as some numbers; steps in a fence.
  Appends of whole slices of components; empty slices made; the state of the reference's merge.
-/
import Derived.Test.YtnhfaincdabdkaaGreatDoorL2
import Derived.Test.YtnhfaincdabdkaaGreatDoorL5
import Derived.Test.YtnhfaincdabdkaaGreatDoorJM
import Derived.Test.YtnhfaincdabdkaaGreatDoorPJ
import Derived.Test.YtnhfaincdabdkaaGreatDoorZE
import Derived.Test.YtnhfaincdabdkaaGreatDoorJW
import Derived.Test.YtnhfaincdabdkaaGreatDoorR3
import Derived.Laws.OwnMore
namespace Go.Proofs.YtnhfaincdabdkaaGreatDoor
open Go.RowKit Go.Shelf
attribute [local go_sem] Oper.semAt_some

namespace V
def parOf (l : List Comp) (i : Int) : Int := match l[i.toNat]? with | some c => c.par | none => -1
def ancF (l : List Comp) : Nat → Int → List Int
  | 0, _ => []
  | f + 1, i => if i < 0 then [] else i :: ancF l f (parOf l i)
/-- the component at place i and those that contain it, from the inside -/
def anc (l : List Comp) (i : Int) : List Int := ancF l (i.toNat + 1) i
theorem parOf_at {l : List Comp} {i : Nat} (h : i < l.length) : parOf l i = l[i].par := by
  unfold parOf
  rw [Int.toNat_natCast, List.getElem?_eq_getElem h]
theorem par_lt {l : List Comp} (ho : compsTo l l.length = true) {i : Nat} (h : i < l.length) : -1 ≤ l[i].par ∧ l[i].par < i := by
  have := compsTo_at ho h
  rw [compAt_iff] at this
  exact ⟨this.2.1, this.2.2.1⟩
theorem ancF_fuel {l : List Comp} (ho : compsTo l l.length = true) : ∀ (f g : Nat) (i : Int), i < l.length → i.toNat < f → i.toNat < g → ancF l f i = ancF l g i
  | 0, _, _, _, h, _ => by omega
  | _, 0, _, _, _, h => by omega
  | f + 1, g + 1, i, hl, hf, hg => by
    unfold ancF
    by_cases h0 : i < 0
    · rw [if_pos h0, if_pos h0]
    · rw [if_neg h0, if_neg h0]
      obtain ⟨k, rfl⟩ := Int.eq_ofNat_of_zero_le (show 0 ≤ i by omega)
      have hk : k < l.length := by omega
      have hp := par_lt ho hk
      rw [parOf_at hk]
      by_cases hn : l[k].par < 0
      · congr 1
        cases f with
        | zero => cases g with
          | zero => rfl
          | succ g => unfold ancF; rw [if_pos hn]
        | succ f => cases g with
          | zero => unfold ancF; rw [if_pos hn]
          | succ g => unfold ancF; rw [if_pos hn, if_pos hn]
      · congr 1
        exact ancF_fuel ho f g _ (by omega) (by omega) (by omega)
theorem anc_neg {l : List Comp} {i : Int} (h : i < 0) : anc l i = [] := by
  unfold anc ancF; rw [if_pos h]
theorem anc_step {l : List Comp} (ho : compsTo l l.length = true) {k : Nat} (h : k < l.length) : anc l k = (k : Int) :: anc l l[k].par := by
  have hp := par_lt ho h
  unfold anc
  rw [show ((k : Int).toNat + 1) = k + 1 by omega]
  conv => lhs; unfold ancF
  rw [if_neg (by omega), parOf_at h]
  congr 1
  by_cases hn : l[k].par < 0
  · cases k with
    | zero => conv => rhs; unfold ancF
              rw [if_pos hn]; rfl
    | succ k => conv => lhs; unfold ancF
                conv => rhs; unfold ancF
                rw [if_pos hn, if_pos hn]
  · exact ancF_fuel ho _ _ _ (by omega) (by omega) (by omega)
theorem ancF_len (l : List Comp) : ∀ (f : Nat) (i : Int), (ancF l f i).length ≤ f
  | 0, _ => by simp [ancF]
  | f + 1, i => by
    unfold ancF
    split
    · simp
    · have := ancF_len l f (parOf l i)
      simp; omega
theorem anc_len {l : List Comp} (_ : compsTo l l.length = true) (i : Int) (h : i < l.length) : (anc l i).length ≤ l.length := by
  unfold anc
  by_cases h0 : i < 0
  · unfold ancF; rw [if_pos h0]; simp
  · have := ancF_len l (i.toNat + 1) i
    omega
end V

/-- all blocks below B but o are kept -/
def Spared (B o : Nat) (W W' : World) : Prop := W.heap.size ≤ W'.heap.size ∧ ∀ k, k < B → k ≠ o → W'.heap[k]? = W.heap[k]?
theorem Spared.cell {B o : Nat} {W W' : World} (h : Spared B o W W') {b : Nat} (hb : b < B) (ho : b ≠ o) (i : Nat) : W'.cell? ⟨b, i, none⟩ = W.cell? ⟨b, i, none⟩ := by
  unfold World.cell?
  rw [h.2 b hb ho]
theorem Spared.frozen {B o : Nat} {W W' : World} (h : Spared B o W W') {b : Nat} (hb : b < B) (ho : b ≠ o) (i : Nat) : W'.frozen? ⟨b, i, none⟩ = W.frozen? ⟨b, i, none⟩ := by
  unfold World.frozen?
  rw [h.2 b hb ho]
/-- the components lie below B, not in o -/
def CompsIn (W : World) (B o : Nat) (v : Value) (l : List V.Comp) : Prop :=
  ∃ a cap, v = .slice a l.length cap ∧ ∀ j (h : j < l.length), CompWf l[j] ∧ ∃ b off, a = some ⟨b, off, none⟩ ∧ b < B ∧ b ≠ o ∧ W.rangeAt b (off + j * 36) (cellsL l[j])
theorem CompsIn.kept {W W' : World} {B o : Nat} {v : Value} {l : List V.Comp} (h : CompsIn W B o v l) (hs : Spared B o W W') : CompsIn W' B o v l := by
  obtain ⟨a, cap, e, hc⟩ := h
  refine ⟨a, cap, e, fun j hj => ?_⟩
  obtain ⟨hw, b, off, ea, hb, ho, hr⟩ := hc j hj
  exact ⟨hw, b, off, ea, hb, ho, fun i u hu => (hs.cell hb ho _).trans (hr i u hu)⟩
theorem CompsIn.setCell {W : World} {B o : Nat} {v : Value} {l : List V.Comp} {bI : Nat} (h : CompsIn W B o v l) (hbI : B ≤ bI) (u : Value) : CompsIn (W.setCell ⟨bI, 0, none⟩ u) B o v l := by
  refine h.kept ⟨by simp [World.setCell], fun k hk _ => Below.heap_setCell _ _ _ _ (by show k ≠ bI; omega)⟩

def intOfO : Option Value → Nat
  | some (.int _ n) => (n + 1).toNat
  | _ => 0
end Go.Proofs.YtnhfaincdabdkaaGreatDoor
namespace Go.Proofs.YtnhfaincdabdkaaGreatDoor
open Go.RowKit Go.Shelf
attribute [local go_sem] Oper.semAt_some

/-- a row of numbers of one's own -/
def ZRow (w : World) (N : Nat) (v : Value) (l : List Int) : Prop := w.ownsRow N 3 1 v l.length (l.map (Value.int .i64))
theorem ZRow.nil (w : World) (N : Nat) : ZRow w N (.slice none 0 0) [] := ⟨rfl, .inl ⟨rfl, rfl⟩⟩
theorem ZRow.slice {w : World} {N : Nat} {v : Value} {l : List Int} (h : ZRow w N v l) : ∃ a cap, v = .slice a l.length cap := by
  rcases h.2 with ⟨rfl, hn⟩ | ⟨g, cap, cur, rfl, _⟩
  · exact ⟨none, 0, by rw [hn]⟩
  · exact ⟨_, cap, rfl⟩
theorem ZRow.block {w : World} {N : Nat} {v : Value} {l : List Int} (h : ZRow w N v l) : ∀ b, v.ownBlock = some b → N ≤ b := by
  intro b hb
  rcases h.2 with ⟨rfl, _⟩ | ⟨g, cap, cur, rfl, hbb, _⟩
  · cases hb
  · simp [Value.ownBlock] at hb; omega
theorem ZRow.cellsAt {w : World} {N : Nat} {v : Value} {l : List Int} (h : ZRow w N v l) : ∀ g, v.ownBlock = some g → ∃ cur, w.heap[g]? = some (.cells cur 3 (0, 0)) := by
  intro b hb
  rcases h.2 with ⟨rfl, _⟩ | ⟨g, cap, cur, rfl, _, hg, _⟩
  · cases hb
  · simp [Value.ownBlock] at hb
    subst hb
    exact ⟨cur, hg⟩
theorem ZRow.kept {w w' : World} {N : Nat} {v : Value} {l : List Int} (h : ZRow w N v l) {row : Option Nat} (hg : w.grownBy w' row) (hr : ∀ b, row = some b → v.ownBlock ≠ some b) : ZRow w' N v l := by
  obtain ⟨hx, h⟩ := h
  refine ⟨hx, ?_⟩
  rcases h with h | ⟨g, cap, cur, rfl, hb, hgg, rest⟩
  · exact .inl h
  · refine .inr ⟨g, cap, cur, rfl, hb, ?_, rest⟩
    rw [hg.block g (Array.getElem?_eq_some_iff.1 hgg).1 (fun e => hr g e.symm rfl)]
    exact hgg
theorem ZRow.keeps {w w' : World} {N : Nat} {v : Value} {l : List Int} (h : ZRow w N v l) (hg : w.grownBy w' v.ownBlock) : KeepsOthers w w' :=
  ⟨hg.size, fun k o hk ho => (hg.block k (Array.getElem?_eq_some_iff.1 hk).1 (fun e => by
    obtain ⟨cur, hc⟩ := h.cellsAt k e.symm
    rw [hc] at hk
    cases hk
    cases ho)).trans hk⟩
/-- a slice that reads as some numbers -/
def Zs (w : World) (v : Value) (l : List Int) : Prop :=
  ∃ a cap, v = .slice a l.length cap ∧ ∀ j (h : j < l.length), ∃ b off, a = some ⟨b, off, none⟩ ∧ b < w.heap.size ∧ w.cell? ⟨b, off + j, none⟩ = some (.int .i64 l[j])
theorem Zs.nil (w : World) : Zs w (.slice none 0 0) [] := ⟨none, 0, rfl, fun j h => by simp at h⟩

theorem size_setCellsZ (g : Nat) : ∀ (vs : List Value) (o : Nat) (w : World), (w.setCells g o vs).heap.size = w.heap.size
  | [], _, _ => rfl
  | v :: r, o, w => by
    show ((w.setCell ⟨g, o, none⟩ v).setCells g (o + 1) r).heap.size = w.heap.size
    rw [size_setCellsZ g r]; simp
theorem below_setCellsZ {B g : Nat} {a : World} (hg : B ≤ g) : ∀ (vs : List Value) (o : Nat) (w : World), Below B a w → Below B a (w.setCells g o vs)
  | [], _, _, h => h
  | v :: r, o, _, h => below_setCellsZ hg r (o + 1) _ (h.setCell (p := ⟨g, o, none⟩) hg v)

/-- in a fence: a number appended -/
theorem wi_appendZ {F : Fence} {n : Nat} {ops : Array Oper} {rest : List Oper} {o : Oper} {a : Act} {w : World} {Q : Exit → Act → World → Prop} (hgd : o.guard = none) (s x : Operand)
    (ho : o.op = .call { callee := .builtin .append, args := #[s, x], argTypes := #[28, 28] })
    (N : Nat) (v : Value) (l : List Int) (hs : a.eval s = v) (hown : ZRow w N v l) (b : Nat) (i : Int) (hx : a.eval x = .slice (some ⟨b, 0, none⟩) 1 1) (hr : w.cell? ⟨b, 0, none⟩ = some (.int .i64 i)) (hl : l.length ≤ 1000000) (hN : N ≤ w.heap.size)
    (h : ∀ v' w', ZRow w' N v' (l ++ [i]) → w.grownBy w' v.ownBlock → wpListIn F n Tryz.prog ops Q rest (a.put o.dst v') w') : wpListIn F n Tryz.prog ops Q (o :: rest) a w := by
  obtain ⟨i0, hi, hz0, hz1, hz2⟩ := info_parts info_int19
  refine wpListIn_append_own w hgd s x 28 ho N 3 i0 (.int .i64 0) 1 8 Tryz.underlying28 hi hz0 hz1 hz2 rfl (by decide) v l.length _ hs hown ⟨b, 0, none⟩ 1 1 [.int .i64 i] hx rfl ?_ ?_ (by unfold maxLen; omega) (by omega) hN ?_
  · intro j u hj
    have : j = 0 := by
      have := (List.getElem?_eq_some_iff.1 hj).1
      simpa using this
    subst this
    rw [Addr.add_mid]
    simpa [hr] using hj
  · intro u hu
    rw [List.mem_singleton.1 hu]; rfl
  · intro v' w' ho' hg _
    refine h v' w' ?_ hg
    unfold ZRow
    rw [List.length_append, List.map_append]
    exact ho'
/-- in a fence: an inventory loaded -/
theorem wi_loadI {F : Fence} {n : Nat} {ops : Array Oper} {rest : List Oper} {o : Oper} {a : Act} {w : World} {Q : Exit → Act → World → Prop} (hgd : o.guard = none) (x : Operand) (ho : o.op = .load 27 x)
    (g : Nat) (t : TypeId) (hx : a.eval x = .pointer (some ⟨g, 0, none⟩)) (cs : Array Value) (hcs : cs.size = 34) (hgr : w.heap[g]? = some (.cells cs t (0, 0)))
    (h : wpListIn F n Tryz.prog ops Q rest (a.put o.dst (.agg cs)) w) : wpListIn F n Tryz.prog ops Q (o :: rest) a w := by
  refine wpListIn_plain hgd fun K hK => ?_
  have hrun : (execOp a.eval o).run Tryz.prog w = .ok (.value (.agg cs)) w := by
    unfold execOp
    simp only [ho, hx, Instr.loadAt, Instr.sureAddr, Sem.run_bind, Sem.run_pure, Result.andThen_ok, run_loadVar_row w g t 27 cs (0, 0) _ hgr Tryz.underlying27 rfl (by rw [invInfo, hcs])]
  unfold Oper.wpIn
  refine ⟨by simp [Oper.about, ho], ?_⟩
  rw [Oper.semAt_plain F _ _ (by rw [ho]; intro c hc'; cases hc'), hrun]
  exact hK _ _ h
end Go.Proofs.YtnhfaincdabdkaaGreatDoor
namespace Go.Proofs.YtnhfaincdabdkaaGreatDoor
open Go.RowKit

theorem run_append_nil {P : Program} {w : World} (base : Nat) (t ty e : TypeId) (i : TypeInfo) (size : Nat) (ht : P.underlying t = some (.slice e)) (hi : P.info? e = some i)
    (v : Value) (n : Nat) (xs : List Value) (hown : w.ownsRow base e size v n xs) (c : Nat) :
    (Builtin.append_ #[t, t] ty #[v, .slice none 0 c]).run P w = .ok v w := by
  rcases hown.2 with ⟨rfl, rfl⟩ | ⟨g, cap, cur, rfl, _, _, hnc, _⟩
  · simp [Builtin.append_, run_underlying ht, sizeOf, typeInfo, hi, Builtin.lenOf, Builtin.firstCells]
  · simp [Builtin.append_, run_underlying ht, sizeOf, typeInfo, hi, Builtin.lenOf, Builtin.firstCells, hnc, storeCells]
/-- the operation: a slice of components appended to a row of one's own -/
theorem wp_appendCs {o : Oper} {a : Act} {w : World} {K : Act → World → Prop} {Q : Exit → Act → World → Prop} (s x : Operand)
    (ho : o.op = .call { callee := .builtin .append, args := #[s, x], argTypes := #[25, 25] })
    (N : Nat) (v : Value) (l : List V.Comp) (hs : a.eval s = v) (hown : CRow w N v l) (u : Value) (m : List V.Comp) (hx : a.eval x = u) (hu : Comps w u m) (hl : l.length + m.length ≤ 1000000) (hN : N ≤ w.heap.size)
    (h : ∀ v' w', CRow w' N v' (l ++ m) → w.grownBy w' v.ownBlock → K (a.put o.dst v') w') : o.wp Tryz.prog a w K Q := by
  obtain ⟨ie, z, hi, hz, h1, h2, h3⟩ := compIE3
  have hwf := hu.wf
  obtain ⟨ua, uc, rfl, hat⟩ := hu
  rcases ua with _ | ad
  · have hn : m = [] := by
      cases m with
      | nil => rfl
      | cons c r =>
        obtain ⟨_, b, off, e, _⟩ := hat 0 (by simp)
        cases e
    subst hn
    have hrun := run_append_nil (P := Tryz.prog) (w := w) N 25 o.type 88 ie 36 Tryz.underlying25 hi v l.length (l.flatMap cellsL) hown.1 uc
    unfold Oper.wp
    simp [execOp, ho, resolve, invoke, builtin, hs, hx, hrun, Result.andThen]
    exact h v w (by rw [List.append_nil]; exact hown) ⟨rfl, rfl, rfl, Nat.le_refl _, fun _ _ _ => rfl⟩
  · refine wp_append_own w s x 25 ho N 88 ie z 36 80 Tryz.underlying25 hi hz h1 h2 h3 (by decide) v l.length (l.flatMap cellsL) hs hown.1 ad m.length uc (m.flatMap cellsL) hx (flat_len hwf) ?_ ?_ (by unfold maxLen; omega) (by omega) hN ?_
    · intro j u hju
      obtain ⟨q, hq, i, hi, rfl, hu⟩ := flat_get hwf hju
      obtain ⟨_, b, off, e, hlt, hr⟩ := hat q hq
      cases e
      rw [Addr.add_mid]
      have := hr i u hu
      rw [show off + q * 36 + i = off + (q * 36 + i) by omega] at this
      exact this
    · intro u hu
      obtain ⟨c, hc, huc⟩ := List.mem_flatMap.1 hu
      exact Array.all_eq_true_iff_forall_mem.1 (comp_one (c := c)) u (by unfold ccells; simpa using huc)
    · intro v' w' ho' hg _
      refine h v' w' ⟨?_, fun d hd => ?_⟩ hg
      · rw [List.length_append, List.flatMap_append]; exact ho'
      · rcases List.mem_append.1 hd with hd | hd
        · exact hown.2 d hd
        · exact hwf d hd
theorem step_appendCs {ops : Array Oper} {o : Oper} {a : Act} {w : World} {K : Act → World → Prop} {Q : Exit → Act → World → Prop} {E : Prop} (hgd : o.guard = none) (s x : Operand)
    (ho : o.op = .call { callee := .builtin .append, args := #[s, x], argTypes := #[25, 25] })
    (N : Nat) (v : Value) (l : List V.Comp) (hs : a.eval s = v) (hown : CRow w N v l) (u : Value) (m : List V.Comp) (hx : a.eval x = u) (hu : Comps w u m) (hl : l.length + m.length ≤ 1000000) (hN : N ≤ w.heap.size)
    (h : ∀ v' w', CRow w' N v' (l ++ m) → w.grownBy w' v.ownBlock → K (a.put o.dst v') w') : if Region.wanted o (yielded ops a.tmps) = true then Oper.wp Tryz.prog o a w K Q else E := by
  rw [if_pos (by simp [Region.wanted, hgd])]
  exact wp_appendCs s x ho N v l hs hown u m hx hu hl hN h
theorem wl_appendCs {ops : Array Oper} {rest : List Oper} {o : Oper} {a : Act} {w : World} {Q : Exit → Act → World → Prop} (hgd : o.guard = none) (s x : Operand)
    (ho : o.op = .call { callee := .builtin .append, args := #[s, x], argTypes := #[25, 25] })
    (N : Nat) (v : Value) (l : List V.Comp) (hs : a.eval s = v) (hown : CRow w N v l) (u : Value) (m : List V.Comp) (hx : a.eval x = u) (hu : Comps w u m) (hl : l.length + m.length ≤ 1000000) (hN : N ≤ w.heap.size)
    (h : ∀ v' w', CRow w' N v' (l ++ m) → w.grownBy w' v.ownBlock → wpList Tryz.prog ops Q rest (a.put o.dst v') w') : wpList Tryz.prog ops Q (o :: rest) a w :=
  wpList_plain hgd fun _ hK => wp_appendCs s x ho N v l hs hown u m hx hu hl hN fun v' w' h2 h3 => hK _ _ (h v' w' h2 h3)
theorem run_build0 (w : World) : (Instr.buildSlice 25 0 #[]).run Tryz.prog w = .ok (.slice (some ⟨w.heap.size, 0, none⟩) 0 0) (w.alloc (.cells #[] 88)) := by
  obtain ⟨ie, z, hi, hz, h1, h2, h3⟩ := compIE3
  simp [Instr.buildSlice, run_underlying Tryz.underlying25, sizeOf, typeInfo, hi, newRow, Instr.fill]
  have e : Array.map (fun (_ : Nat) => (default : Value)) (Array.range 0) = #[] := Array.eq_empty_of_size_eq_zero (by simp)
  rw [e]
theorem step_build0 {ops : Array Oper} {o : Oper} {a : Act} {w : World} {K : Act → World → Prop} {Q : Exit → Act → World → Prop} {E : Prop} (hgd : o.guard = none) (ho : o.op = .buildSlice 25 0 #[])
    (h : K (a.put o.dst (.slice (some ⟨w.heap.size, 0, none⟩) 0 0)) (w.alloc (.cells #[] 88))) : if Region.wanted o (yielded ops a.tmps) = true then Oper.wp Tryz.prog o a w K Q else E := by
  rw [if_pos (by simp [Region.wanted, hgd])]
  unfold Oper.wp execOp
  simp only [ho, Sem.run_bind, List.map_toArray, List.map_nil, run_build0 w, Result.andThen_ok]
  exact h
theorem wl_build0 {ops : Array Oper} {rest : List Oper} {o : Oper} {a : Act} {w : World} {Q : Exit → Act → World → Prop} (hgd : o.guard = none) (ho : o.op = .buildSlice 25 0 #[])
    (h : wpList Tryz.prog ops Q rest (a.put o.dst (.slice (some ⟨w.heap.size, 0, none⟩) 0 0)) (w.alloc (.cells #[] 88))) : wpList Tryz.prog ops Q (o :: rest) a w :=
  wpList_plain hgd fun _ hK => by
    unfold Oper.wp execOp
    simp only [ho, Sem.run_bind, List.map_toArray, List.map_nil, run_build0 w, Result.andThen_ok]
    exact hK _ _ h
/-- an empty slice made is a row of one's own -/
theorem CRow.made0 (w : World) {N : Nat} (hN : N ≤ w.heap.size) : CRow (w.alloc (.cells #[] 88)) N (.slice (some ⟨w.heap.size, 0, none⟩) 0 0) [] :=
  ⟨World.ownsRow_made w #[] 0 hN (Nat.zero_le _) rfl, fun c hc => by simp at hc⟩

/-- at the operation: a number appended -/
theorem wl_appendZ {ops : Array Oper} {rest : List Oper} {o : Oper} {a : Act} {w : World} {Q : Exit → Act → World → Prop} (hgd : o.guard = none) (s x : Operand)
    (ho : o.op = .call { callee := .builtin .append, args := #[s, x], argTypes := #[28, 28] })
    (N : Nat) (v : Value) (l : List Int) (hs : a.eval s = v) (hown : ZRow w N v l) (b : Nat) (i : Int) (hx : a.eval x = .slice (some ⟨b, 0, none⟩) 1 1) (hr : w.cell? ⟨b, 0, none⟩ = some (.int .i64 i)) (hl : l.length ≤ 1000000) (hN : N ≤ w.heap.size)
    (h : ∀ v' w', ZRow w' N v' (l ++ [i]) → w.grownBy w' v.ownBlock → wpList Tryz.prog ops Q rest (a.put o.dst v') w') : wpList Tryz.prog ops Q (o :: rest) a w := by
  obtain ⟨i0, hi, hz0, hz1, hz2⟩ := info_parts info_int19
  refine wpList_append_own w hgd s x 28 ho N 3 i0 (.int .i64 0) 1 8 Tryz.underlying28 hi hz0 hz1 hz2 rfl (by decide) v l.length _ hs hown ⟨b, 0, none⟩ 1 1 [.int .i64 i] hx rfl ?_ ?_ (by unfold maxLen; omega) (by omega) hN ?_
  · intro j u hj
    have : j = 0 := by
      have := (List.getElem?_eq_some_iff.1 hj).1
      simpa using this
    subst this
    rw [Addr.add_mid]
    simpa [hr] using hj
  · intro u hu
    rw [List.mem_singleton.1 hu]; rfl
  · intro v' w' ho' hg _
    refine h v' w' ?_ hg
    unfold ZRow
    rw [List.length_append, List.map_append]
    exact ho'
theorem ZRow.get {w : World} {N : Nat} {v : Value} {l : List Int} (h : ZRow w N v l) {j : Nat} (hj : j < l.length) : ∃ g cap, v = .slice (some ⟨g, 0, none⟩) l.length cap ∧ w.cell? ⟨g, j, none⟩ = some (.int .i64 l[j]) := by
  rcases h.2 with ⟨_, h0⟩ | ⟨g, cap, cur, rfl, hrest⟩
  · omega
  · refine ⟨g, cap, rfl, ?_⟩
    have := World.ownsRow.cellAt h j (by omega)
    rw [this, List.getElem?_map, List.getElem?_eq_getElem hj]
    rfl

/-- what the loop of the reference's merge keeps: w the world behind the checks -/
structure RInv (w : World) (O : Nat) (d : List Int) (mx : Int) (v : Value) (out : List V.Comp) (pv : Value) (st : List Int) (W : World) : Prop where
  row : CRow W w.heap.size v out
  inv : W.heap[O]? = some (.cells (icells d mx v) 27 (0, 0))
  place : ZRow W w.heap.size pv st
  below : Below w.heap.size w W
  hO : w.heap.size ≤ O
namespace RInv
variable {w : World} {O : Nat} {d : List Int} {mx : Int} {v : Value} {out : List V.Comp} {pv : Value} {st : List Int} {W W' : World}
theorem placeNe (h : RInv w O d mx v out pv st W) {g : Nat} {cs : Array Value} {t : TypeId} {fr : Nat × Nat} (hg : W.heap[g]? = some (.cells cs t fr)) (ht : t ≠ 3) : pv.ownBlock ≠ some g := fun hb => by
  obtain ⟨cur, hc⟩ := h.place.cellsAt g hb
  rw [hc] at hg
  cases hg
  exact ht rfl
theorem call (h : RInv w O d mx v out pv st W) (hb : Below W.heap.size W W') : RInv w O d mx v out pv st W' :=
  ⟨h.row.kept2 (below_grown hb none) (fun b e => by cases e), (hb.block O (Array.getElem?_eq_some_iff.1 h.inv).1).trans h.inv, h.place.kept (below_grown hb none) (fun b e => by cases e), h.below.trans (hb.mono h.below.size), h.hO⟩
theorem alloc (h : RInv w O d mx v out pv st W) (o : Obj) : RInv w O d mx v out pv st (W.alloc o) :=
  h.call ((Below.refl _ W).alloc (Nat.le_refl _) o)
theorem invCell (hd : d.length = 32) (h : RInv w O d mx v out pv st W) : W.cell? ⟨O, 33, none⟩ = some v := by
  rw [cell_of_row W O 33 _ _ _ h.inv]; exact icells_33 hd mx v
theorem invKept (h : RInv w O d mx v out pv st W) (hg : W.grownBy W' v.ownBlock) : W'.heap[O]? = some (.cells (icells d mx v) 27 (0, 0)) :=
  (hg.block O (Array.getElem?_eq_some_iff.1 h.inv).1 (fun e => h.row.ne h.inv (by decide) e.symm)).trans h.inv
theorem growBelow (h : RInv w O d mx v out pv st W) {u : Value} (hu : ∀ b, u.ownBlock = some b → w.heap.size ≤ b) (hg : W.grownBy W' u.ownBlock) : Below w.heap.size w W' :=
  h.below.trans ⟨hg.os, hg.tape, hg.output, hg.size, fun k hk => hg.block k (by have := h.below.size; omega) (fun e => by have := hu k e.symm; omega)⟩
/-- a component appended -/
theorem append (hd : d.length = 32) (h : RInv w O d mx v out pv st W) {v' : Value} {out' : List V.Comp} (hr : CRow W' w.heap.size v' out') (hg : W.grownBy W' v.ownBlock) : RInv w O d mx v' out' pv st (W'.setCell ⟨O, 33, none⟩ v') := by
  have hi := h.invKept hg
  have hp : ZRow W' w.heap.size pv st := h.place.kept hg (fun b hb e => by
    obtain ⟨cur, hc⟩ := h.row.heap hb
    exact h.placeNe hc (by decide) e)
  have hg2 := set_grown W' O 33 v'
  refine ⟨hr.kept2 hg2 (fun b hb => by cases hb; exact hr.ne hi (by decide)), ?_, hp.kept hg2 (fun b hb e => by
    cases hb
    obtain ⟨cur, hc⟩ := hp.cellsAt O e
    rw [hi] at hc; cases hc), ?_, h.hO⟩
  · rw [setCell_heap _ _ hi, icells_set33 hd]
  · exact (h.growBelow h.row.block hg).setCell (p := ⟨O, 33, none⟩) h.hO _
/-- a place appended -/
theorem push (h : RInv w O d mx v out pv st W) {pv' : Value} {st' : List Int} (hr : ZRow W' w.heap.size pv' st') (hg : W.grownBy W' pv.ownBlock) : RInv w O d mx v out pv' st' W' := by
  refine ⟨h.row.kept2 hg (fun b hb e => ?_), ?_, hr, h.growBelow h.place.block hg, h.hO⟩
  · obtain ⟨cur, hc⟩ := h.row.heap e
    exact h.placeNe hc (by decide) hb
  · exact (hg.block O (Array.getElem?_eq_some_iff.1 h.inv).1 (fun e => h.placeNe h.inv (by decide) e.symm)).trans h.inv
end RInv
end Go.Proofs.YtnhfaincdabdkaaGreatDoor
