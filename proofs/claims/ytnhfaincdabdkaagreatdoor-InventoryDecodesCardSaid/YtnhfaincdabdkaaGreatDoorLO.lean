/-
  What the loop of an inventory's Decode keeps; laws for it.
-/
import Derived.Test.YtnhfaincdabdkaaGreatDoorLL
import Derived.Test.YtnhfaincdabdkaaGreatDoorZE
import Derived.Test.YtnhfaincdabdkaaGreatDoorR3
namespace Go.Proofs.YtnhfaincdabdkaaGreatDoor
open Go.RowKit

/-- what Decode of an inventory returns -/
def DecIPost (b : V.Bs) (w : World) (e : Ending) (w' : World) : Prop :=
  ∃ v, e = .returned (.tuple #[.agg (icells (V.decI b).1 (V.decI b).2.1 v), .int .i64 (V.decI b).2.2.2]) ∧ Comps w' v (V.decI b).2.2.1 ∧ Below w.heap.size w w'
/-- what its loop keeps: block N0 is the result's, block O the inventory's; V0 is the world before the loop -/
structure DInv (V0 : World) (N0 O : Nat) (d : List Int) (mx : Int) (v : Value) (out : List V.Comp) (W : World) : Prop where
  row : CRow W O v out
  inv : W.heap[O]? = some (.cells (icells d mx v) 27 (0, 0))
  zero : W.heap[N0]? = some (.cells (icells zero32 0 (.slice none 0 0)) 27 (0, 0))
  old : Below O V0 W
  base : N0 + 1 ≤ O
namespace DInv
variable {V0 : World} {N0 O : Nat} {d : List Int} {mx : Int} {v : Value} {out : List V.Comp} {W W' : World}
theorem lt (h : DInv V0 N0 O d mx v out W) : O < W.heap.size := (Array.getElem?_eq_some_iff.1 h.inv).1
/-- a call -/
theorem call (h : DInv V0 N0 O d mx v out W) (hb : Below W.heap.size W W') : DInv V0 N0 O d mx v out W' := by
  have hg := below_grown hb none
  have hlt := h.lt
  exact ⟨h.row.kept2 hg (fun b e => by cases e), (hb.block O hlt).trans h.inv, (hb.block _ (by have := h.base; omega)).trans h.zero, h.old.trans (hb.mono (by omega)), h.base⟩
theorem alloc (h : DInv V0 N0 O d mx v out W) (o : Obj) : DInv V0 N0 O d mx v out (W.alloc o) := h.call ((Below.refl _ W).alloc (Nat.le_refl _) o)
/-- a component appended -/
theorem append (hd : d.length = 32) (h : DInv V0 N0 O d mx v out W) {v' : Value} {out' : List V.Comp} (hr : CRow W' O v' out') (hg : W.grownBy W' v.ownBlock) : DInv V0 N0 O d mx v' out' (W'.setCell ⟨O, 33, none⟩ v') := by
  have hblk := h.row.block
  have hl : ∀ k, k < W.heap.size → v.ownBlock ≠ some k → W'.heap[k]? = W.heap[k]? := fun k hk hb => hg.block k hk (fun e => hb e.symm)
  have hi : W'.heap[O]? = _ := (hl O (Array.getElem?_eq_some_iff.1 h.inv).1 (h.row.ne h.inv (by decide))).trans h.inv
  have hz : W'.heap[N0]? = _ := (hl _ (Array.getElem?_eq_some_iff.1 h.zero).1 (h.row.ne h.zero (by decide))).trans h.zero
  have hg2 := set_grown W' O 33 v'
  have hl2 : ∀ k, k < W'.heap.size → k ≠ O → (W'.setCell ⟨O, 33, none⟩ v').heap[k]? = W'.heap[k]? := fun k hk hb => hg2.block k hk (fun e => by cases e; exact hb rfl)
  refine ⟨hr.kept2 hg2 (fun b hb => by cases hb; exact hr.ne hi (by decide)), ?_, ?_, ?_, h.base⟩
  · rw [setCell_heap _ _ hi, icells_set33 hd]
  · rw [hl2 _ (Array.getElem?_eq_some_iff.1 hz).1 (by have := h.base; omega)]; exact hz
  · have hsz := h.lt
    have hbs := h.base
    refine (h.old.trans ⟨hg.os, hg.tape, hg.output, hg.size, fun k hk => hl k (by omega) (fun e => by have := hblk k e; omega)⟩).trans ⟨hg2.os, hg2.tape, hg2.output, hg2.size, fun k hk => hl2 k (by have := hg.size; omega) (by omega)⟩
theorem invCell (hd : d.length = 32) (h : DInv V0 N0 O d mx v out W) : W.cell? ⟨O, 33, none⟩ = some v := by
  rw [cell_of_row W O 33 _ _ _ h.inv]; exact icells_33 hd mx v
theorem invKept (h : DInv V0 N0 O d mx v out W) (hg : W.grownBy W' v.ownBlock) : W'.heap[O]? = some (.cells (icells d mx v) 27 (0, 0)) :=
  (hg.block O (Array.getElem?_eq_some_iff.1 h.inv).1 (fun e => h.row.ne h.inv (by decide) e.symm)).trans h.inv
end DInv
/-- the result's block behind the call -/
theorem below_setRow0 {w W : World} (h : Below w.heap.size w W) (cs : Array Value) (hlt : w.heap.size < W.heap.size) : Below w.heap.size w (W.setRow w.heap.size cs) :=
  h.trans (grown_below (setRow_grown W w.heap.size cs) (Nat.le_refl _) (by omega))
set_option maxRecDepth 100000 in
theorem built_inv2' (f : Nat → Int) (time : Int) : Tryz.prog.built 27 [(0, .agg (dcells ((List.range 32).map f))), (1, .int .i64 time)] = some (icells ((List.range 32).map f) time (.slice none 0 0)) := by kernel_rfl
theorem built_inv2 {d : List Int} (hd : d.length = 32) (time : Int) : Tryz.prog.built 27 [(0, .agg (dcells d)), (1, .int .i64 time)] = some (icells d time (.slice none 0 0)) := by
  rw [range32 hd]; exact built_inv2' _ _
/-- at the operation: an inventory built of its head -/
theorem wl_buildI {ops : Array Oper} {rest : List Oper} {o : Oper} {a : Act} {w : World} {Q : Exit → Act → World → Prop} (hgd : o.guard = none) (x y : Operand) (ho : o.op = .build 27 #[(0, x), (1, y)])
    {d : List Int} (hd : d.length = 32) (hx : a.eval x = .agg (dcells d)) (t : Int) (hy : a.eval y = .int .i64 t)
    (h : wpList Tryz.prog ops Q rest (a.put o.dst (.agg (icells d t (.slice none 0 0)))) w) : wpList Tryz.prog ops Q (o :: rest) a w :=
  wpList_plain hgd fun K hK => by
    unfold Oper.wp
    rw [ex_build (parts := #[(0, x), (1, y)]) ho (by
      simp only [List.map_toArray, List.map_cons, List.map_nil, hx, hy]; exact built_inv2 hd t)]
    exact hK _ _ h
/-- a component stored into a new block -/
theorem wl_storeC {ops : Array Oper} {rest : List Oper} {o : Oper} {a : Act} {w : World} {Q : Exit → Act → World → Prop} (hgd : o.guard = none) (x y : Operand) (ho : o.op = .store 88 x y)
    (old : Array Value) (t : TypeId) (hx : a.eval x = .pointer (some ⟨w.heap.size, 0, none⟩)) (c : V.Comp) (hc : CompWf c) (hy : a.eval y = .agg (ccells c)) (h36 : old.size = 36)
    (h : wpList Tryz.prog ops Q rest (a.put o.dst undef) (w.alloc (.cells (ccells c) t))) : wpList Tryz.prog ops Q (o :: rest) a (w.alloc (.cells old t)) := by
  refine wpList_store_row hgd _ x y ho w.heap.size (ccells c) hx hy t old (heap_alloc_new w _) (by rw [compInfo, hc.size]) (by rw [h36, hc.size]) comp_one ?_
  rw [set_new]; exact h
/-- an inventory stored into a new block -/
theorem wl_storeIN {ops : Array Oper} {rest : List Oper} {o : Oper} {a : Act} {w : World} {Q : Exit → Act → World → Prop} (hgd : o.guard = none) (x y : Operand) (ho : o.op = .store 27 x y)
    (old : Array Value) (t : TypeId) (hx : a.eval x = .pointer (some ⟨w.heap.size, 0, none⟩)) (d : List Int) (tm : Int) (v : Value) (hd : d.length = 32) (hv : v.oneCell' = true) (hy : a.eval y = .agg (icells d tm v)) (h34 : old.size = 34)
    (h : wpList Tryz.prog ops Q rest (a.put o.dst undef) (w.alloc (.cells (icells d tm v) t))) : wpList Tryz.prog ops Q (o :: rest) a (w.alloc (.cells old t)) := by
  refine wpList_store_row hgd _ x y ho w.heap.size (icells d tm v) hx hy t old (heap_alloc_new w _) (by rw [invInfo, icells_size hd]) (by rw [h34, icells_size hd]) (icells_one hv) ?_
  rw [set_new]; exact h
/-- a line of a document -/
theorem Lines.at {w : World} {a : Option Addr} {n cap : Nat} {ls : List (List V.Bs)} (h : Lines w (.slice a n cap) ls) (j : Nat) (hj : j < ls.length) : ∃ b off u, a = some ⟨b, off, none⟩ ∧ b < w.heap.size ∧ w.cell? ⟨b, off + j, none⟩ = some u ∧ Strs w u ls[j] := by
  obtain ⟨a', c, e, hc⟩ := h
  cases e
  exact hc j hj
/-- the lines behind the first one -/
theorem lines_part {w : World} {B off cap m : Nat} {l0 : List V.Bs} {rest : List (List V.Bs)} (h : Lines w (.slice (some ⟨B, off, none⟩) m cap) (l0 :: rest)) (hm : m = rest.length + 1) (hc : m ≤ cap) :
    ∃ o', (if cap = 1 then some (⟨B, off, none⟩ : Addr) else some ⟨B, off + 1, none⟩) = some ⟨B, o', none⟩ ∧ ∀ j (hj : j < rest.length), ∃ u, w.cell? ⟨B, o' + j, none⟩ = some u ∧ Strs w u rest[j] := by
  by_cases h1 : cap = 1
  · refine ⟨off, if_pos h1, fun j hj => by omega⟩
  · refine ⟨off + 1, if_neg h1, fun j hj => ?_⟩
    obtain ⟨b, o, u, e, _, hu, hs⟩ := h.at (j + 1) (by simp; omega)
    cases e
    refine ⟨u, ?_, by simpa using hs⟩
    rw [Nat.add_assoc, Nat.add_comm 1 j]
    exact hu
/-- words within the limits -/
theorem V.decP_words {bs : V.Bs} : ∀ l ∈ (V.decP bs).1, ∀ x ∈ l, x.length ≤ 32768 := by
  intro l hl x hx
  unfold V.decP at hl
  split at hl
  · simp at hl
  · split at hl
    · rename_i ls hls
      split at hl
      · simp only at hl
        have hp : ∀ (r : List V.Bs) (ls : List (List V.Bs)), V.linesT r = some ls → ∀ l ∈ ls, V.chk l = 0 := by
          intro r
          induction r with
          | nil => intro ls h; simp [V.linesT] at h
          | cons x t ih =>
            intro ls h
            by_cases ht : t = []
            · subst ht
              unfold V.linesT at h
              split at h
              · cases h; intro l hl; simp at hl
              · cases h
            · rw [V.linesT_cons ht] at h
              split at h
              · cases h
              · rename_i l0 _
                split at h
                · rename_i hc
                  rw [Option.map_eq_some_iff] at h
                  obtain ⟨ls', h1, rfl⟩ := h
                  intro l hl
                  rcases List.mem_cons.1 hl with rfl | hl
                  · exact hc
                  · exact ih _ h1 l hl
                · cases h
        exact (V.chk_zero.1 (hp _ _ hls l hl)).2.2 x hx
      · simp at hl
    · simp at hl
theorem V.decP_len (bs : V.Bs) : (V.decP bs).1.length ≤ 1000 := by
  unfold V.decP
  split
  · simp
  · split
    · split
      · assumption
      · simp
    · simp
theorem strs_at3 {w : World} {v : Value} {a d t : V.Bs} (h : Strs w v [a, d, t]) : ∃ b off cap, v = .slice (some ⟨b, off, none⟩) 3 cap ∧ b < w.heap.size ∧ w.cell? ⟨b, off, none⟩ = some (.string ⟨a.toArray⟩) ∧ w.cell? ⟨b, off + 1, none⟩ = some (.string ⟨d.toArray⟩) ∧ w.cell? ⟨b, off + 2, none⟩ = some (.string ⟨t.toArray⟩) := by
  obtain ⟨va, cap, rfl, hat⟩ := h
  obtain ⟨b, off, rfl, hlt, h0⟩ := hat 0 (by simp)
  have hk : ∀ j (hj : j < [a, d, t].length), w.cell? ⟨b, off + j, none⟩ = some (.string ⟨([a, d, t][j]).toArray⟩) := fun j hj => by
    obtain ⟨b', off', e, _, hc⟩ := hat j hj
    cases e
    exact hc
  exact ⟨b, off, cap, rfl, hlt, h0, hk 1 (by simp), hk 2 (by simp)⟩
theorem three_words {l : List V.Bs} (h : l.length = 3) : ∃ a d t, l = [a, d, t] := by
  match l, h with
  | [a, d, t], _ => exact ⟨a, d, t, rfl⟩
end Go.Proofs.YtnhfaincdabdkaaGreatDoor
