/-
  Walk: the maker of inventories (law 19).
-/
import Derived.Test.YtoiabbhppbghdaaJT
import Derived.Test.YtoiabbhppbghdaaJN
namespace Go.Proofs.Ytoiabbhppbghdaa
open Go.RowKit

theorem invInfo : (Try.prog.info? 41).map (·.size) = some 34 := by kernel_rfl
theorem icells_size {d : List Int} (hd : d.length = 32) (time : Int) (v : Value) : (icells d time v).size = 34 := by
  unfold icells dcellsL
  simp [hd]
theorem icells_one {d : List Int} {time : Int} {v : Value} (hv : v.oneCell' = true) : (icells d time v).all (·.oneCell') = true := by
  rw [Array.all_eq_true_iff_forall_mem]
  intro u hu
  unfold icells dcellsL at hu
  simp at hu
  rcases hu with ⟨n, _, rfl⟩ | rfl | rfl
  · rfl
  · rfl
  · exact hv
theorem CRow.less {w : World} {N M : Nat} {v : Value} {l : List V.Comp} (h : CRow w N v l) (hM : M ≤ N) : CRow w M v l := by
  obtain ⟨⟨hx, h⟩, hw⟩ := h
  refine ⟨⟨hx, ?_⟩, hw⟩
  rcases h with h | ⟨g, cap, cur, h1, h2, h3⟩
  · exact .inl h
  · exact .inr ⟨g, cap, cur, h1, Nat.le_trans hM h2, h3⟩
theorem Comps.one {w : World} {v : Value} {l : List V.Comp} (h : Comps w v l) : v.oneCell' = true := by
  obtain ⟨a, cap, rfl, _⟩ := h
  rfl

theorem zero_inv : (#[Value.int .u8 0, .int .u8 0, .int .u8 0, .int .u8 0, .int .u8 0, .int .u8 0, .int .u8 0, .int .u8 0, .int .u8 0, .int .u8 0, .int .u8 0, .int .u8 0, .int .u8 0, .int .u8 0, .int .u8 0, .int .u8 0, .int .u8 0, .int .u8 0, .int .u8 0, .int .u8 0, .int .u8 0, .int .u8 0, .int .u8 0, .int .u8 0, .int .u8 0, .int .u8 0, .int .u8 0, .int .u8 0, .int .u8 0, .int .u8 0, .int .u8 0, .int .u8 0, .int .i64 0, .slice none 0 0] : Array Value) = icells zero32 0 (.slice none 0 0) := rfl

theorem lit_inv (r : Int) (v : Value) : (#[Value.int .u8 1, .int .u8 0, .int .u8 0, .int .u8 0, .int .u8 0, .int .u8 0, .int .u8 0, .int .u8 0, .int .u8 0, .int .u8 0, .int .u8 0, .int .u8 0, .int .u8 0, .int .u8 0, .int .u8 0, .int .u8 0, .int .u8 0, .int .u8 0, .int .u8 0, .int .u8 0, .int .u8 0, .int .u8 0, .int .u8 0, .int .u8 0, .int .u8 0, .int .u8 0, .int .u8 0, .int .u8 0, .int .u8 0, .int .u8 0, .int .u8 0, .int .u8 0, .int .i64 r, v] : Array Value) = icells (dig1 1) r v := rfl

/-- an inventory that was made -/
structure InvMade (w : World) (N : Nat) (time : Int) (v : Value) (l : List V.Comp) : Prop where
  time0 : 0 ≤ time
  time9 : time < 9
  len : l.length ≤ 8
  ok : V.compsTo l l.length = true
  row : CRow w N v l
theorem InvMade.valid {w : World} {N : Nat} {time : Int} {v : Value} {l : List V.Comp} (h : InvMade w N time v l) : V.invOk (dig1 1) time l = true := by
  have := h.time0
  have := h.time9
  have := h.len
  rw [inv_rest (by decide) (by omega) (by omega) (by omega)]
  exact h.ok

def MadePost (b k : Nat) (w : World) (e : Ending) (w' : World) : Prop :=
  ∃ (time : Int) (v : Value) (l : List V.Comp), InvMade w' w.heap.size time v l ∧ e = .returned (.agg (icells (dig1 1) time v)) ∧ Tape w' b (k + 50) ∧ w.grownBy w' (some b)

set_option maxRecDepth 100000 in
set_option maxHeartbeats 1600000 in
theorem made_any (b k : Nat) (w : World) (h : Tape w b k) (hk : k ≤ 1000) :
    Calls Try.prog 13 #[.pointer (some ⟨b, 0, none⟩)] w (MadePost b k w) := by
  have HT := Lib.hid h
  have hbw := h.lt
  clear h
  go_enter Try.func13, Try.ntmps13
  go_wp2_with fail
  rw [zero_inv]
  obtain ⟨W0, hW0⟩ : ∃ W0, W0 = w.alloc (.cells (icells zero32 0 (.slice none 0 0)) 41) := ⟨_, rfl⟩
  have hg0 : W0.heap[w.heap.size]? = some (.cells (icells zero32 0 (.slice none 0 0)) 41 (0, 0)) := by rw [hW0]; exact heap_alloc_new w _
  have hz0 : W0.heap.size = w.heap.size + 1 := by rw [hW0]; simp
  have hb0 : Below w.heap.size w W0 := by rw [hW0]; exact (Below.refl _ w).alloc (Nat.le_refl _) _
  rw [← hW0]
  clear hW0
  refine (next_any b k 9 _ (HT.out.below hb0) (by omega) (by omega) (by omega)).mono ?_
  rintro e w1 ⟨r, hr, rfl, ht1, hg1⟩
  have HG1 := Lib.hid (World.grownBy.trans (below_grown hb0 (some b)) hg1)
  have HT1 := Lib.hid ht1
  have hz1 : w.heap.size < w1.heap.size := Nat.lt_of_lt_of_le (by omega) hg1.size
  have HR1 : Hid (w1.heap[w.heap.size]? = some (.cells (icells zero32 0 (.slice none 0 0)) 41 (0, 0))) := Lib.hid ((hg1.block _ (by omega) (by simp; omega)).trans hg0)
  clear hg0 hz0 hb0 ht1 hg1
  go_wp2_with fail
  refine (comps_any b (k + 1) 8 _ HT1.out (by omega) (by omega)).mono ?_
  rintro e w2 ⟨v, l, hl, hto, rfl, hcr, ht2, hg2⟩
  obtain ⟨va, vc, hve, hjunk⟩ := hcr.comps
  subst hve
  clear hjunk
  have hcl : CRow w2 w.heap.size (.slice va l.length vc) l := hcr.less (by omega)
  have HG2 := Lib.hid (World.grownBy.trans HG1.out hg2)
  have HT2 := Lib.hid ht2
  have HR2 := Lib.hid ((hg2.block _ hz1 (by simp; omega)).trans HR1.out)
  have hv1 := hcl.comps.one
  have HC2 : Hid (CRow (w2.setRow w.heap.size (icells (dig1 1) r (.slice va l.length vc))) w.heap.size (.slice va l.length vc) l) := Lib.hid (by
    have hcl2 : CRow w2 (w.heap.size + 1) (.slice va l.length vc) l := hcr.less (by omega)
    exact (hcl2.kept (setRow_grown w2 w.heap.size _) (by intro g e; cases e; omega)).less (by omega))
  have HIN : Hid ((Try.prog.info? 41).map (·.size) = some (icells (dig1 1) r (.slice va l.length vc)).size) := Lib.hid (by rw [invInfo, icells_size rfl])
  have HS : Hid ((icells zero32 0 (.slice none 0 0)).size = (icells (dig1 1) r (.slice va l.length vc)).size) := Lib.hid (by rw [icells_size rfl, icells_size rfl])
  have HO := Lib.hid (icells_one (d := dig1 1) (time := r) hv1)
  have HTO := Lib.hid hto
  clear hcr ht2 hg2 hto hcl hv1
  go_wp2_with (first | ((refine wpList_store_row rfl _ _ _ rfl w.heap.size (icells (dig1 1) r (.slice va l.length vc)) ?hx ?hy 41 _ HR2.out HIN.out HS.out HO.out ?hr); (case hx => rfl); (case hy => exact congrArg Value.agg (lit_inv _ _))) | fail)
  refine bodyPost_ret (v := .agg (icells (dig1 1) r (.slice va l.length vc))) ?_ rfl ⟨r, .slice va l.length vc, l, ⟨by omega, by omega, hl, HTO.out, HC2.out⟩, rfl, ?_, ?_⟩
  · exact results_one Try.results13 rfl (run_loadVar_row _ w.heap.size _ _ _ (0, 0) _ (setRow_heap w2 w.heap.size _ _ _ _ HR2.out) Try.underlying41 rfl HIN.out)
  · exact (HT2.out.grown (setRow_grown w2 w.heap.size _) (by simp; omega) (by intro b' e; cases e; omega)).le (by omega)
  · exact grown_new HG2.out (setRow_grown _ _ _) (Nat.le_refl _)
end Go.Proofs.Ytoiabbhppbghdaa
