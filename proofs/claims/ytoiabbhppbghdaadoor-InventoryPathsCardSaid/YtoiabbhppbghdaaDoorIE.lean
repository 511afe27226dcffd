/-
  Walk: inventory.Merge.
-/
import Derived.Test.YtoiabbhppbghdaaDoorIF
import Derived.Test.YtoiabbhppbghdaaDoorJX
import Derived.Test.YtoiabbhppbghdaaDoorJN
import Derived.Test.YtoiabbhppbghdaaDoorJW
import Derived.OrdersHeld
namespace Go.Proofs.YtoiabbhppbghdaaDoor
open Go.RowKit

/-- at the operation: an inventory loaded -/
theorem wl_loadV {ops : Array Oper} {rest : List Oper} {o : Oper} {a : Act} {w : World} {Q : Exit → Act → World → Prop} (hgd : o.guard = none) (x : Operand) (ho : o.op = .load 26 x)
    (g : Nat) (hx : a.eval x = .pointer (some ⟨g, 0, none⟩)) (cs : Array Value) (hcs : cs.size = 34) (hgr : w.heap[g]? = some (.cells cs 26 (0, 0)))
    (h : wpList Tryd.prog ops Q rest (a.put o.dst (.agg cs)) w) : wpList Tryd.prog ops Q (o :: rest) a w :=
  wpList_load_row hgd _ x ho g hx _ cs (0, 0) _ hgr Tryd.underlying26 rfl (by rw [invInfo, hcs]) h
/-- at the operation: an inventory stored -/
theorem wl_storeV {ops : Array Oper} {rest : List Oper} {o : Oper} {a : Act} {w : World} {Q : Exit → Act → World → Prop} (hgd : o.guard = none) (x y : Operand) (ho : o.op = .store 26 x y)
    (g : Nat) (old : Array Value) (t : TypeId) (hg : w.heap[g]? = some (.cells old t (0, 0))) (hx : a.eval x = .pointer (some ⟨g, 0, none⟩)) (d : List Int) (time : Int) (v : Value) (hd : d.length = 32) (hv : v.oneCell' = true) (hy : a.eval y = .agg (icells d time v)) (ho34 : old.size = 34)
    (h : wpList Tryd.prog ops Q rest (a.put o.dst undef) (w.setRow g (icells d time v))) : wpList Tryd.prog ops Q (o :: rest) a w :=
  wpList_store_row hgd _ x y ho g (icells d time v) hx hy t old hg (by rw [invInfo, icells_size hd]) (by rw [ho34, icells_size hd]) (icells_one hv) h
/-- at an operation whose guard holds: an inventory loaded -/
theorem wg_loadI {ops : Array Oper} {rest : List Oper} {o : Oper} {a : Act} {w : World} {Q : Exit → Act → World → Prop} (hw : Region.wanted o (yielded ops a.tmps) = true) (x : Operand) (ho : o.op = .load 26 x)
    (g : Nat) (hx : a.eval x = .pointer (some ⟨g, 0, none⟩)) (cs : Array Value) (hcs : cs.size = 34) (hgr : w.heap[g]? = some (.cells cs 26 (0, 0)))
    (h : wpList Tryd.prog ops Q rest (a.put o.dst (.agg cs)) w) : wpList Tryd.prog ops Q (o :: rest) a w :=
  wl_wanted hw fun _ hK => wp_load_row _ x ho g hx _ cs (0, 0) _ hgr Tryd.underlying26 rfl (by rw [invInfo, hcs]) (hK _ _ h)
theorem ex_load {P : Program} {o : Oper} {ev : Operand → Value} {w : World} {ty : TypeId} {x : Operand} {p v : Value} (ho : o.op = .load ty x) (hx : ev x = p) (h : (Instr.loadAt ty p).run P w = .ok v w) : (execOp ev o).run P w = .ok (.value v) w := by
  unfold execOp
  simp only [ho, hx, Sem.run_bind, h, Result.andThen_ok, Sem.run_pure]
theorem load_dig {d : List Int} (hd : d.length = 32) {w : World} {b o : Nat} (h : w.rangeAt b o (dcellsL d)) : (Instr.loadAt 23 (.pointer (some ⟨b, o, none⟩))).run Tryd.prog w = .ok (.agg (dcells d)) w :=
  run_loadAt_mid w b o _ (dcellsL d) _ h Tryd.underlying23 rfl (by rw [digInfo]; unfold dcellsL; simp [hd])
theorem ex_build {P : Program} {o : Oper} {ev : Operand → Value} {w : World} {t : TypeId} {parts : Array (Nat × Operand)} {cells : Array Value} (ho : o.op = .build t parts) (h : P.built t (parts.map fun (i, x) => (i, ev x)).toList = some cells) : (execOp ev o).run P w = .ok (.value (.agg cells)) w := by
  unfold execOp
  simp only [ho, Sem.run_bind, run_build w t _ cells h, Result.andThen_ok, Sem.run_pure]
theorem range32 {d : List Int} (hd : d.length = 32) : d = (List.range 32).map fun i => d.getD i 0 := by
  apply List.ext_getElem
  · simp [hd]
  · intro i h1 h2
    simp [List.getD, List.getElem?_eq_getElem h1]
set_option maxRecDepth 100000 in
theorem built_inv' (f : Nat → Int) (time : Int) (a : Option Addr) (n c : Nat) : Tryd.prog.built 26 [(0, .agg (dcells ((List.range 32).map f))), (1, .int .i64 time), (2, .slice a n c)] = some (icells ((List.range 32).map f) time (.slice a n c)) := by kernel_rfl
theorem built_inv {d : List Int} (hd : d.length = 32) (time : Int) (a : Option Addr) (n c : Nat) : Tryd.prog.built 26 [(0, .agg (dcells d)), (1, .int .i64 time), (2, .slice a n c)] = some (icells d time (.slice a n c)) := by
  rw [range32 hd]; exact built_inv' _ _ _ _ _
/-- a new inventory, as a step of a region that draws -/
theorem step_allocV {ops : Array Oper} {o : Oper} {a : Act} {w : World} {K : Act → World → Prop} {Q : Exit → Act → World → Prop} {E : Prop} (hgd : o.guard = none) (ho : o.op = .alloc 26)
    (h : K (a.put o.dst (.pointer (some ⟨w.heap.size, 0, none⟩))) (w.alloc (.cells (icells zero32 0 (.slice none 0 0)) 26))) :
    if Region.wanted o (yielded ops a.tmps) = true then Oper.wp Tryd.prog o a w K Q else E := by
  rw [if_pos (by simp [Region.wanted, hgd])]
  rw [← zero_inv] at h
  obtain ⟨dst, op, ty, ps, af, gd⟩ := o
  simp only at ho
  subst ho
  simp only at h
  generalize hK' : (fun (a' : Act) (w' : World) => K a' w') = K' at *
  subst hK'
  go_simp
  exact h
/-- .. stored into it -/
theorem step_storeV {ops : Array Oper} {o : Oper} {a : Act} {w : World} {K : Act → World → Prop} {Q : Exit → Act → World → Prop} {E : Prop} (hgd : o.guard = none) (x y : Operand) (ho : o.op = .store 26 x y)
    (g : Nat) (old : Array Value) (t : TypeId) (hg : w.heap[g]? = some (.cells old t (0, 0))) (hx : a.eval x = .pointer (some ⟨g, 0, none⟩)) (d : List Int) (time : Int) (v : Value) (hd : d.length = 32) (hv : v.oneCell' = true) (hy : a.eval y = .agg (icells d time v)) (ho34 : old.size = 34)
    (h : K (a.put o.dst undef) (w.setRow g (icells d time v))) :
    if Region.wanted o (yielded ops a.tmps) = true then Oper.wp Tryd.prog o a w K Q else E := by
  rw [if_pos (by simp [Region.wanted, hgd])]
  exact wp_store_row _ x y ho g (icells d time v) hx hy t old hg (by rw [invInfo, icells_size hd]) (by rw [ho34, icells_size hd]) (icells_one hv) h
def MergePost (d : List Int) (t : Int) (l : List V.Comp) (d' : List Int) (t' : Int) (l' : List V.Comp) (w : World) (e : Ending) (w' : World) : Prop :=
  ∃ v, e = .returned (.tuple #[.agg (icells (V.mergeVal d t l d' t' l').1 (V.mergeVal d t l d' t' l').2.1 v), .int .i64 (V.mergeErr d t l d' t' l')]) ∧ Comps w' v (V.mergeVal d t l d' t' l').2.2 ∧ Below w.heap.size w w'

set_option maxRecDepth 100000 in
set_option maxHeartbeats 3200000 in
theorem merge_any (d : List Int) (t : Int) (v : Value) (l : List V.Comp) (d' : List Int) (t' : Int) (v' : Value) (l' : List V.Comp) (w : World) (hm : MaxOk w)
    (hd : d.length = 32) (hdw : ∀ n ∈ d, (Lit.int .u8 n).wf = true) (hv : Comps w v l) (hl : l.length ≤ 100000)
    (hd' : d'.length = 32) (hdw' : ∀ n ∈ d', (Lit.int .u8 n).wf = true) (hv' : Comps w v' l') (hl' : l'.length ≤ 100000) :
    Calls Tryd.prog 21 #[.agg (icells d t v), .agg (icells d' t' v')] w (MergePost d t l d' t' l' w) := by
  have HM := Lib.hid hm
  have HL := Lib.hid hv
  have HL' := Lib.hid hv'
  have HSZ := Lib.hid (icells_size hd t v)
  have HSZ' := Lib.hid (icells_size hd' t' v')
  have HD := Lib.hid (And.intro hd hdw)
  have HD' := Lib.hid (And.intro hd' hdw')
  obtain ⟨W0, hW0⟩ : ∃ W0, W0 = ((w.alloc (.cells (icells d t v) 26)).alloc (.cells (icells d' t' v') 26)).alloc (.cells (icells zero32 0 (.slice none 0 0)) 26) := ⟨_, rfl⟩
  have hsz : W0.heap.size = w.heap.size + 3 := by rw [hW0]; simp
  have HB0 : Hid (Below w.heap.size w W0) := Lib.hid (by
    rw [hW0]; exact (((Below.refl _ w).alloc (Nat.le_refl _) _).alloc (by simp) _).alloc (by simp; omega) _)
  have HG0 : Hid (W0.heap[w.heap.size]? = some (.cells (icells d t v) 26 (0, 0))) := Lib.hid (by
    rw [hW0, Below.heap_alloc _ _ _ (by simp; omega), Below.heap_alloc _ _ _ (by simp)]; exact heap_alloc_new w _)
  have HG1 : Hid (W0.heap[w.heap.size + 1]? = some (.cells (icells d' t' v') 26 (0, 0))) := Lib.hid (by
    rw [hW0, Below.heap_alloc _ _ _ (by simp)]; have := heap_alloc_new (w.alloc (.cells (icells d t v) 26)) (.cells (icells d' t' v') 26); simpa using this)
  have HG2 : Hid (W0.heap[w.heap.size + 1 + 1]? = some (.cells (icells zero32 0 (.slice none 0 0)) 26 (0, 0))) := Lib.hid (by
    rw [hW0]; have := heap_alloc_new ((w.alloc (.cells (icells d t v) 26)).alloc (.cells (icells d' t' v') 26)) (.cells (icells zero32 0 (.slice none 0 0)) 26); simpa using this)
  clear hm hd hdw hv hd' hdw' hv'
  go_enter Tryd.func21, Tryd.ntmps21
  have HZ0 : Hid ((icells zero32 0 (.slice none 0 0)).size = 34) := Lib.hid (icells_size rfl _ _)
  have HEX : Hid (∀ (k : Int) (W : World), V.mergeErr d t l d' t' l' = k → ¬ k = 0 → Below w.heap.size w W → W.heap[w.heap.size + 1 + 1]? = some (.cells (icells zero32 0 (.slice none 0 0)) 26 (0, 0)) →
      ∀ fn : Func, fn.results = #[.cell 4 26, .tmp 5] → ∀ a : Act, a.tmps.getD 4 undef = .pointer (some ⟨w.heap.size + 1 + 1, 0, none⟩) → a.tmps.getD 5 undef = .int .i64 k → a.defers = [] →
      bodyPost Tryd.prog fn (MergePost d t l d' t' l' w) .ret a W) := Lib.hid (by
    intro k W hk hk0 hb hg fn hfn a h4 h5 h6
    refine bodyPost_ret (results_two hfn h4 h5 (run_loadVar_row _ _ _ _ _ (0, 0) _ hg Tryd.underlying26 rfl (by rw [invInfo, HZ0.out]))) h6 ?_
    have hv : V.mergeVal d t l d' t' l' = (zero32, 0, []) := by unfold V.mergeVal; rw [if_neg (by rw [hk]; exact hk0)]
    refine ⟨.slice none 0 0, ?_, ?_, hb⟩
    · rw [hv, hk]
    · rw [hv]; exact Comps.nil _)
  go_wp2_with (first | (rw [zero_inv, ← hW0]; clear hW0; refine wl_loadV rfl _ rfl w.heap.size rfl (icells d t v) HSZ.out HG0.out ?_) | fail)
  refine (valid19_any d t v l _ (HM.out.below HB0.out) HD.out.1 HD.out.2 (HL.out.below (HB0.out.mono (Nat.le_refl _))) (by unfold maxLen; omega)).mono ?_
  rintro e w1 ⟨rfl, hb1⟩
  have HB1 := Lib.hid (HB0.out.trans (hb1.mono HB0.out.size))
  have hz1 : w.heap.size + 3 ≤ w1.heap.size := by have := hb1.size; omega
  have HG01 := Lib.hid ((hb1.block _ (by omega)).trans HG0.out)
  have HG11 := Lib.hid ((hb1.block _ (by omega)).trans HG1.out)
  have HG21 := Lib.hid ((hb1.block _ (by omega)).trans HG2.out)
  clear hb1
  rcases hok : V.invOk d t l with _ | _
  · have HER : Hid (V.mergeErr d t l d' t' l' = 1) := Lib.hid (by unfold V.mergeErr; rw [if_neg (by rw [hok]; simp)])
    have HS1 := Lib.hid (setRow_heap w1 _ _ (icells zero32 0 (.slice none 0 0)) _ _ HG21.out)
    have HSB1 : Hid (Below w.heap.size w (w1.setRow (w.heap.size + 1 + 1) (icells zero32 0 (.slice none 0 0)))) := Lib.hid (HB1.out.trans (grown_below (setRow_grown w1 _ _) (by omega) (by omega)))
    clear hok
    go_wp2_with (first | (refine wl_storeV rfl _ _ rfl _ _ _ HG21.out rfl zero32 0 (.slice none 0 0) rfl rfl rfl HZ0.out ?_) | fail)
    exact HEX.out 1 _ HER.out (by decide) HSB1.out HS1.out _ Tryd.results21 _ rfl rfl rfl
  · go_wp2_with (first | (refine wg_loadI rfl _ rfl (w.heap.size + 1) rfl (icells d' t' v') HSZ'.out HG11.out ?_) | fail)
    refine (valid19_any d' t' v' l' _ (HM.out.below HB1.out) HD'.out.1 HD'.out.2 (HL'.out.below (HB1.out.mono (Nat.le_refl _))) (by unfold maxLen; omega)).mono ?_
    rintro e w2 ⟨rfl, hb2⟩
    have HB2 := Lib.hid (HB1.out.trans (hb2.mono HB1.out.size))
    have hz2 : w.heap.size + 3 ≤ w2.heap.size := by have := hb2.size; omega
    have HG02 := Lib.hid ((hb2.block _ (by omega)).trans HG01.out)
    have HG12 := Lib.hid ((hb2.block _ (by omega)).trans HG11.out)
    have HG22 := Lib.hid ((hb2.block _ (by omega)).trans HG21.out)
    clear hb2 hz1 HG01 HG11 HG21 HG0 HG1 HG2
    rcases hok2 : V.invOk d' t' l' with _ | _
    · have HER : Hid (V.mergeErr d t l d' t' l' = 1) := Lib.hid (by unfold V.mergeErr; rw [if_neg (by rw [hok2]; simp)])
      have HS1 := Lib.hid (setRow_heap w2 _ _ (icells zero32 0 (.slice none 0 0)) _ _ HG22.out)
      have HSB1 : Hid (Below w.heap.size w (w2.setRow (w.heap.size + 1 + 1) (icells zero32 0 (.slice none 0 0)))) := Lib.hid (HB2.out.trans (grown_below (setRow_grown w2 _ _) (by omega) (by omega)))
      clear hok hok2
      go_wp2_with (first | (refine wl_storeV rfl _ _ rfl _ _ _ HG22.out rfl zero32 0 (.slice none 0 0) rfl rfl rfl HZ0.out ?_) | fail)
      exact HEX.out 1 _ HER.out (by decide) HSB1.out HS1.out _ Tryd.results21 _ rfl rfl rfl
    · have HR := Lib.hid (inv_range HD.out.1 HG02.out)
      have HR' := Lib.hid (inv_range HD'.out.1 HG12.out)
      have HI : Hid ((Tryd.prog.info? 23).map (·.size) = some (dcellsL d).length) := Lib.hid (by rw [digInfo]; unfold dcellsL; simp [HD.out.1])
      have HI' : Hid ((Tryd.prog.info? 23).map (·.size) = some (dcellsL d').length) := Lib.hid (by rw [digInfo]; unfold dcellsL; simp [HD'.out.1])
      have HQ : Hid (∀ w, (Op.equalIn 10000 23 (.agg (dcells d)) (.agg (dcells d'))).run Tryd.prog w = .ok (decide (d = d')) w) := Lib.hid (fun w => eq_dig HD.out.1 HD.out.2 HD'.out.1 HD'.out.2 w)
      rcases hdd : decide (d = d') with _ | _
      · have HER : Hid (V.mergeErr d t l d' t' l' = 9) := Lib.hid (by unfold V.mergeErr; rw [if_pos ⟨hok, hok2⟩, if_neg (of_decide_eq_false hdd)])
        rw [hdd] at HQ
        have HS1 := Lib.hid (setRow_heap w2 _ _ (icells zero32 0 (.slice none 0 0)) _ _ HG22.out)
        have HSB1 : Hid (Below w.heap.size w (w2.setRow (w.heap.size + 1 + 1) (icells zero32 0 (.slice none 0 0)))) := Lib.hid (HB2.out.trans (grown_below (setRow_grown w2 _ _) (by omega) (by omega)))
        clear hok hok2 hdd
        go_wp2_with (first | (refine wpList_load_mid rfl 23 _ rfl w.heap.size 0 rfl (dcellsL d) _ HR.out Tryd.underlying23 rfl HI.out ?_) | (refine wpList_load_mid rfl 23 _ rfl (w.heap.size + 1) 0 rfl (dcellsL d') _ HR'.out Tryd.underlying23 rfl HI'.out ?_) | (refine wl_neq rfl 23 23 _ _ rfl (dcells d) (dcells d') rfl rfl guard_dig false (HQ.out _) ?_) | (refine wl_storeV rfl _ _ rfl _ _ _ HG22.out rfl zero32 0 (.slice none 0 0) rfl rfl rfl HZ0.out ?_) | fail)
        exact HEX.out 9 _ HER.out (by decide) HSB1.out HS1.out _ Tryd.results21 _ rfl rfl rfl
      · obtain rfl : d = d' := of_decide_eq_true hdd
        have HER : Hid (V.mergeErr d t l d t' l' = if 128 < (V.mergeL l l').length then 3 else 0) := Lib.hid (by unfold V.mergeErr; rw [if_pos ⟨hok, hok2⟩, if_pos rfl])
        rw [hdd] at HQ
        have HO1 : Hid (V.compsTo l l.length = true ∧ l.length ≤ 128 ∧ 0 ≤ t ∧ t ≤ 1099511627776) := Lib.hid (V.invOk_parts hok)
        have HO2 : Hid (V.compsTo l' l'.length = true ∧ l'.length ≤ 128 ∧ 0 ≤ t' ∧ t' ≤ 1099511627776) := Lib.hid (V.invOk_parts hok2)
        clear hok hok2 hdd
        go_wp2_with (first | (refine wpList_load_mid rfl 23 _ rfl w.heap.size 0 rfl (dcellsL d) _ HR.out Tryd.underlying23 rfl HI.out ?_) | (refine wpList_load_mid rfl 23 _ rfl (w.heap.size + 1) 0 rfl (dcellsL d) _ HR'.out Tryd.underlying23 rfl HI'.out ?_) | (refine wl_neq rfl 23 23 _ _ rfl (dcells d) (dcells d) rfl rfl guard_dig true (HQ.out _) ?_) | fail)
        have hc0 : w2.cell? ⟨w.heap.size, 32, none⟩ = some (.int .i64 t) := by rw [cell_of_row w2 _ 32 _ _ _ HG02.out]; exact icells_32 HD.out.1 t v
        have hc1 : w2.cell? ⟨w.heap.size + 1, 32, none⟩ = some (.int .i64 t') := by rw [cell_of_row w2 _ 32 _ _ _ HG12.out]; exact icells_32 HD.out.1 t' v'
        have hc2 : w2.cell? ⟨w.heap.size, 33, none⟩ = some v := by rw [cell_of_row w2 _ 33 _ _ _ HG02.out]; exact icells_33 HD.out.1 t v
        refine wp_region_held (S := fun W => Below w2.heap.size w2 W) (by kernel_rfl) ?_
        have hS0 : Below w2.heap.size w2 w2.drew := (Below.refl _ w2).drew
        change wpAnyH _ _ _ _ _ _ _ _ (World.drew _)
        have HC3 := Lib.hid ((HL.out.below HB2.out).below hS0)
        generalize w2.drew = w3 at *
        obtain ⟨mx, hmx⟩ : ∃ mx, mx = max t t' := ⟨_, rfl⟩
        refine wpAnyH_take (i := 0) (v := .pointer (some ⟨w.heap.size, 0, none⟩)) rfl (by kernel_rfl) (by kernel_rfl) (by kernel_rfl) (fun _ _ _ h => h) (Or.inl ⟨by rfl, fun w _ => by go_simp⟩) hS0 ?_
        refine wpAnyH_take (i := 2) (v := .pointer (some ⟨w.heap.size, 32, none⟩)) rfl (by kernel_rfl) (by kernel_rfl) (by kernel_rfl) (fun _ _ _ h => h) (Or.inl ⟨by rfl, fun w _ => by go_simp⟩) hS0 ?_
        refine wpAnyH_take (i := 4) (v := .pointer (some ⟨w.heap.size + 1, 32, none⟩)) rfl (by kernel_rfl) (by kernel_rfl) (by kernel_rfl) (fun _ _ _ h => h) (Or.inl ⟨by rfl, fun w _ => by go_simp⟩) hS0 ?_
        refine wpAnyH_take (i := 7) (v := .pointer (some ⟨w.heap.size, 33, none⟩)) rfl (by kernel_rfl) (by kernel_rfl) (by kernel_rfl) (fun _ _ _ h => h) (Or.inl ⟨by rfl, fun w _ => by go_simp⟩) hS0 ?_
        simp only [List.getElem_toArray, List.getElem_cons_succ, List.getElem_cons_zero, Act.put, List.setIfInBounds_toArray, List.set_cons_succ, List.set_cons_zero]
        refine wpAnyH_take (i := 1) (v := .agg (dcells d)) rfl (by kernel_rfl) (by kernel_rfl) (by kernel_rfl) (fun _ _ _ h => h) (Or.inl ⟨by rfl, fun W hS => ex_load rfl rfl (load_dig HD.out.1 (fun i u hu => (hS.cell (p := ⟨w.heap.size, 0 + i, none⟩) (show w.heap.size < w2.heap.size by omega)).trans (HR.out i u hu)))⟩) hS0 ?_
        refine wpAnyH_take (i := 3) (v := .int .i64 t) rfl (by kernel_rfl) (by kernel_rfl) (by kernel_rfl) (fun _ _ _ h => h) (Or.inl ⟨by rfl, fun W hS => by
          have hx := (hS.cell (p := ⟨w.heap.size, 32, none⟩) (show w.heap.size < w2.heap.size by omega)).trans hc0
          go_simp⟩) hS0 ?_
        refine wpAnyH_take (i := 5) (v := .int .i64 t') rfl (by kernel_rfl) (by kernel_rfl) (by kernel_rfl) (fun _ _ _ h => h) (Or.inl ⟨by rfl, fun W hS => by
          have hx := (hS.cell (p := ⟨w.heap.size + 1, 32, none⟩) (show w.heap.size + 1 < w2.heap.size by omega)).trans hc1
          go_simp⟩) hS0 ?_
        refine wpAnyH_take (i := 8) (v := v) rfl (by kernel_rfl) (by kernel_rfl) (by kernel_rfl) (fun _ _ _ h => h) (Or.inl ⟨by rfl, fun W hS => by
          have hx := (hS.cell (p := ⟨w.heap.size, 33, none⟩) (show w.heap.size < w2.heap.size by omega)).trans hc2
          go_simp⟩) hS0 ?_
        simp only [List.getElem_toArray, List.getElem_cons_succ, List.getElem_cons_zero, Act.put, List.setIfInBounds_toArray, List.set_cons_succ, List.set_cons_zero]
        refine wpAnyH_take (i := 6) (v := .int .i64 mx) rfl (by kernel_rfl) (by kernel_rfl) (by kernel_rfl) (fun _ _ _ h => h) (Or.inl ⟨by rfl, fun W hS => by
          go_simp⟩) hS0 ?_
        simp only [List.getElem_toArray, List.getElem_cons_succ, List.getElem_cons_zero, Act.put, List.setIfInBounds_toArray, List.set_cons_succ, List.set_cons_zero]
        refine wpAnyH_all (rs := [9, 11]) (by kernel_rfl) (by simp) ?_
        intro i hi
        have hi2 : i = 9 ∨ i = 11 := by simpa using hi
        clear hi
        rcases hi2 with rfl | rfl
        case' inl =>
          refine wpOp_step (by rfl) (fun K hK => ?_)
          refine step_call rfl _ #[v] (by go_simp) (cloneC_any v l _ HC3.out (by omega)) ?_
          rintro e w4 ⟨v4, rfl, hcr, hb4⟩
          have hS4 : Below w2.heap.size w2 w4 := hS0.trans (hb4.mono hS0.size)
          refine ⟨v4, rfl, hK _ _ ⟨hS4, ?_⟩⟩
          clear hK K
          obtain ⟨va4, vc4, hv4, hjunk⟩ := hcr.comps
          subst hv4
          clear hjunk
          simp only [List.getElem_toArray, List.getElem_cons_succ, List.getElem_cons_zero, Act.put, List.setIfInBounds_toArray, List.set_cons_succ, List.set_cons_zero]
          refine wpAnyH_take (i := 10) (v := .agg (icells d mx (.slice va4 l.length vc4))) rfl (by kernel_rfl) (by kernel_rfl) (by kernel_rfl) (fun _ _ _ h => h) (Or.inl ⟨by rfl, fun W _ => by
            refine ex_build (parts := #[(0, .tmp 28), (1, .tmp 33), (2, .tmp 36)]) rfl ?_
            simp only [List.map_toArray, List.map_cons, List.map_nil]
            exact built_inv HD.out.1 mx va4 l.length vc4⟩) hS4 ?_
          simp only [List.getElem_toArray, List.getElem_cons_succ, List.getElem_cons_zero, Act.put, List.setIfInBounds_toArray, List.set_cons_succ, List.set_cons_zero]
          refine wpAnyH_all (rs := [11]) (by kernel_rfl) (by simp) ?_
          intro i hi
          obtain rfl : i = 11 := by simpa using hi
          clear hi
          refine wpOp_step (by rfl) (fun K hK => step_allocV rfl rfl (hK _ _ ⟨hS4.alloc hS4.size _, ?_⟩))
          clear hK K
          simp only [List.getElem_toArray, List.getElem_cons_succ, List.getElem_cons_zero, Act.put, List.setIfInBounds_toArray, List.set_cons_succ, List.set_cons_zero]
          refine wpAnyH_all (rs := [12]) (by kernel_rfl) (by simp) ?_
          intro i hi
          obtain rfl : i = 12 := by simpa using hi
          clear hi
          have hg4 : (w4.alloc (.cells (icells zero32 0 (.slice none 0 0)) 26)).heap[w4.heap.size]? = some (.cells (icells zero32 0 (.slice none 0 0)) 26 (0, 0)) := heap_alloc_new w4 _
          have hz4 := hS4.size
          have hSA := hS4.alloc hS4.size (.cells (icells zero32 0 (.slice none 0 0)) 26)
          have hS5 : Below w2.heap.size w2 ((w4.alloc (.cells (icells zero32 0 (.slice none 0 0)) 26)).setRow w4.heap.size (icells d mx (.slice va4 l.length vc4))) := hSA.trans (grown_below (setRow_grown _ _ _) hz4 hSA.size)
          have hg5 := setRow_heap _ _ _ (icells d mx (.slice va4 l.length vc4)) _ _ hg4
          have hcr5 : CRow ((w4.alloc (.cells (icells zero32 0 (.slice none 0 0)) 26)).setRow w4.heap.size (icells d mx (.slice va4 l.length vc4))) w2.heap.size (.slice va4 l.length vc4) l :=
            (((hcr.less hS0.size).kept2 (row := none) (World.grownBy_alloc w4 _ none) (by intro b e; cases e)).kept2 (setRow_grown _ _ _) (fun b e h => by cases e; have := hcr.lt h; omega))
          have hO5 : w4.heap.size < ((w4.alloc (.cells (icells zero32 0 (.slice none 0 0)) 26)).setRow w4.heap.size (icells d mx (.slice va4 l.length vc4))).heap.size := (Array.getElem?_eq_some_iff.1 hg5).1
          refine wpOp_step (by rfl) (fun K hK => step_storeV rfl _ _ rfl w4.heap.size _ _ hg4 rfl d mx (.slice va4 l.length vc4) HD.out.1 rfl rfl HZ0.out (hK _ _ ⟨hS5, ?_⟩))
          clear hK K hg4 hSA hcr hb4 hS4
          refine wpAnyH_done (by kernel_rfl) ?_ _
          generalize (w4.alloc (.cells (icells zero32 0 (.slice none 0 0)) 26)).setRow w4.heap.size (icells d mx (.slice va4 l.length vc4)) = w5 at *
          generalize w4.heap.size = O at *
          simp only [List.getElem_toArray, List.getElem_cons_succ, List.getElem_cons_zero, Act.put, List.setIfInBounds_toArray, List.set_cons_succ, List.set_cons_zero]
        case' inr =>
          have hz3 := hS0.size
          have hSA := hS0.alloc hS0.size (.cells (icells zero32 0 (.slice none 0 0)) 26)
          refine wpOp_step (by rfl) (fun K hK => step_allocV rfl rfl (hK _ _ ⟨hSA, ?_⟩))
          clear hK K
          simp only [List.getElem_toArray, List.getElem_cons_succ, List.getElem_cons_zero, Act.put, List.setIfInBounds_toArray, List.set_cons_succ, List.set_cons_zero]
          have hg3 : (w3.alloc (.cells (icells zero32 0 (.slice none 0 0)) 26)).heap[w3.heap.size]? = some (.cells (icells zero32 0 (.slice none 0 0)) 26 (0, 0)) := heap_alloc_new w3 _
          have hC3 : Comps (w3.alloc (.cells (icells zero32 0 (.slice none 0 0)) 26)) v l := HC3.out.below ((Below.refl _ w3).alloc (Nat.le_refl _) _)
          have hO3 : w3.heap.size < (w3.alloc (.cells (icells zero32 0 (.slice none 0 0)) 26)).heap.size := by simp
          generalize w3.alloc (.cells (icells zero32 0 (.slice none 0 0)) 26) = w4 at *
          generalize w3.heap.size = O at *
          refine wpAnyH_all (rs := [9]) (by kernel_rfl) (by simp) ?_
          intro i hi
          obtain rfl : i = 9 := by simpa using hi
          clear hi
          refine wpOp_step (by rfl) (fun K hK => ?_)
          refine step_call rfl _ #[v] (by go_simp) (cloneC_any v l _ hC3 (by omega)) ?_
          rintro e w6 ⟨v4, rfl, hcr, hb4⟩
          have hS4 : Below w2.heap.size w2 w6 := hSA.trans (hb4.mono hSA.size)
          refine ⟨v4, rfl, hK _ _ ⟨hS4, ?_⟩⟩
          clear hK K
          obtain ⟨va4, vc4, hv4, hjunk⟩ := hcr.comps
          subst hv4
          clear hjunk
          have hg4 := (hb4.block O hO3).trans hg3
          simp only [List.getElem_toArray, List.getElem_cons_succ, List.getElem_cons_zero, Act.put, List.setIfInBounds_toArray, List.set_cons_succ, List.set_cons_zero]
          refine wpAnyH_take (i := 10) (v := .agg (icells d mx (.slice va4 l.length vc4))) rfl (by kernel_rfl) (by kernel_rfl) (by kernel_rfl) (fun _ _ _ h => h) (Or.inl ⟨by rfl, fun W _ => by
            refine ex_build (parts := #[(0, .tmp 28), (1, .tmp 33), (2, .tmp 36)]) rfl ?_
            simp only [List.map_toArray, List.map_cons, List.map_nil]
            exact built_inv HD.out.1 mx va4 l.length vc4⟩) hS4 ?_
          simp only [List.getElem_toArray, List.getElem_cons_succ, List.getElem_cons_zero, Act.put, List.setIfInBounds_toArray, List.set_cons_succ, List.set_cons_zero]
          refine wpAnyH_all (rs := [12]) (by kernel_rfl) (by simp) ?_
          intro i hi
          obtain rfl : i = 12 := by simpa using hi
          clear hi
          have hz4 := hz3
          have hS5 : Below w2.heap.size w2 (w6.setRow O (icells d mx (.slice va4 l.length vc4))) := hS4.trans (grown_below (setRow_grown _ _ _) hz4 hS4.size)
          have hg5 := setRow_heap _ _ _ (icells d mx (.slice va4 l.length vc4)) _ _ hg4
          have hcr5 : CRow (w6.setRow O (icells d mx (.slice va4 l.length vc4))) w2.heap.size (.slice va4 l.length vc4) l :=
            (hcr.less (by omega)).kept2 (setRow_grown _ _ _) (fun b e h => by cases e; exact hcr.ne hg4 (by decide) h)
          have hO5 : O < (w6.setRow O (icells d mx (.slice va4 l.length vc4))).heap.size := (Array.getElem?_eq_some_iff.1 hg5).1
          refine wpOp_step (by rfl) (fun K hK => step_storeV rfl _ _ rfl O _ _ hg4 rfl d mx (.slice va4 l.length vc4) HD.out.1 rfl rfl HZ0.out (hK _ _ ⟨hS5, ?_⟩))
          clear hK K hg4 hSA hcr hb4 hS4 hg3 hC3 hO3 hz3
          refine wpAnyH_done (by kernel_rfl) ?_ _
          generalize w6.setRow O (icells d mx (.slice va4 l.length vc4)) = w5 at *
          simp only [List.getElem_toArray, List.getElem_cons_succ, List.getElem_cons_zero, Act.put, List.setIfInBounds_toArray, List.set_cons_succ, List.set_cons_zero]
        all_goals
          have HB5 := Lib.hid (HB2.out.trans (hS5.mono HB2.out.size))
          have HCR5 := Lib.hid hcr5
          have HG5 := Lib.hid hg5
          have HC5 := Lib.hid (HL'.out.below (HB5.out.mono (Nat.le_refl _)))
          have HG25 := Lib.hid ((hS5.block _ (show w.heap.size + 1 + 1 < w2.heap.size by omega)).trans HG22.out)
          have hx33 : w5.cell? ⟨w.heap.size + 1, 33, none⟩ = some v' := by rw [hS5.cell (p := ⟨w.heap.size + 1, 33, none⟩) (show w.heap.size + 1 < w2.heap.size by omega), cell_of_row w2 _ 33 _ _ _ HG12.out]; exact icells_33 HD.out.1 t' v'
          obtain ⟨va', vc', hve', hjunk⟩ := HC5.out
          subst hve'
          have hz2' := hz2
          have hsz5 := hS5.size
          clear hz2
          clear hS5 hg5 hcr5 hjunk HG02 HG22 HR HI HR' HI' HQ hc0 hc1 hc2 hS0 HC3 HM
          have hl128 := HO2.out.2.1
          have HMX := Lib.hid hmx
          have hO5' := hO5
          obtain ⟨i0, hi, hz0, hz1, hz2⟩ := info_parts info_int19
          clear hmx
          have HM0 : Hid (MInv w w2.heap.size O w5.heap.size l'.length d mx (.slice va4 l.length vc4) l [] (w5.alloc (.cells (madeCells #[Value.int .i64 0] l'.length) 3))) := Lib.hid (by
            refine ⟨HCR5.out.kept2 (row := none) (World.grownBy_alloc w5 _ none) (by intro b e; cases e), ?_, ⟨_, heap_alloc_new w5 _, size_madeCells _ _, Nat.zero_le _, fun j x h => by simp at h⟩, ?_, HB5.out.alloc HB5.out.size _, ?_, hz2', hz4, ?_⟩
            · rw [Below.heap_alloc _ _ _ hO5]; exact HG5.out
            · rw [Below.heap_alloc _ _ _ (by omega)]; exact HG25.out
            · rw [World.size_alloc]; omega
            · omega)
          have hy33 : (w5.alloc (.cells (madeCells #[Value.int .i64 0] l'.length) 3)).cell? ⟨w.heap.size + 1, 33, none⟩ = some (.slice va' l'.length vc') := by
            rw [← hx33, Below.cell (B := w5.heap.size) ((Below.refl _ w5).alloc (Nat.le_refl _) _) (by show w.heap.size + 1 < w5.heap.size; omega)]
          clear HCR5 HG5 HG25 HC5 HB5 hO5 hO5'
          go_wp2_with (first | (refine wpList_make_row _ rfl _ _ 27 rfl 3 i0 (.int .i64 0) Tryd.underlying27 hi hz0 hz1 rfl .i64 .i64 l'.length rfl rfl (by rw [hz2]; omega) (by omega) ?_
                                clear hx33 hsz5 hi hz0 hz1 hz2
                                generalize w5.alloc (.cells (madeCells #[Value.int .i64 0] l'.length) 3) = w7 at *
                                generalize w5.heap.size = S at *) | fail)
          go_loopw [45] (fun jv W => ∃ (k : Nat) (vo : Value), k ≤ l'.length ∧ jv = .int .i64 k ∧ MInv w w2.heap.size O S l'.length d mx vo (V.mergeTo l l' k).1 (V.mergeTo l l' k).2 W) (fun jv _ => l'.length - (intOf jv).toNat)
          case atStart => exact ⟨0, _, Nat.zero_le _, rfl, HM0.out⟩
          case round =>
            obtain ⟨k, vo, hk, rfl, hmi⟩ := hrel
            have hst := V.mergeTo_len (a := l) (b := l') k hk
            have hol := V.mergeTo_out (a := l) (b := l') k hk
            have HST := Lib.hid (V.mergeTo_st (a := l) (b := l') k hk)
            obtain ⟨vao, vco, hvo, hjunk⟩ := hmi.row.comps
            subst hvo
            have hllen := HO1.out.2.1
            clear hjunk HM0
            by_cases hlt : k < l'.length
            · have HSTEP := Lib.hid (V.mergeTo_step (a := l) hlt)
              obtain ⟨hdw, g, off, hva, hgl, hgr⟩ := HL'.out.at k hlt
              subst hva
              have hpar := (V.compAt_iff.1 (V.compsTo_at HO2.out.1 hlt)).2
              have hp1 := hpar.1
              have hp2 := hpar.2.1
              have HC := Lib.hid hdw
              have HCR := Lib.hid (rangeAt_below hgr hmi.below)
              have HMI := Lib.hid hmi
              clear hdw hgr hpar hmi
              generalize l'[k] = c at *
              generalize V.mergeTo l l' k = s at *
              obtain ⟨out, st⟩ := s
              simp only at hst hol HST HMI HSTEP HCR hy33
              have hX1 : (wr.alloc (.cells (ccells c) 35)).heap[wr.heap.size]? = some (.cells (ccells c) 35 (0, 0)) := heap_alloc_new wr _
              have hmi1 := HMI.out.alloc (.cells (ccells c) 35)
              have HXO : Hid (∀ b, (Value.slice vao out.length vco).ownBlock = some b → b < wr.heap.size) := Lib.hid (fun b hb => HMI.out.row.lt hb)
              have hXs : w.heap.size + 3 ≤ wr.heap.size := Nat.le_trans hz2' HMI.out.size
              have hx0 : (wr.alloc (.cells (ccells c) 35)).cell? ⟨wr.heap.size, 0, none⟩ = some (.int .i64 c.par) := by rw [cell_of_row _ _ 0 _ _ _ hX1]; exact ccells_0 c
              have hxf : (wr.alloc (.cells (ccells c) 35)).frozen? ⟨wr.heap.size, 0, none⟩ = false := frozen_row hX1
              have HXN := Lib.hid hX1
              have HM1 := Lib.hid hmi1
              have HWF : Hid (CompWf (V.moved st c)) := Lib.hid (moved_wf HC.out (fun x hx => by
                obtain ⟨q, rfl, hq⟩ := HST.out x hx
                exact nat_wf (by omega)))
              have HSTEP2 : Hid (V.mergeTo l l' (k + 1) = if V.moved st c ∈ out then (out, st ++ [ixOf out (V.moved st c)]) else (out ++ [V.moved st c], st ++ [(out.length : Int)])) := Lib.hid (by rw [HSTEP.out]; unfold V.mStep; rfl)
              clear hX1 hmi1 HSTEP
              by_cases hp0 : 0 ≤ c.par
              case' pos =>
                obtain ⟨m, hm⟩ := Int.eq_ofNat_of_zero_le hp0
                have hm' : c.par = (m : Int) := hm
                have hmk : m < st.length := by omega
                obtain ⟨q, hq1, hq2⟩ := HST.out st[m] (List.getElem_mem hmk)
                have hsm : (wr.alloc (.cells (ccells c) 35)).cell? ⟨S, m, none⟩ = some (.int .i64 (q : Int)) := HM1.out.standCell (by rw [List.getElem?_eq_getElem hmk, hq1])
                have hmv : V.moved st c = { c with par := (q : Int) } := by
                  unfold V.moved
                  rw [if_pos hp0, hm', Int.toNat_natCast, List.getD_eq_getElem?_getD, List.getElem?_eq_getElem hmk, hq1]
                  rfl
                have HX3 : Hid ((wr.alloc (.cells ((ccells c).setIfInBounds 0 (.int .i64 (q : Int))) 35)).heap[wr.heap.size]? = some (.cells (ccells (V.moved st c)) 35 (0, 0))) := Lib.hid (by rw [hmv, ← ccells_set0]; exact heap_alloc_new wr _)
                have HM3 := Lib.hid (HMI.out.alloc (.cells ((ccells c).setIfInBounds 0 (.int .i64 (q : Int))) 35))
                have hX3 : wr.heap.size < (wr.alloc (.cells ((ccells c).setIfInBounds 0 (.int .i64 (q : Int))) 35)).heap.size := by simp
                have hi33 := HM3.out.invCell HD.out.1
                have hi1 : (0 : Int) ≤ (m : Int) := by omega
                have hi2 : (m : Int) < (l'.length : Int) := by omega
                rw [hm'] at hx0
                clear hm hm' hmv hq1
                go_wp2_with (first | (refine wl_load rfl _ rfl g (off + k * 36) rfl c HC.out HCR.out ?_) | (refine wl_store rfl _ _ rfl _ _ rfl c HC.out rfl rfl ?_) | (refine wl_load rfl _ rfl wr.heap.size 0 rfl (V.moved st c) HWF.out (range_row HX3.out) ?_) | fail)
                clear hx0 hsm hxf hi33
                generalize wr.alloc (.cells ((ccells c).setIfInBounds 0 (.int .i64 (q : Int))) 35) = w3 at *
              case' neg =>
                have hmv : V.moved st c = c := by unfold V.moved; rw [if_neg hp0]
                have HX3 : Hid ((wr.alloc (.cells (ccells c) 35)).heap[wr.heap.size]? = some (.cells (ccells (V.moved st c)) 35 (0, 0))) := Lib.hid (by rw [hmv]; exact HXN.out)
                have HM3 := HM1
                have hX3 : wr.heap.size < (wr.alloc (.cells (ccells c) 35)).heap.size := by simp
                have hi33 := HM3.out.invCell HD.out.1
                have hi1 : (0 : Int) ≤ (k : Int) := by omega
                have hi2 : (k : Int) < (l'.length : Int) := by omega
                clear hmv
                go_wp2_with (first | (refine wl_load rfl _ rfl g (off + k * 36) rfl c HC.out HCR.out ?_) | (refine wl_store rfl _ _ rfl _ _ rfl c HC.out rfl rfl ?_) | (refine wl_load rfl _ rfl wr.heap.size 0 rfl (V.moved st c) HWF.out (range_row HX3.out) ?_) | fail)
                clear hx0 hxf hi33
                generalize wr.alloc (.cells (ccells c) 35) = w3 at *
              all_goals
                clear HXN HM1 hi1 hi2 hp0 hp1 hp2
                refine (indexC_any _ out (V.moved st c) w3 HM3.out.row.comps HWF.out (by omega)).mono ?_
                rintro e w4 ⟨rfl, hb4⟩
                have HM4 := Lib.hid (HM3.out.call hb4)
                have HX4 := Lib.hid ((hb4.block _ hX3).trans HX3.out)
                obtain ⟨u, hu⟩ := HM4.out.standAny hlt
                have huf := HM4.out.standFree k
                have hi1 : (0 : Int) ≤ (k : Int) := by omega
                have hi2 : (k : Int) < (l'.length : Int) := by omega
                have hkn : st.length < l'.length := by omega
                clear HM3 HX3 hb4 hX3
                obtain ⟨X, hX⟩ : ∃ X, X = wr.heap.size := ⟨_, rfl⟩
                rw [← hX] at HX4 HXO hXs ⊢
                clear hX
                by_cases hmem : V.moved st c ∈ out
                · obtain ⟨q', hix, hq', _⟩ := V.ixOf_mem hmem
                  have HNEXT : Hid (V.mergeTo l l' (k + 1) = (out, st ++ [(q' : Int)])) := Lib.hid (by rw [HSTEP2.out, if_pos hmem, hix])
                  have HM5 : Hid (MInv w w2.heap.size O S l'.length d mx (.slice vao out.length vco) out (st ++ [(q' : Int)]) (w4.setCell ⟨S, k, none⟩ (.int .i64 (q' : Int)))) := Lib.hid (by have := HM4.out.push hkn (q' : Int); rwa [hst] at this)
                  have hs5 : (w4.setCell ⟨S, k, none⟩ (.int .i64 (q' : Int))).cell? ⟨S, k, none⟩ = some (.int .i64 (q' : Int)) := World.cell?_setCell_same _ _ _ hu
                  rw [hix]
                  clear hix hmem
                  go_wp2_with (first | (refine wl_set rfl 3 _ _ rfl S k rfl (.int .i64 (q' : Int)) rfl u hu huf int_size rfl ?_
                                        generalize w4.setCell ⟨S, k, none⟩ (.int .i64 (q' : Int)) = w5 at *) | fail)
                  go_roundw
                  case rel => exact ⟨k + 1, _, by omega, by go_num, by rw [HNEXT.out]; exact HM5.out⟩
                  case measure => simp [intOf]; omega
                · have hix := ixOf_none hmem
                  have HNEXT : Hid (V.mergeTo l l' (k + 1) = (out ++ [V.moved st c], st ++ [(out.length : Int)])) := Lib.hid (by rw [HSTEP2.out, if_neg hmem])
                  have HM5 : Hid (MInv w w2.heap.size O S l'.length d mx (.slice vao out.length vco) out (st ++ [-1]) (w4.setCell ⟨S, k, none⟩ (.int .i64 (-1)))) := Lib.hid (by have := HM4.out.push hkn (-1); rwa [hst] at this)
                  have HM6 : Hid (MInv w w2.heap.size O S l'.length d mx (.slice vao out.length vco) out (st ++ [(out.length : Int)]) ((w4.setCell ⟨S, k, none⟩ (.int .i64 (-1))).setCell ⟨S, k, none⟩ (.int .i64 (out.length : Int)))) := Lib.hid (by have := HM5.out.last (out.length : Int); rwa [hst] at this)
                  have HX6 : Hid (((w4.setCell ⟨S, k, none⟩ (.int .i64 (-1))).setCell ⟨S, k, none⟩ (.int .i64 (out.length : Int))).heap[X]? = some (.cells (ccells (V.moved st c)) 35 (0, 0))) := Lib.hid (by
                    rw [Below.heap_setCell _ _ _ _ (HM4.out.apart HX4.out), Below.heap_setCell _ _ _ _ (HM4.out.apart HX4.out)]; exact HX4.out)
                  have hs5 : (w4.setCell ⟨S, k, none⟩ (.int .i64 (-1))).cell? ⟨S, k, none⟩ = some (.int .i64 (-1)) := World.cell?_setCell_same _ _ _ hu
                  have hf5 := HM5.out.standFree k
                  have hi5 := HM5.out.invCell HD.out.1
                  have hi6 := HM6.out.invCell HD.out.1
                  have HA := Lib.hid (HM6.out.alloc (.cells (ccells (V.moved st c)) 35))
                  have hO2 : w2.heap.size ≤ ((w4.setCell ⟨S, k, none⟩ (.int .i64 (-1))).setCell ⟨S, k, none⟩ (.int .i64 (out.length : Int))).heap.size := HM6.out.size
                  have HRN := Lib.hid (range_new (V.moved st c) ((w4.setCell ⟨S, k, none⟩ (.int .i64 (-1))).setCell ⟨S, k, none⟩ (.int .i64 (out.length : Int))) 35)
                  rw [hix]
                  clear hix hmem HM4 HX4 HSTEP2
                  go_wp2_with (first | (refine wl_set rfl 3 _ _ rfl S k rfl (.int .i64 (-1)) rfl u hu huf int_size rfl ?_
                                        clear hu huf
                                        generalize w4.setCell ⟨S, k, none⟩ (.int .i64 (-1)) = w5 at *)
                                     | (refine wl_set rfl 3 _ _ rfl S k rfl (.int .i64 (out.length : Int)) rfl _ hs5 hf5 int_size rfl ?_
                                        clear hs5 hf5 hi5
                                        generalize w5.setCell ⟨S, k, none⟩ (.int .i64 (out.length : Int)) = w6 at *)
                                     | (refine wl_load rfl _ rfl X 0 rfl (V.moved st c) HWF.out (range_row HX6.out) ?_)
                                     | (refine wl_build1 rfl _ rfl (V.moved st c) HWF.out rfl ?_)
                                     | (refine wl_appendC rfl _ _ rfl w2.heap.size (.slice vao out.length vco) out rfl HA.out.row w6.heap.size (V.moved st c) HWF.out rfl HRN.out (by omega) (by simp; omega) ?_
                                        intro v8 w8 hr8 hg8
                                        have hk8 := HA.out.invKept hg8
                                        have hc8 : w8.cell? ⟨O, 33, none⟩ = some (.slice vao out.length vco) := by rw [cell_of_row w8 O 33 _ _ _ hk8]; exact icells_33 HD.out.1 _ _
                                        have hf8 : w8.frozen? ⟨O, 33, none⟩ = false := frozen_row hk8
                                        have HM9 := Lib.hid (HA.out.append HD.out.1 hr8 hg8)
                                        obtain ⟨va8, vc8, hv8, hjunk⟩ := hr8.comps
                                        subst hv8
                                        rw [show (out ++ [V.moved st c]).length = out.length + 1 by simp] at HM9 ⊢
                                        clear hr8 hg8 hk8 hjunk)
                                     | (refine wl_set rfl 24 _ _ rfl O 33 rfl (.slice va8 (out.length + 1) vc8) rfl _ hc8 hf8 comps_size rfl ?_
                                        clear hc8 hf8
                                        generalize w8.setCell ⟨O, 33, none⟩ (.slice va8 (out.length + 1) vc8) = w9 at *) | fail)
                  go_roundw
                  case rel => exact ⟨k + 1, _, by omega, by go_num, by rw [HNEXT.out]; exact HM9.out⟩
                  case measure => simp [intOf]; omega
            · obtain rfl : k = l'.length := by omega
              have HML : Hid (V.mergeL l l' = (V.mergeTo l l' l'.length).1) := Lib.hid rfl
              generalize V.mergeTo l l' l'.length = s at *
              obtain ⟨out, st⟩ := s
              simp only at hst hol HST HML hmi
              have hi33 := hmi.invCell HD.out.1
              have HMI := Lib.hid hmi
              clear hmi
              by_cases hbig : 128 < out.length
              · have HER2 : Hid (V.mergeErr d t l d t' l' = 3) := Lib.hid (by rw [HER.out, HML.out, if_pos hbig])
                have HS1 := Lib.hid (setRow_heap wr _ _ (icells zero32 0 (.slice none 0 0)) _ _ HMI.out.zero)
                have HSB1 : Hid (Below w.heap.size w (wr.setRow (w.heap.size + 1 + 1) (icells zero32 0 (.slice none 0 0)))) := Lib.hid (HMI.out.below.trans (grown_below (setRow_grown wr _ _) (by omega) HMI.out.below.size))
                go_wp2_with (first | (refine wl_storeV rfl _ _ rfl _ _ _ HMI.out.zero rfl zero32 0 (.slice none 0 0) rfl rfl rfl HZ0.out ?_) | fail)
                exact HEX.out 3 _ HER2.out (by decide) HSB1.out HS1.out _ Tryd.results21 _ rfl rfl rfl
              · have HER2 : Hid (V.mergeErr d t l d t' l' = 0) := Lib.hid (by rw [HER.out, HML.out, if_neg hbig])
                have HVA : Hid (V.mergeVal d t l d t' l' = (d, mx, out)) := Lib.hid (by unfold V.mergeVal; rw [if_pos HER2.out, HML.out, HMX.out])
                have HS1 := Lib.hid (setRow_heap wr _ _ (icells d mx (.slice vao out.length vco)) _ _ HMI.out.zero)
                have HSB1 : Hid (Below w.heap.size w (wr.setRow (w.heap.size + 1 + 1) (icells d mx (.slice vao out.length vco)))) := Lib.hid (HMI.out.below.trans (grown_below (setRow_grown wr _ _) (by omega) HMI.out.below.size))
                have HCF := Lib.hid (HMI.out.row.kept2 (setRow_grown wr (w.heap.size + 1 + 1) (icells d mx (.slice vao out.length vco))) (fun b hb => by cases hb; exact HMI.out.row.ne HMI.out.zero (by decide)))
                go_wp2_with (first | (refine wl_loadV rfl _ rfl O rfl (icells d mx (.slice vao out.length vco)) (icells_size HD.out.1 _ _) HMI.out.inv ?_) | (refine wl_storeV rfl _ _ rfl _ _ _ HMI.out.zero rfl d mx (.slice vao out.length vco) HD.out.1 rfl rfl HZ0.out ?_) | fail)
                refine bodyPost_ret (results_two Tryd.results21 rfl rfl (run_loadVar_row _ _ _ _ _ (0, 0) _ HS1.out Tryd.underlying26 rfl (by rw [invInfo, icells_size HD.out.1]))) rfl ?_
                refine ⟨.slice vao out.length vco, ?_, ?_, HSB1.out⟩
                · rw [HVA.out, HER2.out]
                  rfl
                · rw [HVA.out]; exact HCF.out.comps
end Go.Proofs.YtoiabbhppbghdaaDoor
