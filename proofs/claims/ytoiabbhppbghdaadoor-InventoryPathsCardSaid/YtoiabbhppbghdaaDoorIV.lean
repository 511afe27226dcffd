/-
  Walk: the law InventoryPaths.
-/
import Derived.Test.YtoiabbhppbghdaaDoorIU
import Derived.Test.YtoiabbhppbghdaaDoorIT
import Derived.Test.YtoiabbhppbghdaaDoorJI
namespace Go.Proofs.YtoiabbhppbghdaaDoor
open Go.RowKit

/-- two numbers as a slice -/
theorem wl_build2Z {ops : Array Oper} {rest : List Oper} {o : Oper} {a : Act} {w : World} {Q : Exit → Act → World → Prop} (hgd : o.guard = none) (e0 e1 : Operand) (ho : o.op = .buildSlice 27 2 #[(0, e0), (1, e1)])
    (x y : Int) (h0 : a.eval e0 = .int .i64 x) (h1 : a.eval e1 = .int .i64 y)
    (h : ∀ w', w'.cell? ⟨w.heap.size, 0, none⟩ = some (.int .i64 x) → (∃ k, w'.cell? ⟨w.heap.size, 1, none⟩ = some (.int .i64 k)) → Below w.heap.size w w' → w.heap.size < w'.heap.size → wpList Tryd.prog ops Q rest (a.put o.dst (.slice (some ⟨w.heap.size, 0, none⟩) 2 2)) w') : wpList Tryd.prog ops Q (o :: rest) a w := by
  obtain ⟨i0, hi, hz0, hz1, hz2⟩ := info_parts info_int19
  refine wpList_buildSlice hgd _ 3 2 _ ho #[.int .i64 x, .int .i64 y] i0 (.int .i64 0) Tryd.underlying27 hi hz0 (by rw [hz1]; decide) (by rw [hz1]; decide) ?_ (h _ (by rw [World.cell?_alloc_new]; rfl) ⟨y, by rw [World.cell?_alloc_new]; rfl⟩ ((Below.refl _ w).alloc (Nat.le_refl _) _) (by simp))
  rw [hz1]
  simp only [h0, h1, List.map_toArray, List.map_cons, List.map_nil]
  have := Great.fill_whole (s := 1) (by decide) [Value.int .i64 x, Value.int .i64 y] ((Array.range (2 * 1)).map ((Value.int .i64 0).cells[· % (Value.int .i64 0).cells.size]!)) (fun v hv => by
    simp only [List.mem_cons, List.not_mem_nil, or_false] at hv
    rcases hv with rfl | rfl <;> rfl) (by simp)
  exact this
/-- a call whose guard holds, as a step of a region that draws -/
theorem step_callG {P : Program} {ops : Array Oper} {o : Oper} {a : Act} {w : World} {K : Act → World → Prop} {Q : Exit → Act → World → Prop} {E : Prop} (hw : Region.wanted o (yielded ops a.tmps) = true) (f : FuncId) (args : Array Value) {R : Ending → World → Prop}
    (he : (execOp a.eval o).run P w = .ok (.enter f args) w) (hc : Calls P f args w R) (h : ∀ e w', R e w' → ∃ v, e = .returned v ∧ K (a.put o.dst v) w') :
    if Region.wanted o (yielded ops a.tmps) = true then Oper.wp P o a w K Q else E := by
  rw [if_pos hw]
  unfold Oper.wp
  rw [he]
  refine hc.mono ?_
  intro e w' hr
  obtain ⟨v, rfl, hk⟩ := h e w' hr
  exact hk
theorem ipath_short {d : List Int} {t : Int} {l : List V.Comp} {i : Int} : (if V.invOk d t l = true ∧ 0 ≤ i ∧ i < l.length then (V.anc l i).reverse else []).length ≤ l.length := by
  split
  · rename_i h
    rw [List.length_reverse]
    refine V.anc_len ?_ i h.2.2
    have := h.1
    unfold V.invOk at this
    exact (Bool.and_eq_true_iff.1 this).2
  · simp

set_option maxRecDepth 100000 in
set_option maxHeartbeats 12800000 in
theorem inventoryPaths_any (x0 : IV) (i : Int) (a : Option Addr) (m cap : Nat) (w : World) (hmx : MaxOk w) (hd : x0.d.length = 32) (hw : ∀ n ∈ x0.d, (Lit.int .u8 n).wf = true) (hc : Comps w x0.v x0.l) (hi : (Lit.int .i64 i).wf = true) (ht : Nums w a m) :
    Calls Tryd.prog 3 #[.agg (icells x0.d x0.t x0.v), .int .i64 i, .slice a m cap] w fun e w' => e = .returned (.bool true) ∧ Below w.heap.size w w' := by
  have HM := Lib.hid hmx
  have HT := Lib.hid ht
  have H1 := Lib.hid (And.intro hd (And.intro hw hc))
  have HI := Lib.hid (wf_rng hi)
  have HB0 := Lib.hid ((Below.refl w.heap.size w).alloc (Nat.le_refl _) (.cells (icells x0.d x0.t x0.v) 26))
  have HG0 : Hid ((w.alloc (.cells (icells x0.d x0.t x0.v) 26)).heap[w.heap.size]? = some (.cells (icells x0.d x0.t x0.v) 26 (0, 0))) := Lib.hid (heap_alloc_new w _)
  have HT0 : Hid (Nums (w.alloc (.cells (icells x0.d x0.t x0.v) 26)) a m) := Lib.hid (by
    obtain ⟨h1, h2⟩ := ht
    refine ⟨h1, fun j hj => ?_⟩
    obtain ⟨b, off, z, e, hlt, hcz, hz⟩ := h2 j hj
    exact ⟨b, off, z, e, Nat.lt_of_lt_of_le hlt HB0.out.size, (HB0.out.cell (p := ⟨b, off + j, none⟩) hlt).trans hcz, hz⟩)
  clear hmx ht hd hw hc hi
  go_enter Tryd.func3, Tryd.ntmps3
  go_wp2_with (first | (refine wl_loadR rfl _ rfl w.heap.size 0 rfl x0 H1.out.1 (inv_rangeAll HG0.out) ?_) | fail)
  refine (inventories_any x0 a m cap _ H1.out.1 H1.out.2.1 (H1.out.2.2.below (HB0.out.mono (Nat.le_refl _))) HT0.out).mono ?_
  rintro e w1 ⟨v1, xs, rfl, hiv, hx3, hb1⟩
  have HIV := Lib.hid hiv
  have HB1 := Lib.hid (HB0.out.trans (hb1.mono HB0.out.size))
  obtain ⟨va, vc, hve, hjunk⟩ := hiv
  subst hve
  clear hjunk hb1 HT0 HG0 HB0
  go_wp2_with fail
  go_loopw [15] (fun jv wr => ∃ j : Nat, j ≤ xs.length ∧ jv = .int .i64 j ∧ Below w1.heap.size w1 wr) (fun jv _ => xs.length - (intOf jv).toNat)
  case atStart => exact ⟨0, Nat.zero_le _, rfl, Below.refl _ _⟩
  case round =>
    obtain ⟨j, hj, rfl, hbr⟩ := hrel
    have HBR := Lib.hid hbr
    have HBW := Lib.hid (HB1.out.trans (hbr.mono HB1.out.size))
    clear hbr
    by_cases hlt : j < xs.length
    · obtain ⟨a', cap', e', hat⟩ := HIV.out
      cases e'
      obtain ⟨hok, g, off, rfl, hgl, hr⟩ := hat j hlt
      have HX := Lib.hid (hok.below HBR.out)
      have HR := Lib.hid (rangeAt_below hr HBR.out)
      have hj1 : (0 : Int) ≤ (j : Int) := by omega
      have hj2 : (j : Int) < (xs.length : Int) := by omega
      have hox := hok.comps.one
      clear hok hr hat
      generalize xs[j] = x at *
      have hb2 : Below wr.heap.size wr (wr.alloc (.cells (icells x.d x.t x.v) 26)) := (Below.refl _ wr).alloc (Nat.le_refl _) _
      have HX2 := Lib.hid (HX.out.below hb2)
      have HG2 : Hid ((wr.alloc (.cells (icells x.d x.t x.v) 26)).heap[wr.heap.size]? = some (.cells (icells x.d x.t x.v) 26 (0, 0))) := Lib.hid (heap_alloc_new wr _)
      have HB2 := Lib.hid (HBR.out.trans (hb2.mono HBR.out.size))
      have hz2 : wr.heap.size < (wr.alloc (.cells (icells x.d x.t x.v) 26)).heap.size := by simp
      have hri := HI.out
      clear hb2
      go_wp2_with (first | (refine wl_loadR rfl _ rfl g (off + j * 34) rfl x HX.out.hd HR.out ?_) | (refine wl_storeI rfl _ _ rfl _ rfl x HX.out.hd hox rfl rfl ?_; clear hox; generalize hww : wr.alloc (.cells (icells x.d x.t x.v) 26) = w2 at *; clear hww; generalize wr.heap.size = X at *) | (refine wl_build2Z rfl _ _ rfl i _ rfl rfl ?_; intro w3 hc0 hc1 hb3 hz3; have HB3 := Lib.hid (HB2.out.trans (hb3.mono HB2.out.size)); have HG3 := Lib.hid ((hb3.block X hz2).trans HG2.out); have HX3 := Lib.hid (HX2.out.below hb3); have hz23 : X < w3.heap.size := Nat.lt_of_lt_of_le hz2 hb3.size; have HC0 := Lib.hid hc0; have HC1 := Lib.hid hc1; clear hc0 hc1 hb3; generalize w2.heap.size = B at *) | fail)
      clear hri
      go_loopw [27] (fun qv wr => ∃ q : Nat, q ≤ 2 ∧ qv = .int .i64 q ∧ Below w3.heap.size w3 wr) (fun qv _ => 2 - (intOf qv).toNat)
      case atStart => exact ⟨0, by omega, rfl, Below.refl _ _⟩
      case round =>
        obtain ⟨q, hq, rfl, hbq⟩ := hrel
        have HBQ := Lib.hid hbq
        by_cases hq2 : q < 2
        · have hkc : ∃ k, wr.cell? ⟨B, q, none⟩ = some (.int .i64 k) := by
            rcases (show q = 0 ∨ q = 1 by omega) with rfl | rfl
            · exact ⟨i, (hbq.cell (p := ⟨B, 0, none⟩) hz3).trans HC0.out⟩
            · obtain ⟨k, hk⟩ := HC1.out
              exact ⟨k, (hbq.cell (p := ⟨B, 1, none⟩) hz3).trans hk⟩
          obtain ⟨k, hkc⟩ := hkc
          have hq3 : (0 : Int) ≤ (q : Int) := by omega
          have hq4 : (q : Int) < 2 := by omega
          have HGQ := Lib.hid ((hbq.block X hz23).trans HG3.out)
          have HXQ := Lib.hid (HX3.out.below hbq)
          have hzq : X < wr.heap.size := Nat.lt_of_lt_of_le hz23 hbq.size
          have HBK := Lib.hid (HB1.out.trans ((HB3.out.trans (hbq.mono HB3.out.size)).mono HB1.out.size))
          clear hbq
          go_wp2_with fail
          refine wp_region_held (S := fun W => Below wr.heap.size wr W) (by kernel_rfl) ?_
          have hS0 : Below wr.heap.size wr wr.drew := (Below.refl _ wr).drew
          change wpAnyH _ _ _ _ _ _ _ _ (World.drew _)
          have HXD := Lib.hid (HXQ.out.below hS0)
          have HBD := Lib.hid (HBK.out.trans (hS0.mono HBK.out.size))
          generalize wr.drew = W0 at *
          have hSW0 := hS0
          refine wpAnyH_take (i := 0) (v := .agg (icells x.d x.t x.v)) rfl (by kernel_rfl) (by kernel_rfl) (by kernel_rfl) (fun _ _ _ h => h) (Or.inl ⟨by rfl, fun W hS => ex_load rfl rfl (load_invR (x := x) HXQ.out.hd (inv_rangeAll (x := x) ((hS.block X hzq).trans HGQ.out)))⟩) hSW0 ?_
          refine wpAnyH_take (i := 3) (v := .agg (icells x.d x.t x.v)) rfl (by kernel_rfl) (by kernel_rfl) (by kernel_rfl) (fun _ _ _ h => h) (Or.inl ⟨by rfl, fun W hS => ex_load rfl rfl (load_invR (x := x) HXQ.out.hd (inv_rangeAll (x := x) ((hS.block X hzq).trans HGQ.out)))⟩) hSW0 ?_
          refine wpAnyH_take (i := 1) (v := .int .i64 k) rfl (by kernel_rfl) (by kernel_rfl) (by kernel_rfl) (fun _ _ _ h => h) (Or.inl ⟨by rfl, fun W _ => by go_simp⟩) hSW0 ?_
          refine wpAnyH_take (i := 4) (v := .int .i64 k) rfl (by kernel_rfl) (by kernel_rfl) (by kernel_rfl) (fun _ _ _ h => h) (Or.inl ⟨by rfl, fun W _ => by go_simp⟩) hSW0 ?_
          simp only [List.getElem_toArray, List.getElem_cons_succ, List.getElem_cons_zero, Act.put, List.setIfInBounds_toArray, List.set_cons_succ, List.set_cons_zero]
          refine wpAnyH_all (rs := [2]) (by kernel_rfl) (by simp) ?_
          intro i0 hi0
          obtain rfl : i0 = 2 := by simpa using hi0
          clear hi0
          refine wpOp_step (by rfl) (fun K hK => ?_)
          refine step_call rfl _ #[.agg (icells x.d x.t x.v), .int .i64 k] (by go_simp) (ipath_any x.d x.t x.v x.l k W0 (HM.out.below HBD.out) HXD.out.hd HXD.out.hdw HXD.out.comps (by have := HXD.out.len; omega)) ?_
          rintro e w5 ⟨v1, rfl, hz1, hbw5⟩
          have hSw5 := hSW0.trans (hbw5.mono hSW0.size)
          have HX5 := Lib.hid (HXD.out.below hbw5)
          have HB5 := Lib.hid (HBD.out.trans (hbw5.mono HBD.out.size))
          refine ⟨v1, rfl, hK _ _ ⟨hSw5, ?_⟩⟩
          clear hK K hbw5
          simp only [List.getElem_toArray, List.getElem_cons_succ, List.getElem_cons_zero, Act.put, List.setIfInBounds_toArray, List.set_cons_succ, List.set_cons_zero]
          refine wpAnyH_all (rs := [5]) (by kernel_rfl) (by simp) ?_
          intro i0 hi0
          obtain rfl : i0 = 5 := by simpa using hi0
          clear hi0
          refine wpOp_step (by rfl) (fun K hK => ?_)
          refine step_call rfl _ #[.agg (icells x.d x.t x.v), .int .i64 k] (by go_simp) (ripath_any x.d x.t x.v x.l k w5 (HM.out.below HB5.out) HX5.out.hd HX5.out.hdw HX5.out.comps (by have := HX5.out.len; omega)) ?_
          rintro e w6 ⟨v2, rfl, hz2', hbw6⟩
          have hSw6 := hSw5.trans (hbw6.mono hSw5.size)
          have HX6 := Lib.hid (HX5.out.below hbw6)
          have HB6 := Lib.hid (HB5.out.trans (hbw6.mono HB5.out.size))
          have HZ1 := Lib.hid (hz1.below hbw6)
          have HZ2 := Lib.hid hz2'
          refine ⟨v2, rfl, hK _ _ ⟨hSw6, ?_⟩⟩
          clear hK K hbw6 hz1 hz2'
          simp only [List.getElem_toArray, List.getElem_cons_succ, List.getElem_cons_zero, Act.put, List.setIfInBounds_toArray, List.set_cons_succ, List.set_cons_zero]
          refine wpAnyH_all (rs := [6]) (by kernel_rfl) (by simp) ?_
          intro i0 hi0
          obtain rfl : i0 = 6 := by simpa using hi0
          clear hi0
          refine wpOp_step (by rfl) (fun K hK => ?_)
          refine step_call rfl _ #[v1, v2] (by go_simp) (sameInts_true v1 v2 _ w6 HZ1.out HZ2.out (by have := ipath_short (d := x.d) (t := x.t) (l := x.l) (i := k); have := HX6.out.len; omega)) ?_
          rintro e w7 ⟨rfl, hbw7⟩
          have hSw7 := hSw6.trans (hbw7.mono hSw6.size)
          have HX7 := Lib.hid (HX6.out.below hbw7)
          have HB7 := Lib.hid (HB6.out.trans (hbw7.mono HB6.out.size))
          refine ⟨_, rfl, hK _ _ ⟨hSw7, ?_⟩⟩
          clear hK K hbw7 HZ1 HZ2
          simp only [List.getElem_toArray, List.getElem_cons_succ, List.getElem_cons_zero, Act.put, List.setIfInBounds_toArray, List.set_cons_succ, List.set_cons_zero]
          refine wpAnyH_take (i := 7) (v := .bool false) rfl (by kernel_rfl) (by kernel_rfl) (by kernel_rfl) (fun _ _ _ h => h) (Or.inl ⟨by rfl, fun W _ => by go_simp⟩) hSw7 ?_
          simp only [List.getElem_toArray, List.getElem_cons_succ, List.getElem_cons_zero, Act.put, List.setIfInBounds_toArray, List.set_cons_succ, List.set_cons_zero]
          refine wpAnyH_take (i := 8) (v := .bool false) rfl (by kernel_rfl) (by kernel_rfl) (by kernel_rfl) (fun _ _ _ h => h) (Or.inl ⟨by rfl, fun W _ => by go_simp⟩) hSw7 ?_
          simp only [List.getElem_toArray, List.getElem_cons_succ, List.getElem_cons_zero, Act.put, List.setIfInBounds_toArray, List.set_cons_succ, List.set_cons_zero]
          refine wpAnyH_take (i := 9) (v := .agg (icells x.d x.t x.v)) rfl (by kernel_rfl) (by kernel_rfl) (by kernel_rfl) (fun _ _ _ h => h) (Or.inl ⟨by rfl, fun W hS => ex_load rfl rfl (load_invR (x := x) HXQ.out.hd (inv_rangeAll (x := x) ((hS.block X hzq).trans HGQ.out)))⟩) hSw7 ?_
          refine wpAnyH_take (i := 12) (v := .agg (icells x.d x.t x.v)) rfl (by kernel_rfl) (by kernel_rfl) (by kernel_rfl) (fun _ _ _ h => h) (Or.inl ⟨by rfl, fun W hS => ex_load rfl rfl (load_invR (x := x) HXQ.out.hd (inv_rangeAll (x := x) ((hS.block X hzq).trans HGQ.out)))⟩) hSw7 ?_
          refine wpAnyH_take (i := 10) (v := .int .i64 k) rfl (by kernel_rfl) (by kernel_rfl) (by kernel_rfl) (fun _ _ _ h => h) (Or.inl ⟨by rfl, fun W _ => by go_simp⟩) hSw7 ?_
          refine wpAnyH_take (i := 13) (v := .int .i64 k) rfl (by kernel_rfl) (by kernel_rfl) (by kernel_rfl) (fun _ _ _ h => h) (Or.inl ⟨by rfl, fun W _ => by go_simp⟩) hSw7 ?_
          simp only [List.getElem_toArray, List.getElem_cons_succ, List.getElem_cons_zero, Act.put, List.setIfInBounds_toArray, List.set_cons_succ, List.set_cons_zero]
          refine wpAnyH_all (rs := [11]) (by kernel_rfl) (by simp) ?_
          intro i0 hi0
          obtain rfl : i0 = 11 := by simpa using hi0
          clear hi0
          refine wpOp_step (by rfl) (fun K hK => ?_)
          refine step_callG rfl _ #[.agg (icells x.d x.t x.v), .int .i64 k] (by go_simp) (kids_any x.d x.t x.v x.l k w7 HX7.out.hd HX7.out.comps (by have := HX7.out.len; omega)) ?_
          rintro e w8 ⟨v3, rfl, hz3', hbw8⟩
          have hSw8 := hSw7.trans (hbw8.mono hSw7.size)
          have HX8 := Lib.hid (HX7.out.below hbw8)
          have HB8 := Lib.hid (HB7.out.trans (hbw8.mono HB7.out.size))
          have hz3a := hz3'.zrow.zs
          refine ⟨v3, rfl, hK _ _ ⟨hSw8, ?_⟩⟩
          clear hK K hbw8 hz3'
          simp only [List.getElem_toArray, List.getElem_cons_succ, List.getElem_cons_zero, Act.put, List.setIfInBounds_toArray, List.set_cons_succ, List.set_cons_zero]
          refine wpAnyH_all (rs := [14]) (by kernel_rfl) (by simp) ?_
          intro i0 hi0
          obtain rfl : i0 = 14 := by simpa using hi0
          clear hi0
          refine wpOp_step (by rfl) (fun K hK => ?_)
          refine step_callG rfl _ #[.agg (icells x.d x.t x.v), .int .i64 k] (by go_simp) (rkids_any x.d x.t x.v x.l k w8 HX8.out.hd HX8.out.comps (by have := HX8.out.len; omega)) ?_
          rintro e w9 ⟨v4, rfl, hz4', hbw9⟩
          have hSw9 := hSw8.trans (hbw9.mono hSw8.size)
          have HZ3 := Lib.hid (hz3a.below hbw9)
          have HZ4 := Lib.hid hz4'.zrow.zs
          have HB9 := Lib.hid (HB8.out.trans (hbw9.mono HB8.out.size))
          refine ⟨v4, rfl, hK _ _ ⟨hSw9, ?_⟩⟩
          clear hK K hbw9 hz3a hz4'
          simp only [List.getElem_toArray, List.getElem_cons_succ, List.getElem_cons_zero, Act.put, List.setIfInBounds_toArray, List.set_cons_succ, List.set_cons_zero]
          refine wpAnyH_all (rs := [15]) (by kernel_rfl) (by simp) ?_
          intro i0 hi0
          obtain rfl : i0 = 15 := by simpa using hi0
          clear hi0
          refine wpOp_step (by rfl) (fun K hK => ?_)
          refine step_callG rfl _ #[v3, v4] (by go_simp) (sameInts_true v3 v4 _ w9 HZ3.out HZ4.out (by rw [List.length_map]; have := V.kidsTo_len x.l k x.l.length; have := HX8.out.len; unfold V.kids; omega)) ?_
          rintro e w10 ⟨rfl, hbw10⟩
          have hSw10 := hSw9.trans (hbw10.mono hSw9.size)
          refine ⟨_, rfl, hK _ _ ⟨hSw10, ?_⟩⟩
          clear hK K hbw10
          simp only [List.getElem_toArray, List.getElem_cons_succ, List.getElem_cons_zero, Act.put, List.setIfInBounds_toArray, List.set_cons_succ, List.set_cons_zero]
          refine wpAnyH_take (i := 16) (v := .bool false) rfl (by kernel_rfl) (by kernel_rfl) (by kernel_rfl) (fun _ _ _ h => h) (Or.inl ⟨by rfl, fun W _ => by go_simp⟩) hSw10 ?_
          simp only [List.getElem_toArray, List.getElem_cons_succ, List.getElem_cons_zero, Act.put, List.setIfInBounds_toArray, List.set_cons_succ, List.set_cons_zero]
          refine wpAnyH_take (i := 17) (v := .bool false) rfl (by kernel_rfl) (by kernel_rfl) (by kernel_rfl) (fun _ _ _ h => h) (Or.inl ⟨by rfl, fun W _ => by go_simp⟩) hSw10 ?_
          refine wpAnyH_done (by kernel_rfl) ?_ _
          simp only [List.getElem_toArray, List.getElem_cons_succ, List.getElem_cons_zero, Act.put, List.setIfInBounds_toArray, List.set_cons_succ, List.set_cons_zero]
          have HBF := Lib.hid (HBQ.out.trans (hSw10.mono HBQ.out.size))
          clear hkc
          go_wp2
          go_roundw
          case rel => exact ⟨q + 1, by omega, by go_num, HBF.out⟩
          case measure => simp [intOf]; omega
        · obtain rfl : q = 2 := by omega
          have HB4 := Lib.hid (HB3.out.trans (hbq.mono HB3.out.size))
          go_wp2
          go_roundw
          case rel => exact ⟨j + 1, by omega, by go_num, HB4.out⟩
          case measure => simp [intOf]; omega
    · obtain rfl : j = xs.length := by omega
      go_wp2_with fail
      refine (awake19_any _ (HM.out.below HBW.out)).mono ?_
      rintro e w9 ⟨rfl, hb9⟩
      have HB9 := Lib.hid (HBW.out.trans (hb9.mono HBW.out.size))
      clear hb9
      go_wp2
      go_ret
      exact ⟨ret_bool rfl, HB9.out⟩
end Go.Proofs.YtoiabbhppbghdaaDoor
