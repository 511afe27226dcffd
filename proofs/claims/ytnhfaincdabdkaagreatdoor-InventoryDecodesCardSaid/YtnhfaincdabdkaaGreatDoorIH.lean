/-
  Walk: inventories.
  Walk: the reference's Same of two inventories that are the same.
-/
import Derived.Test.YtnhfaincdabdkaaGreatDoorIO
import Derived.Test.YtnhfaincdabdkaaGreatDoorIP
import Derived.Test.YtnhfaincdabdkaaGreatDoorTN
import Derived.Test.YtnhfaincdabdkaaGreatDoorID
import Derived.Test.YtnhfaincdabdkaaGreatDoorPJ
import Derived.Test.YtnhfaincdabdkaaGreatDoorJW
import Derived.Test.YtnhfaincdabdkaaGreatDoorZE
import Derived.OrdersHeld
namespace Go.Proofs.YtnhfaincdabdkaaGreatDoor
open Go.RowKit

/-- a slice of inventories -/
def Invs (W : World) (v : Value) (xs : List IV) : Prop :=
  ∃ a cap, v = .slice a xs.length cap ∧ ∀ j (h : j < xs.length), IVok W xs[j] 1000 ∧ ∃ g off, a = some ⟨g, off, none⟩ ∧ g < W.heap.size ∧ W.rangeAt g (off + j * 34) (icl xs[j])
theorem invIE3 : ∃ ie z, Tryz.prog.info? 27 = some ie ∧ ie.zero = some z ∧ ie.size = 34 ∧ ie.bytes = 64 ∧ z.cells.size = 34 := by
  have h : (match Tryz.prog.info? 27 with | some i => i.size == 34 && (i.bytes == 64 && (match i.zero with | some z => z.cells.size == 34 | none => false)) | none => false) = true := by kernel_rfl
  cases hq : Tryz.prog.info? 27 with
  | none => rw [hq] at h; cases h
  | some i =>
    rw [hq] at h
    simp only [Bool.and_eq_true, beq_iff_eq] at h
    obtain ⟨h1, h2, h3⟩ := h
    cases hz : i.zero with
    | none => rw [hz] at h3; cases h3
    | some z =>
      rw [hz] at h3
      exact ⟨i, z, rfl, hz, h1, h2, by simpa using h3⟩
theorem built2 {a : Act} {e1 e2 : Operand} (p q : List Value) (hp : p.length = 34) (hq : q.length = 34) (h1 : a.eval e1 = .agg p.toArray) (h2 : a.eval e2 = .agg q.toArray) {s : Nat} (hs : s = 34) (z : Array Value) :
    Instr.fill (fun i => some (i * s, s)) ((Array.range (2 * s)).map (z[· % z.size]!)) ((#[(0, e1), (1, e2)] : Array (Nat × Operand)).map fun (i, x) => (i, a.eval x)).toList = some (p ++ q).toArray := by
  subst hs
  have := Great.fill_whole (s := 34) (by decide) [Value.agg p.toArray, Value.agg q.toArray] ((Array.range (2 * 34)).map (z[· % z.size]!)) (fun v hv => by
    simp only [List.mem_cons, List.not_mem_nil, or_false] at hv
    rcases hv with rfl | rfl <;> simp [Value.cells, hp, hq]) (by simp)
  simp only [h1, h2, List.map_toArray, List.map_cons, List.map_nil]
  exact this.trans (by simp [Value.cells])
/-- two inventories as a slice, as a step of a region that draws -/
theorem step_build2I {ops : Array Oper} {o : Oper} {a : Act} {w : World} {K : Act → World → Prop} {Q : Exit → Act → World → Prop} {E : Prop} (hgd : o.guard = none) (e1 e2 : Operand) (ho : o.op = .buildSlice 33 2 #[(0, e1), (1, e2)])
    (x y : IV) (hx : x.d.length = 32) (hy : y.d.length = 32) (h1 : a.eval e1 = .agg (icells x.d x.t x.v)) (h2 : a.eval e2 = .agg (icells y.d y.t y.v))
    (h : K (a.put o.dst (.slice (some ⟨w.heap.size, 0, none⟩) 2 2)) (w.alloc (.cells (icl x ++ icl y).toArray 27))) : if Region.wanted o (yielded ops a.tmps) = true then Oper.wp Tryz.prog o a w K Q else E := by
  rw [if_pos (by simp [Region.wanted, hgd])]
  obtain ⟨ie, z, hie, hz, hsz, _, _⟩ := invIE3
  exact wp_buildSlice _ 27 2 _ ho (icl x ++ icl y).toArray ie z Tryz.underlying33 hie hz (by rw [hsz]; decide) (by rw [hsz]; decide) (built2 (icl x) (icl y) (icl_len hx) (icl_len hy) h1 h2 hsz z.cells) h
/-- one inventory as a slice -/
theorem wl_build1I {ops : Array Oper} {rest : List Oper} {o : Oper} {a : Act} {w : World} {Q : Exit → Act → World → Prop} (hgd : o.guard = none) (e1 : Operand) (ho : o.op = .buildSlice 33 1 #[(0, e1)])
    (x : IV) (hx : x.d.length = 32) (h1 : a.eval e1 = .agg (icells x.d x.t x.v))
    (h : wpList Tryz.prog ops Q rest (a.put o.dst (.slice (some ⟨w.heap.size, 0, none⟩) 1 1)) (w.alloc (.cells (icells x.d x.t x.v) 27))) : wpList Tryz.prog ops Q (o :: rest) a w := by
  obtain ⟨ie, z, hie, hz, hsz, _, _⟩ := invIE3
  refine wpList_buildSlice hgd _ 27 1 _ ho (icells x.d x.t x.v) ie z Tryz.underlying33 hie hz (by rw [hsz]; decide) (by rw [hsz]; decide) ?_ h
  have := Great.fill_whole (s := 34) (by decide) [Value.agg (icells x.d x.t x.v)] ((Array.range (1 * ie.size)).map (z.cells[· % z.cells.size]!)) (fun v hv => by
    rcases List.mem_cons.1 hv with rfl | hv
    · exact icells_size hx _ _
    · cases hv) (by rw [hsz]; simp)
  rw [hsz] at this ⊢
  simp only [h1, List.map_toArray, List.map_cons, List.map_nil]
  exact this.trans (by simp [Value.cells])
/-- one inventory appended -/
theorem wl_append1I {ops : Array Oper} {rest : List Oper} {o : Oper} {a : Act} {w : World} {Q : Exit → Act → World → Prop} (hgd : o.guard = none) (s x : Operand)
    (ho : o.op = .call { callee := .builtin .append, args := #[s, x], argTypes := #[33, 33] })
    (N n : Nat) (v : Value) (xs : List Value) (hs : a.eval s = v) (hown : w.ownsRow N 27 34 v n xs) (b : Nat) (y : IV) (hy : y.d.length = 32) (hyv : y.v.oneCell' = true) (hx : a.eval x = .slice (some ⟨b, 0, none⟩) 1 1) (hr : w.rangeAt b 0 (icl y)) (hl : n ≤ 1000) (hN : N ≤ w.heap.size)
    (h : ∀ v' w', w'.ownsRow N 27 34 v' (n + 1) (xs ++ icl y) → w.grownBy w' v.ownBlock → wpList Tryz.prog ops Q rest (a.put o.dst v') w') : wpList Tryz.prog ops Q (o :: rest) a w := by
  obtain ⟨ie, z, hi, hz, h1, h2, h3⟩ := invIE3
  refine wpList_append_own w hgd s x 33 ho N 27 ie z 34 64 Tryz.underlying33 hi hz h1 h2 h3 (by decide) v n xs hs hown ⟨b, 0, none⟩ 1 1 (icl y) hx (by rw [icl_len hy]) ?_ (icl_one hyv) (by unfold maxLen; omega) (by omega) hN ?_
  · intro j u hj
    rw [Addr.add_mid]
    exact hr j u hj
  · intro v' w' ho' hg _
    exact h v' w' ho' hg
theorem row_invs {w : World} {N : Nat} {v : Value} {xs : List IV} (h : w.ownsRow N 27 34 v xs.length (xs.flatMap icl)) (hok : ∀ x ∈ xs, IVok w x 1000) : Invs w v xs := by
  have hlen : ∀ {ys : List IV}, (∀ y ∈ ys, y.d.length = 32) → ∀ j (hj : j < ys.length) i, i < 34 → (ys.flatMap icl)[j * 34 + i]? = (icl ys[j])[i]? := by
    intro ys
    induction ys with
    | nil => intro _ j hj; simp at hj
    | cons y r ih =>
      intro hy j hj i hi
      have h34 := icl_len (hy y (by simp))
      cases j with
      | zero =>
        rw [List.flatMap_cons, List.getElem?_append_left (by omega)]
        simp
      | succ j =>
        rw [List.flatMap_cons, List.getElem?_append_right (by omega), h34, show (j + 1) * 34 + i - 34 = j * 34 + i by omega]
        rw [ih (fun z hz => hy z (by simp [hz])) j (by simpa using hj) i hi]
        simp
  rcases h.2 with ⟨rfl, h0⟩ | ⟨g, cap, cur, rfl, hrest⟩
  · exact ⟨none, 0, by rw [h0], fun j hj => by omega⟩
  · refine ⟨_, cap, rfl, fun j hj => ⟨hok _ (List.getElem_mem hj), g, 0, rfl, ?_, fun i u hu => ?_⟩⟩
    · have := World.ownsRow.cellAt h (j * 34) (by omega)
      rw [show j * 34 = j * 34 + 0 by omega, hlen (fun y hy => (hok y hy).hd) j hj 0 (by omega)] at this
      have h34 := icl_len (hok _ (List.getElem_mem hj)).hd
      rw [List.getElem?_eq_getElem (by omega)] at this
      exact World.block_lt_of_cell? _ _ this
    · have h34 := icl_len (hok _ (List.getElem_mem hj)).hd
      have hi : i < 34 := by have := (List.getElem?_eq_some_iff.1 hu).1; omega
      have := World.ownsRow.cellAt h (j * 34 + i) (by omega)
      rw [Nat.zero_add, this, hlen (fun y hy => (hok y hy).hd) j hj i hi]
      exact hu

def InvsPost (w : World) (e : Ending) (w' : World) : Prop := ∃ v xs, e = .returned v ∧ Invs w' v xs ∧ xs.length ≤ 3 ∧ Below w.heap.size w w'

set_option maxRecDepth 100000 in
set_option maxHeartbeats 12800000 in
theorem inventories_any (x : IV) (a : Option Addr) (m cap : Nat) (w : World) (hd : x.d.length = 32) (hw : ∀ n ∈ x.d, (Lit.int .u8 n).wf = true) (hc : Comps w x.v x.l) (ht : Nums w a m) :
    Calls Tryz.prog 17 #[.agg (icells x.d x.t x.v), .slice a m cap] w (InvsPost w) := by
  have HT := Lib.hid ht
  have H1 := Lib.hid (And.intro hd (And.intro hw hc))
  clear ht hd hw hc
  have hg1 : ((w.alloc (.cells (icells x.d x.t x.v) 27)).alloc (.cells #[.slice a m cap, .int .i64 0] 81)).heap[w.heap.size]? = some (.cells (icells x.d x.t x.v) 27 (0, 0)) := by
    rw [Below.heap_alloc _ _ _ (by simp)]; exact heap_alloc_new w _
  have hb0 : Below w.heap.size w ((w.alloc (.cells (icells x.d x.t x.v) 27)).alloc (.cells #[.slice a m cap, .int .i64 0] 81)) := ((Below.refl _ w).alloc (Nat.le_refl _) _).alloc (by simp) _
  have hsz : (w.alloc (.cells (icells x.d x.t x.v) 27)).heap.size = w.heap.size + 1 := by simp
  have HTP : Hid (Tape ((w.alloc (.cells (icells x.d x.t x.v) 27)).alloc (.cells #[.slice a m cap, .int .i64 0] 81)) (w.heap.size + 1) 0) := Lib.hid (by
    rw [← hsz]
    exact Tape.made HT.out hb0 (by omega) (by rw [World.cell?_alloc_new]; rfl) (by rw [World.cell?_alloc_new]; rfl) (by rw [frozen_alloc, if_pos rfl]))
  have hz0 : w.heap.size + 1 < ((w.alloc (.cells (icells x.d x.t x.v) 27)).alloc (.cells #[.slice a m cap, .int .i64 0] 81)).heap.size := by simp
  have HB0 := Lib.hid hb0
  have HG1 := Lib.hid hg1
  clear hb0 hg1 hsz
  go_enter Tryz.func17, Tryz.ntmps17
  go_wp2_with fail
  generalize (w.alloc (.cells (icells x.d x.t x.v) 27)).alloc (.cells #[.slice a m cap, .int .i64 0] 81) = w3 at *
  refine (made_any (w.heap.size + 1) 0 _ HTP.out (by omega)).mono ?_
  rintro e w4 ⟨tc, vc, lc, hmc, rfl, ht4, hg4⟩
  obtain ⟨T, hT⟩ : ∃ T, T = w.heap.size + 1 := ⟨_, rfl⟩
  rw [← hT] at hz0 ht4 hg4 ⊢
  have hs4 := hg4.size
  have hrc : CRow w4 (T + 1) vc lc := hmc.row.less (by omega)
  have hlc := hmc.len
  have oc := hrc.comps.one
  have hB4 : Below w.heap.size w w4 := HB0.out.trans (grown_below hg4 (by omega) HB0.out.size)
  have hk1 : w4.heap[w.heap.size]? = _ := (hg4.block w.heap.size (by omega) (by simp; omega)).trans HG1.out
  have hbA : Below w4.heap.size w4 (w4.alloc (.cells (icells (dig1 1) tc vc) 27)) := (Below.refl _ w4).alloc (Nat.le_refl _) _
  have HRC := Lib.hid (hrc.kept2 (below_grown hbA none) (fun b e => by cases e))
  have HGC : Hid ((w4.alloc (.cells (icells (dig1 1) tc vc) 27)).heap[w4.heap.size]? = some (.cells (icells (dig1 1) tc vc) 27 (0, 0))) := Lib.hid (heap_alloc_new w4 _)
  have HGA := Lib.hid ((hbA.block w.heap.size (by omega)).trans hk1)
  have HTW := Lib.hid (ht4.below hbA)
  have HBW := Lib.hid (hB4.trans (hbA.mono hB4.size))
  have hzW : w4.heap.size < (w4.alloc (.cells (icells (dig1 1) tc vc) 27)).heap.size := by simp
  have hT4 : T < w4.heap.size := by omega
  clear hmc ht4 hg4 hrc hB4 hk1 hbA HTP HB0 HG1 hs4 hz0
  go_wp2_with (first | (refine wl_storeI rfl _ _ rfl _ rfl ⟨dig1 1, tc, vc, lc⟩ rfl oc rfl rfl ?_; generalize hww : w4.alloc (.cells (icells (dig1 1) tc vc) 27) = WA at *; clear hww; generalize w4.heap.size = C at *) | fail)
  refine wp_region_held (S := fun W => WA.grownBy W (some T)) (by kernel_rfl) ?_
  have hS0 : WA.grownBy WA.drew (some T) := drew_grown WA _
  change wpAnyH _ _ _ _ _ _ _ _ (World.drew _)
  have hbd := (Below.refl WA.heap.size WA).drew
  have HTD := Lib.hid (HTW.out.below hbd)
  have HCD := Lib.hid (HRC.out.kept2 (drew_grown WA (some T)) (fun b e h => by cases e; have := HRC.out.block _ h; omega))
  have HBD := Lib.hid HBW.out.drew
  have hzT : T < WA.heap.size := by omega
  have hzw : w.heap.size ≤ WA.heap.size := HBW.out.size
  clear hbd
  generalize WA.drew = WD at *
  simp only [Act.put]
  refine wpAnyH_take (i := 0) (v := .agg (icells (dig1 1) tc vc)) rfl (by kernel_rfl) (by kernel_rfl) (by kernel_rfl) (fun _ _ _ h => h) (Or.inl ⟨by rfl, fun W hS => ex_load rfl rfl (load_invR (x := ⟨dig1 1, tc, vc, lc⟩) rfl (inv_rangeAll (x := ⟨dig1 1, tc, vc, lc⟩) ((hS.block C (by omega) (by simp; omega)).trans HGC.out)))⟩) hS0 ?_
  refine wpAnyH_take (i := 1) (v := .agg (icells (dig1 1) tc vc)) rfl (by kernel_rfl) (by kernel_rfl) (by kernel_rfl) (fun _ _ _ h => h) (Or.inl ⟨by rfl, fun W hS => ex_load rfl rfl (load_invR (x := ⟨dig1 1, tc, vc, lc⟩) rfl (inv_rangeAll (x := ⟨dig1 1, tc, vc, lc⟩) ((hS.block C (by omega) (by simp; omega)).trans HGC.out)))⟩) hS0 ?_
  refine wpAnyH_take (i := 2) (v := .pointer (some ⟨T, 0, none⟩)) rfl (by kernel_rfl) (by kernel_rfl) (by kernel_rfl) (fun _ _ _ h => h) (Or.inl ⟨by rfl, fun W _ => by go_simp⟩) hS0 ?_
  simp only [List.getElem_toArray, List.getElem_cons_succ, List.getElem_cons_zero, Act.put, List.setIfInBounds_toArray, List.set_cons_succ, List.set_cons_zero]
  refine wpAnyH_all (rs := [3]) (by kernel_rfl) (by simp) ?_
  intro i hi
  obtain rfl : i = 3 := by simpa using hi
  clear hi
  refine wpOp_step (by rfl) (fun K hK => ?_)
  refine step_call rfl _ #[.agg (icells (dig1 1) tc vc), .pointer (some ⟨T, 0, none⟩)] (by go_simp) (odd_any T (0 + 50) (dig1 1) tc vc lc WD HTD.out (by omega) rfl (by decide) HCD.out.comps (by omega)) ?_
  rintro e w7 ⟨d', t', v', l', rfl, hd', hdw', hc', hl', hg'⟩
  have hS7 := World.grownBy.trans hS0 hg'
  refine ⟨_, rfl, hK _ _ ⟨hS7, ?_⟩⟩
  clear hK K
  have HO := Lib.hid (And.intro hd' (And.intro hdw' hc'))
  have HC7 := Lib.hid (HCD.out.kept2 hg' (fun b e h => by cases e; have := HCD.out.block _ h; omega))
  have HB7 := Lib.hid (HBD.out.trans (grown_below hg' (by omega) HBD.out.size))
  have HA7 := Lib.hid ((hS7.block w.heap.size (by omega) (by simp; omega)).trans HGA.out)
  have hz7 : WA.heap.size ≤ w7.heap.size := hS7.size
  clear hd' hdw' hc' hg' HCD HTD HTW HRC
  simp only [List.getElem_toArray, List.getElem_cons_succ, List.getElem_cons_zero, Act.put, List.setIfInBounds_toArray, List.set_cons_succ, List.set_cons_zero]
  refine wpAnyH_all (rs := [4]) (by kernel_rfl) (by simp) ?_
  intro i hi
  obtain rfl : i = 4 := by simpa using hi
  clear hi
  refine wpOp_step (by rfl) (fun K hK => step_build2I rfl _ _ rfl ⟨dig1 1, tc, vc, lc⟩ ⟨d', t', v', l'⟩ rfl HO.out.1 rfl rfl (hK _ _ ⟨World.grownBy.trans hS7 (World.grownBy_alloc w7 _ (some T)), ?_⟩))
  clear hK K
  simp only [List.getElem_toArray, List.getElem_cons_succ, List.getElem_cons_zero, Act.put, List.setIfInBounds_toArray, List.set_cons_succ, List.set_cons_zero]
  refine wpAnyH_take (i := 5) (v := .slice (some ⟨w7.heap.size, 0, none⟩) 2 2) rfl (by kernel_rfl) (by kernel_rfl) (by kernel_rfl) (fun _ _ _ h => h) (Or.inl ⟨by rfl, fun W _ => by go_simp⟩) (World.grownBy.trans hS7 (World.grownBy_alloc w7 _ (some T))) ?_
  refine wpAnyH_done (by kernel_rfl) ?_ _
  simp only [List.getElem_toArray, List.getElem_cons_succ, List.getElem_cons_zero, Act.put, List.setIfInBounds_toArray, List.set_cons_succ, List.set_cons_zero]
  have hb8 : Below w7.heap.size w7 (w7.alloc (.cells (icl ⟨dig1 1, tc, vc, lc⟩ ++ icl ⟨d', t', v', l'⟩).toArray 27)) := (Below.refl _ w7).alloc (Nat.le_refl _) _
  have HB8 := Lib.hid (HB7.out.trans (hb8.mono HB7.out.size))
  have HA8 := Lib.hid ((hb8.block w.heap.size (by omega)).trans HA7.out)
  have HROW : Hid ((w7.alloc (.cells (icl ⟨dig1 1, tc, vc, lc⟩ ++ icl ⟨d', t', v', l'⟩).toArray 27)).ownsRow w7.heap.size 27 34 (.slice (some ⟨w7.heap.size, 0, none⟩) 2 2) 2 (icl ⟨dig1 1, tc, vc, lc⟩ ++ icl ⟨d', t', v', l'⟩)) := Lib.hid (by
    have := World.ownsRow_lit (e := 27) (size := 34) w7 (icl ⟨dig1 1, tc, vc, lc⟩ ++ icl ⟨d', t', v', l'⟩).toArray 2 (Nat.le_refl _) (by decide) (by rw [List.size_toArray, List.length_append, icl_len rfl, icl_len HO.out.1])
    simpa using this)
  have HCK : Hid (∀ W, Below w7.heap.size w7 W → ∀ y ∈ [(⟨dig1 1, tc, vc, lc⟩ : IV), ⟨d', t', v', l'⟩], IVok W y 1000) := Lib.hid (by
    intro W hb y hy
    simp only [List.mem_cons, List.not_mem_nil, or_false] at hy
    rcases hy with rfl | rfl
    · exact ⟨rfl, (by decide : ∀ n ∈ dig1 1, (Lit.int .u8 n).wf = true), HC7.out.comps.below hb, by show lc.length ≤ 1000; omega⟩
    · exact ⟨HO.out.1, HO.out.2.1, HO.out.2.2.below hb, by show l'.length ≤ 1000; omega⟩)
  have HK8 := Lib.hid hb8
  have hz8 : w7.heap.size < (w7.alloc (.cells (icl ⟨dig1 1, tc, vc, lc⟩ ++ icl ⟨d', t', v', l'⟩).toArray 27)).heap.size := by simp
  have hw7 : w.heap.size < w7.heap.size := by omega
  clear hb8 HO HC7 HB7 HA7 hS7 hS0
  generalize w7.alloc (.cells (icl ⟨dig1 1, tc, vc, lc⟩ ++ icl ⟨d', t', v', l'⟩).toArray 27) = w8 at *
  generalize w7.heap.size = B at *
  go_wp2_with (first | (refine wl_loadR rfl _ rfl w.heap.size 0 rfl x H1.out.1 (inv_rangeAll HA8.out) ?_) | fail)
  refine (light_any x.d x.t x.v x.l w8 H1.out.1 (H1.out.2.2.below (HB8.out.mono (Nat.le_refl _)))).mono ?_
  rintro e w9 ⟨r1, rfl, hr1, hb9⟩
  have HB9 := Lib.hid (HB8.out.trans (hb9.mono HB8.out.size))
  have HA9 := Lib.hid ((hb9.block w.heap.size (by omega)).trans HA8.out)
  have HK9 := Lib.hid (HK8.out.trans (hb9.mono (Nat.le_of_lt hz8)))
  have HROW' : Hid (w9.ownsRow B 27 34 (.slice (some ⟨B, 0, none⟩) 2 2) 2 (icl ⟨dig1 1, tc, vc, lc⟩ ++ icl ⟨d', t', v', l'⟩)) := Lib.hid (by
    obtain ⟨h1, h2⟩ := HROW.out
    refine ⟨h1, ?_⟩
    rcases h2 with h2 | ⟨g, cap, cur, e, hbb, hg, rest⟩
    · exact .inl h2
    · exact .inr ⟨g, cap, cur, e, hbb, (hb9.block g (Array.getElem?_eq_some_iff.1 hg).1).trans hg, rest⟩)
  have hz9 : B < w9.heap.size := Nat.lt_of_lt_of_le hz8 hb9.size
  clear hb9 HROW HK8 HA8 HB8 hz8
  rcases r1 with _ | _
  · go_wp2
    go_ret
    exact ⟨_, [⟨dig1 1, tc, vc, lc⟩, ⟨d', t', v', l'⟩], rfl, row_invs (N := B) (by simpa using HROW'.out) (HCK.out _ HK9.out), by simp, HB9.out⟩
  · have hl1 := hr1 rfl
    have hbb : Below w9.heap.size w9 (w9.alloc (.cells (icells x.d x.t x.v) 27)) := (Below.refl _ w9).alloc (Nat.le_refl _) _
    have HR10 : Hid ((w9.alloc (.cells (icells x.d x.t x.v) 27)).ownsRow B 27 34 (.slice (some ⟨B, 0, none⟩) 2 2) 2 (icl ⟨dig1 1, tc, vc, lc⟩ ++ icl ⟨d', t', v', l'⟩)) := Lib.hid (by
      obtain ⟨h1, h2⟩ := HROW'.out
      refine ⟨h1, ?_⟩
      rcases h2 with h2 | ⟨g, cap, cur, e, hbb', hg, rest⟩
      · exact .inl h2
      · exact .inr ⟨g, cap, cur, e, hbb', (hbb.block g (Array.getElem?_eq_some_iff.1 hg).1).trans hg, rest⟩)
    have HX10 : Hid ((w9.alloc (.cells (icells x.d x.t x.v) 27)).rangeAt w9.heap.size 0 (icl x)) := Lib.hid (inv_rangeAll (heap_alloc_new w9 _))
    have HK10 := Lib.hid (HK9.out.trans (hbb.mono (Nat.le_of_lt hz9)))
    have HB10 := Lib.hid (HB9.out.trans (hbb.mono HB9.out.size))
    have hz10 : B < (w9.alloc (.cells (icells x.d x.t x.v) 27)).heap.size := by simp; omega
    have ox := H1.out.2.2.one
    clear hbb
    go_wp2_with (first | (refine wl_loadR rfl _ rfl w.heap.size 0 rfl x H1.out.1 (inv_rangeAll HA9.out) ?_) | (refine wl_build1I rfl _ rfl x H1.out.1 rfl ?_) | (refine wl_append1I rfl _ _ rfl B 2 (.slice (some ⟨B, 0, none⟩) 2 2) _ rfl HR10.out w9.heap.size x H1.out.1 ox rfl HX10.out (by omega) (by omega) ?_; intro v11 w11 hr11 hg11) | fail)
    have hbk : Below B (w9.alloc (.cells (icells x.d x.t x.v) 27)) w11 := ⟨hg11.os, hg11.tape, hg11.output, hg11.size, fun q hq => hg11.block q (by omega) (fun e => by simp [Value.ownBlock] at e; omega)⟩
    have HB11 := Lib.hid (HB10.out.trans (hbk.mono (by omega)))
    have HK11 := Lib.hid (HK10.out.trans hbk)
    have HR11 := Lib.hid hr11
    obtain ⟨n11, hn11⟩ : ∃ a cap, v11 = .slice a 3 cap := by
      rcases hr11.2 with ⟨_, h0⟩ | ⟨g, cap, cur, e, _⟩
      · omega
      · exact ⟨_, cap, e⟩
    obtain ⟨c11, hv11⟩ := hn11
    subst hv11
    clear hr11 hg11 hbk
    go_wp2
    go_ret
    refine ⟨_, [⟨dig1 1, tc, vc, lc⟩, ⟨d', t', v', l'⟩, x], rfl, row_invs (N := B) (by simpa using HR11.out) ?_, by simp, HB11.out⟩
    intro y hy
    simp only [List.mem_cons, List.not_mem_nil, or_false] at hy
    rcases hy with rfl | rfl | rfl
    · exact HCK.out _ HK11.out _ (by simp)
    · exact HCK.out _ HK11.out _ (by simp)
    · exact ⟨H1.out.1, H1.out.2.1, H1.out.2.2.below (HB11.out.mono (Nat.le_refl _)), by omega⟩
end Go.Proofs.YtnhfaincdabdkaaGreatDoor
namespace Go.Proofs.YtnhfaincdabdkaaGreatDoor
open Go.RowKit

/-- in a region that only reads: two components compared -/
theorem still_neq {ops : Array Oper} {o : Oper} {a : Act} {w : World} {K : Act → Prop} {E : Prop} (hw : Region.wanted o (yielded ops a.tmps) = true) (x y : Operand) (ho : o.op = .binOp .neq 88 x y 88)
    (c d : V.Comp) (hc : CompWf c) (hd : CompWf d) (hx : a.eval x = .agg (ccells c)) (hy : a.eval y = .agg (ccells d)) (h : K (a.put o.dst (.bool (!decide (c = d))))) :
    if Region.wanted o (yielded ops a.tmps) = true then o.still Tryz.prog a w K else E := by
  rw [if_pos hw]
  unfold Oper.still execOp
  simp only [ho, hx, hy, Sem.run_bind, run_eqGuard_agg w .neq 88 x y _ _ guard_comp, Result.andThen_ok, run_neq_struct, eq_comp hc hd, Sem.run_pure, Oper.stillUpon_value]
  exact h

set_option maxRecDepth 100000 in
set_option maxHeartbeats 1600000 in
theorem same_true (d : List Int) (t : Int) (v v' : Value) (l : List V.Comp) (w : World) (hd : d.length = 32) (hdw : ∀ n ∈ d, (Lit.int .u8 n).wf = true) (hv : Comps w v l) (hv' : Comps w v' l) (hl : l.length ≤ 100000) :
    Calls Tryz.prog 16 #[.agg (icells d t v), .agg (icells d t v')] w fun e w' => e = .returned (.bool true) ∧ Below w.heap.size w w' := by
  have HL := Lib.hid hv
  have HL' := Lib.hid hv'
  obtain ⟨va, vc, rfl, hjunk⟩ := hv
  clear hjunk
  obtain ⟨va', vc', rfl, hjunk⟩ := hv'
  clear hjunk
  obtain ⟨W0, hW0⟩ : ∃ W0, W0 = (w.alloc (.cells (icells d t (.slice va l.length vc)) 27)).alloc (.cells (icells d t (.slice va' l.length vc')) 27) := ⟨_, rfl⟩
  have hsz : W0.heap.size = w.heap.size + 2 := by rw [hW0]; simp
  have HB0 : Hid (Below w.heap.size w W0) := Lib.hid (by rw [hW0]; exact ((Below.refl _ w).alloc (Nat.le_refl _) _).alloc (by simp) _)
  have hg0 : W0.heap[w.heap.size]? = some (.cells (icells d t (.slice va l.length vc)) 27 (0, 0)) := by
    rw [hW0, Below.heap_alloc _ _ _ (by simp)]; exact heap_alloc_new w _
  have hg1 : W0.heap[w.heap.size + 1]? = some (.cells (icells d t (.slice va' l.length vc')) 27 (0, 0)) := by
    rw [hW0]; have := heap_alloc_new (w.alloc (.cells (icells d t (.slice va l.length vc)) 27)) (.cells (icells d t (.slice va' l.length vc')) 27); simpa using this
  have HR := Lib.hid (inv_range hd hg0)
  have HR' := Lib.hid (inv_range hd hg1)
  have x32 : W0.cell? ⟨w.heap.size, 32, none⟩ = some (.int .i64 t) := by rw [cell_of_row W0 _ 32 _ _ _ hg0]; exact icells_32 hd t _
  have y32 : W0.cell? ⟨w.heap.size + 1, 32, none⟩ = some (.int .i64 t) := by rw [cell_of_row W0 _ 32 _ _ _ hg1]; exact icells_32 hd t _
  have x33 : W0.cell? ⟨w.heap.size, 33, none⟩ = some (.slice va l.length vc) := by rw [cell_of_row W0 _ 33 _ _ _ hg0]; exact icells_33 hd t _
  have y33 : W0.cell? ⟨w.heap.size + 1, 33, none⟩ = some (.slice va' l.length vc') := by rw [cell_of_row W0 _ 33 _ _ _ hg1]; exact icells_33 hd t _
  have HI : Hid ((Tryz.prog.info? 24).map (·.size) = some (dcellsL d).length) := Lib.hid (by rw [digInfo]; unfold dcellsL; simp [hd])
  have HQ : Hid (∀ w, (Op.equalIn 10000 24 (.agg (dcells d)) (.agg (dcells d))).run Tryz.prog w = .ok true w) := Lib.hid (fun w => by rw [eq_dig hd hdw hd hdw w]; simp)
  clear hd hdw hg0 hg1
  generalize icells d t (.slice va l.length vc) = ic at *
  generalize icells d t (.slice va' l.length vc') = ic' at *
  go_enter Tryz.func16, Tryz.ntmps16
  go_wp2_with (first | (rw [← hW0]; clear hW0; refine wpList_load_mid rfl 24 _ rfl w.heap.size 0 rfl (dcellsL d) _ HR.out Tryz.underlying24 rfl HI.out ?_) | (refine wpList_load_mid rfl 24 _ rfl (w.heap.size + 1) 0 rfl (dcellsL d) _ HR'.out Tryz.underlying24 rfl HI.out ?_) | (refine wl_neq rfl 24 24 _ _ rfl (dcells d) (dcells d) rfl rfl guard_dig true (HQ.out _) ?_) | fail)
  go_loopw [5] (fun jv wx => ∃ j : Nat, j ≤ l.length ∧ jv = .int .i64 j ∧ Below W0.heap.size W0 wx) (fun jv _ => l.length - (intOf jv).toNat)
  case atStart => exact ⟨0, Nat.zero_le _, rfl, Below.refl _ _⟩
  case round =>
    obtain ⟨j, hj, rfl, hbx⟩ := hrel
    have HBX := Lib.hid hbx
    have hx33 := (hbx.cell (p := ⟨w.heap.size, 33, none⟩) (show w.heap.size < W0.heap.size by omega)).trans x33
    by_cases hlt : j < l.length
    · obtain ⟨hdw, g, off, rfl, hgl, hgr⟩ := HL.out.at j hlt
      obtain ⟨hdw2, g', off', rfl, hgl', hgr'⟩ := HL'.out.at j hlt
      have HDW := Lib.hid hdw
      have HDR := Lib.hid (rangeAt_below (rangeAt_below (rangeAt_below hgr HB0.out) (HBX.out)) (Below.refl _ wr).drew)
      have HDR' := Lib.hid (rangeAt_below (rangeAt_below (rangeAt_below hgr' HB0.out) (HBX.out)) (Below.refl _ wr).drew)
      have hd33 := (hbx.drew.cell (p := ⟨w.heap.size, 33, none⟩) (show w.heap.size < W0.heap.size by omega)).trans x33
      have he33 := (hbx.drew.cell (p := ⟨w.heap.size + 1, 33, none⟩) (show w.heap.size + 1 < W0.heap.size by omega)).trans y33
      have hi1 : (0 : Int) ≤ (j : Int) := by omega
      have hi2 : (j : Int) < (l.length : Int) := by omega
      clear hdw hdw2 hgr hgr' hbx
      generalize l[j] = c at *
      go_wp2
      refine wp_region_still_lit (by kernel_rfl) (by kernel_rfl) ?_
      still_step
      still_step
      still_step
      still_step
      refine wpStill_step (fun K hK => ?_)
      refine still_load rfl (.tmp 37) rfl g (off + j * 36) rfl c HDW.out HDR.out (hK _ ?_)
      clear hK K
      still_step
      still_step
      still_step
      still_step
      refine wpStill_step (fun K hK => ?_)
      refine still_load rfl (.tmp 42) rfl g' (off' + j * 36) rfl c HDW.out HDR'.out (hK _ ?_)
      clear hK K
      refine wpStill_step (fun K hK => ?_)
      refine still_neq rfl (.tmp 38) (.tmp 43) rfl c c HDW.out HDW.out rfl rfl (hK _ ?_)
      clear hK K
      refine wpStill_nil ?_
      have HBD := Lib.hid HBX.out.drew
      change Exit.then _ _ _ _ wr.drew
      rw [decide_eq_true (rfl : c = c)]
      clear hd33 he33 hx33
      go_wp2
      go_roundw
      case rel => exact ⟨j + 1, by omega, by go_num, HBD.out⟩
      case measure => simp [intOf]; omega
    · obtain rfl : j = l.length := by omega
      go_wp2
      go_ret
      exact ⟨ret_bool rfl, HB0.out.trans (HBX.out.mono HB0.out.size)⟩
end Go.Proofs.YtnhfaincdabdkaaGreatDoor
