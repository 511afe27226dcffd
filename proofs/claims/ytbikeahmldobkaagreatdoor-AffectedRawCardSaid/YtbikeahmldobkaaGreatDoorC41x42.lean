/-
  Lemmas for the law.
-/
import Derived.Test.YtbikeahmldobkaaGreatDoorC41x41
import Derived.Test.YtbikeahmldobkaaGreatDoorC41x12
import Derived.Test.YtbikeahmldobkaaGreatDoorC41x10
import Derived.Test.YtbikeahmldobkaaGreatDoorC41x13
import Derived.Laws.OwnMore
set_option linter.all false
set_option maxRecDepth 100000
set_option maxHeartbeats 3200000
namespace Go.Proofs.YtbikeahmldobkaaGreatDoor
open Go.RowKit Go.Shelf
attribute [local go_sem] Oper.semAt_some
theorem zgr (ic : Array Value) (i : Int) (w : World) :
  Calls Tryz.prog 76 #[.agg ic, .int .i64 i] w fun e w' =>
   e = .returned (.func (.func 109) #[] #[.pointer (some ⟨w.heap.size + 1, 0, none⟩), .pointer (some ⟨w.heap.size, 0, none⟩)]) /\
   w' = (w.alloc (.cells ic 29)).alloc (.cells #[.int .i64 i] 3) := by
 go_enter Tryz.func76, Tryz.ntmps76
 go_wp2
 go_ret
 exact ⟨rfl, rfl⟩
def zkn (l : List V.Comp) (ok : Bool) (i : Int) (w : World) (e : Ending) (w' : World) : Prop :=
 ∃ v, e = .returned v /\ Zs w' v (if ok = true /\ 0 ≤ i /\ i < l.length then (V.anc l i).reverse else []) /\ Below w.heap.size w w'
theorem zrd {P : Prop} (h : P := by
 gi_wp2
 refine ⟨.slice none 0 0, by simp [results, Tryz.f43, go_sem], _, rfl, ?_, HB1.out⟩
 rw [if_neg (by omega)]
 exact Zs.nil _) : P := h
theorem zsb {P : Prop} (h : P := by
 rw [hW0, hO]; simp only [zj, World.size_alloc]; repeat (first | rw [if_pos (by omega)] | rw [if_neg (by omega)])
 rfl) : P := h
theorem zsc {P : Prop} (h : P := by
 rw [hW0, hO]; simp only [qj, World.size_alloc]; repeat (first | rw [if_pos (by omega)] | rw [if_neg (by omega)])
 rfl) : P := h
theorem path_in (d : List Int) (time : Int) (v : Value) (l : List V.Comp) (i : Int) (w : World) (hm : zm w) (hd : d.length = 32) (hdw : ∀ n ∈ d, (Lit.int .u8 n).wf = true) (hv : Comps w v l) (hl : l.length ≤ 100000) :
  CallsIn Fence.wide 6 Tryz.prog 43 #[.agg (icells d time v), .int .i64 i] w (zkn l (V.qc d time l) i w) := by
 have HM := zpa hm
 have HL := zpa hv
 have HD := zpa hd
 have HDW := zpa hdw
 have h33 := xq hd time v
 have HSZ := zpa (qo hd time v)
 obtain ⟨va, vc, rfl, hjunk⟩ := hv
 clear hd hdw hjunk hm
 refine callsIn_of_wp_marks Tryz.func43 rfl trivial ?_ rfl
 simp only [Tryz.ntmps43, List.size_toArray, List.length_cons, List.length_nil, Nat.reduceAdd, Nat.reduceSub, Array.replicate_succ, Array.replicate_zero, List.push_toArray, List.append_toArray, List.nil_append, List.cons_append]
 gi_wp2_with (first | (refine zj2 rfl _ rfl w.heap.size _ rfl (icells d time (.slice va l.length vc)) HSZ.out (heap_alloc_new w _) ?_) | fail)
 refine ⟨trivial, (callsIn_wide.2 (zd2 d time (.slice va l.length vc) l _ (HM.out.below ((zpd _ w).alloc (zpc _) _)) HD.out HDW.out (HL.out.below ((zpd _ w).alloc (zpc _) _)) (by unfold maxLen; omega))).mono ?_⟩
 rintro e w1 ⟨rfl, hb1⟩
 have hb0 := (zpd w.heap.size w).alloc (zpc _) (.cells (icells d time (.slice va l.length vc)) 29)
 have HB1 := zpa (hb0.trans (hb1.mono hb0.size))
 have hg1 : w1.heap[w.heap.size]? = some (.cells (icells d time (.slice va l.length vc)) 29 (0, 0)) := (hb1.block _ (by simp)).trans (heap_alloc_new w _)
 have hz1 : w.heap.size < w1.heap.size := Nat.lt_of_lt_of_le (by simp) hb1.size
 have HVO : Hid (V.qc d time l = true -> V.zy l l.length = true) := zpa (fun h => by unfold V.qc at h; exact (Bool.and_eq_true_iff.1 h).2)
 clear hb0 hb1
 generalize V.qc d time l = ok at *
 rcases ok with _ | _
 ·gi_wp2
  refine ⟨.slice none 0 0, by simp [results, Tryz.f43, go_sem], _, rfl, ?_, HB1.out⟩
  rw [if_neg (by simp)]
  exact Zs.nil _
 ·have HO := zpa (HVO.out rfl)
  have hc33 : w1.cell? ⟨w.heap.size, 33, none⟩ = some (.slice va l.length vc) := by rw [cell_of_row w1 w.heap.size 33 _ _ _ hg1]; exact h33
  by_cases hi0 : i < 0
  ·exact zrd
  ·by_cases hil : (l.length : Int) ≤ i
   ·exact zrd
   ·have HG2 : Hid ((w1.alloc (.cells #[.slice none 0 0] 22)).heap[w.heap.size]? = some (.cells (icells d time (.slice va l.length vc)) 29 (0, 0))) := zpa ((Below.heap_alloc _ _ _ hz1).trans hg1)
    gi_wp2_with (first | (refine zj2 rfl _ rfl w.heap.size _ rfl (icells d time (.slice va l.length vc)) HSZ.out HG2.out ?_) | fail)
    refine ⟨trivial, (callsIn_wide.2 (zgr _ i _)).mono ?_⟩
    rintro e w' ⟨rfl, rfl⟩
    gi_wp2
    obtain ⟨O, hO⟩ : ∃ O, O = w1.heap.size := ⟨_, rfl⟩
    obtain ⟨W0, hW0⟩ : ∃ W0, W0 = ((w1.alloc (.cells #[.slice none 0 0] 22)).alloc (.cells (icells d time (.slice va l.length vc)) 29)).alloc (.cells #[.int .i64 i] 3) := ⟨_, rfl⟩
    rw [← hW0, ← hO]
    have hsz : W0.heap.size = O + 3 := by rw [hW0, hO]; simp
    have hBw : Below w1.heap.size w1 W0 := by
     rw [hW0]
     exact (((zpd _ w1).alloc (zpc _) _).alloc (by simp) _).alloc (by simp; omega) _
    have hB0 : Below w.heap.size w W0 := HB1.out.trans (hBw.mono HB1.out.size)
    have c0 : W0.cell? ⟨O, 0, none⟩ = some (.slice none 0 0) := by
     exact zsb
    have f0 : W0.frozen? ⟨O, 0, none⟩ = false := by
     exact zsc
    have c1 : W0.cell? ⟨O + 1, 33, none⟩ = some (.slice va l.length vc) := by
     rw [hW0, hO]; simp only [zj, World.size_alloc]; repeat (first | rw [if_pos (by omega)] | rw [if_neg (by omega)])
     exact h33
    have c2 : W0.cell? ⟨O + 1 + 1, 0, none⟩ = some (.int .i64 i) := by
     exact zsb
    have f2 : W0.frozen? ⟨O + 1 + 1, 0, none⟩ = false := by
     exact zsc
    have hwO : w.heap.size < O := by omega
    have hCI : xh W0 (O + 1) O (.slice va l.length vc) l := by
     obtain ⟨a', c', e', hat⟩ := HL.out
     refine ⟨a', c', e', fun j hj => ?_⟩
     obtain ⟨hw, b, off, ea, hlt, hr⟩ := hat j hj
     exact ⟨hw, b, off, ea, by omega, by omega, zh hr hB0⟩
    clear hW0 hO hBw hg1 hz1 hc33
    refine zcd (b := O + 1 + 1) rfl (by omega) (gf := 109)
     (lb := #[.pointer (some ⟨O + 1 + 1, 0, none⟩), .pointer (some ⟨O + 1, 0, none⟩)])
     rfl trivial (enters_of Tryz.func109 (by kernel_rfl) rfl) (by omega)
     (anc1_seq 5 (by omega) (O + 1) O (.slice va l.length vc) l HO.out hl i (by omega) (by omega) (by omega) W0 (by omega) c2 f2 c1 hCI)
     (fun h k => ⟨Nat.le_trans h.1 k.1, fun q hq hqo => (k.2 q hq hqo).trans (h.2 q hq hqo)⟩)
     (fun W q o o' hq ho _ _ => ⟨by have := grownBy_putObj' W q o'; exact this.size, fun k hk _ => (grownBy_putObj' W q o').block k (by have := (Array.getElem?_eq_some_iff.1 ho).1; omega) (by simp; omega)⟩)
     (fun _ => rfl)
     (I := fun pre W => (∃ ov, W.cell? ⟨O, 0, none⟩ = some ov /\ W.frozen? ⟨O, 0, none⟩ = false /\ O + 3 ≤ W.heap.size /\ ZRow W (O + 3) ov pre) /\ Below w.heap.size w W)
     (Ix := fun _ _ _ => False)
     (act := fun x => { tmps := #[.agg (icells d time (.slice va l.length vc)), .int .i64 i, .pointer (some ⟨w.heap.size, 0, none⟩), undef, .slice none 0 0, .pointer (some ⟨O, 0, none⟩), .int .i64 x,
       .agg (icells d time (.slice va l.length vc)), .bool true, .bool false, .bool false, .int .i64 i, .bool (decide (i < 0)), .bool (decide (i < 0)), .bool (decide (i < 0)), .int .i64 i, .pointer (some ⟨w.heap.size, 33, none⟩), .slice va l.length vc,
       .int .i64 l.length, .bool (decide ((l.length : Int) ≤ i)), .bool (decide (i < 0) || decide ((l.length : Int) ≤ i)), .agg (icells d time (.slice va l.length vc)), .int .i64 i,
       .func (.func 109) #[] #[.pointer (some ⟨O + 1 + 1, 0, none⟩), .pointer (some ⟨O + 1, 0, none⟩)], .int .i64 x, undef, undef, undef, undef, undef, undef, undef], defers := [] })
     ⟨?own, ?ownx, ?state, ?assign, ?body⟩ ⟨⟨_, c0, f0, by omega, ZRow.nil _ _⟩, hB0⟩ ?done ?stop
    case own =>
     refine OwnFrom.and (Own.from (fun s A B row hs hg hr => ?_) _) (ownFrom_below (zpc _) (by omega))
     obtain ⟨ov, h1, h2, h4, h3⟩ := hs
     refine ⟨ov, cell_kept h1 hg hr, (frozen_kept h1 hg hr).trans h2, Nat.le_trans h4 hg.size, h3.kept hg (fun b hb e => ?_)⟩
     obtain ⟨o, ho1, ho2⟩ := hr b hb
     obtain ⟨cur, hcur⟩ := h3.cellsAt b e
     rw [hcur] at ho1
     cases ho1
     cases ho2
    case ownx => exact fun c s A B row hs _ _ => hs
    case state =>
     rintro s A u ⟨⟨ov, h1, h2, h4, h3⟩, hB⟩
     refine ⟨⟨ov, by rw [World.cell?_setCell_other _ _ _ _ (by simp)]; exact h1, by rw [World.frozen?_setCell]; exact h2, Nat.le_trans h4 (za6 A (O + 1 + 1) 0 u).size, h3.kept (za6 A (O + 1 + 1) 0 u) (fun b hb e => by cases hb; have := h3.block _ e; omega)⟩, hB.setCell (p := ⟨O + 1 + 1, 0, none⟩) (by show w.heap.size ≤ O + 1 + 1; omega) _⟩
    case assign =>
     intro l x W K hK
     gi_wp2
     exact hK
    case body =>
     rintro lp pre x W ⟨⟨ov, h1, h2, h4, h3⟩, hB⟩ hlen
     have hblk := h3.block
     obtain ⟨za, zc, hov⟩ := h3.slice
     subst hov
     have HB := zpa hB
     have HZ2 : Hid (ZRow (W.alloc (.cells #[.int .i64 x] 3)) (O + 3) (.slice za pre.length zc) pre) := zpa (h3.kept (row := none) (World.grownBy_alloc W _ none) (by intro b' e; cases e))
     have HCE : Hid ((W.alloc (.cells #[.int .i64 x] 3)).cell? ⟨W.heap.size, 0, none⟩ = some (.int .i64 x)) := zpa (by rw [zj, if_pos (by simp)]; rfl)
     have hO2 : (W.alloc (.cells #[.int .i64 x] 3)).heap[O]? = W.heap[O]? := Below.heap_alloc _ _ _ (by omega)
     have HO2 := zpa hO2
     clear h3 hB hO2
     gi_wp2_with (first | (refine zmp rfl _ _ rfl (O + 3) (.slice za pre.length zc) pre rfl HZ2.out W.heap.size x rfl HCE.out (by omega) (by simp; omega) ?_
                           intro v' w3 hi3 hg3
                           have hO3 : w3.heap[O]? = W.heap[O]? := (hg3.block O (by simp; omega) (fun e => by have := hblk O e.symm; omega)).trans HO2.out
                           have c3 : w3.cell? ⟨O, 0, none⟩ = some (.slice za pre.length zc) := by rw [← h1]; unfold World.cell?; rw [hO3]
                           have f3 : w3.frozen? ⟨O, 0, none⟩ = false := by rw [← h2]; unfold World.frozen?; rw [hO3]
                           obtain ⟨va', vc', hv'⟩ := hi3.slice
                           subst hv'
                           have hL3 : (pre ++ [x]).length = pre.length + 1 := by simp
                           rw [hL3] at hi3
                           have HI3 := zpa hi3
                           have HG3 := zpa hg3
                           clear hi3 hg3 hO3) | fail)
     have hk3 : KeepsOthers W w3 := (KeepsOthers.alloc W _).trans (HZ2.out.keeps HG3.out)
     have hs3 : W.heap.size ≤ w3.heap.size := hk3.size
     have hb3 : Below w.heap.size w w3 := by
      have hBa : Below w.heap.size w (W.alloc (.cells #[.int .i64 x] 3)) := HB.out.alloc HB.out.size _
      exact ⟨HG3.out.os.trans hBa.os, HG3.out.tape.trans hBa.tape, HG3.out.output.trans hBa.output, Nat.le_trans hBa.size HG3.out.size, fun q hq => (HG3.out.block q (Nat.lt_of_lt_of_le hq hBa.size) (fun e => by have := hblk q e.symm; omega)).trans (hBa.block q hq)⟩
     have hz3 : (w3.setCell ⟨O, 0, none⟩ (.slice va' (pre.length + 1) vc')).heap.size = w3.heap.size := by simp [World.setCell]
     refine ⟨hk3.trans (KeepsOthers.setCell _ _ _), ⟨by omega, fun q hq hqo => ?_⟩, ⟨_, World.cell?_setCell_same _ _ _ c3, by rw [World.frozen?_setCell]; exact f3, by omega, ?_⟩, hb3.setCell (p := ⟨O, 0, none⟩) (by show w.heap.size ≤ O; omega) _⟩
     ·rw [Below.heap_setCell _ _ _ _ (by show q ≠ O; exact hqo)]
      exact (HG3.out.block q (by simp; omega) (fun e => by have := hblk q e.symm; omega)).trans (Below.heap_alloc _ _ _ (by omega))
     ·exact HI3.out.kept (za6 w3 O 0 _) (fun b hb e => by cases hb; have := HI3.out.block _ e; omega)
    case done =>
     rintro D ys W hD rfl ⟨⟨ov, h1, h2, h4, h3⟩, hB⟩ hK
     have hlen := V.zel HO.out i (by omega)
     have hne : 0 < (V.anc l i).length := by
      obtain ⟨k, rfl⟩ := Int.eq_ofNat_of_zero_le (show 0 ≤ i by omega)
      rw [V.zcx HO.out (show k < l.length by omega)]; simp
     generalize hys : V.anc l i = ys at *
     obtain ⟨hyl, ⟨rfl, hn⟩ | ⟨g, cap, cur, rfl, hgb, hgg, hnc, hcap, hcs, hct⟩⟩ := h3
     ·omega
     ·have HGG := zpa hgg
      have hgl : g < W.heap.size := (Array.getElem?_eq_some_iff.1 hgg).1
      have hcell : ∀ j, j < ys.length -> W.cell? ⟨g, 0 + j, none⟩ = some (.int .i64 (ys.getD j 0)) := by
       intro j hj
       rw [cell_of_row W g (0 + j) _ _ _ hgg, Nat.zero_add]
       have h5 : cur.toList[j]? = (cur.toList.take (ys.length * 1))[j]? := by rw [List.getElem?_take, if_pos (by omega)]
       rw [← Array.getElem?_toList, h5, hct, List.getElem?_map, List.getElem?_eq_getElem hj]
       simp [List.getD, List.getElem?_eq_getElem hj]
      have hfr : ∀ j, j < ys.length -> W.frozen? ⟨g, 0 + j, none⟩ = false := by
       intro j hj
       unfold World.frozen?
       simp [hgg]
      have HCL := zpa hcell
      have HFR := zpa hfr
      have HB := zpa hB
      have HK := zpa hK
      clear hyl hct hcell hfr hB hcs hgg
      gi_wp2_with fail
      refine ⟨trivial, (callsIn_wide.2 (Tryz.slices_Reverse_int_cells g 0 ys.length cap ys _ (zpc _) (by omega) HCL.out HFR.out)).mono ?_⟩
      rintro e w' ⟨rfl, q, hw'⟩
      rw [List.take_length] at hw'
      have hcO : w'.cell? ⟨O, 0, none⟩ = some (.slice (some ⟨g, 0, none⟩) ys.length cap) := by
       rw [hw', World.cell?_setCells_out _ _ _ _ _ (fun e _ => by have : O = g := e; omega)]; exact h1
      have hz' : w'.heap.size = W.heap.size := by rw [hw', zan]; rfl
      have hKD : w'.heap[D]? = some (.deferred (some [])) := by
       have hDl : D < W.heap.size := (Array.getElem?_eq_some_iff.1 HK.out).1
       rw [hw', World.heap_setCells_other _ _ _ _ (by exact hDl) (fun e => by subst e; have := HGG.out.symm.trans HK.out; cases this)]
       exact HK.out
      have HBW : Hid (Below w.heap.size w w') := zpa (by
        rw [hw']
        exact ww (by omega) _ _ _ ⟨HB.out.os, HB.out.tape, HB.out.output, HB.out.size, HB.out.block⟩)
      have HZV : Hid (∀ j (h : j < ys.reverse.length), w'.cell? ⟨g, 0 + j, none⟩ = some (.int .i64 ys.reverse[j])) := zpa (by
        intro j hj
        have hj' : j < (ys.reverse.map (Value.int .i64)).length := by simpa using hj
        rw [hw', World.cell?_setCells_in g _ 0 _ (fun k hk => ?_) j hj']
        · simp
        · rw [World.cell?_drewN, HCL.out k (by simpa using hk)]; rfl)
      clear hw' h1 h2 h4 HK HB HCL HFR HGG
      gi_wp2
      refine ⟨by simp, .inl ⟨_, _, rfl, run_takeDeferred hKD, ?_⟩⟩
      refine ⟨.slice (some ⟨g, 0, none⟩) ys.length cap, by simp [results, Tryz.f43, go_sem], ?_⟩
      refine ⟨_, rfl, ?_, HBW.out.trans (belowK_b (w := w) (zpc _) _ D _ _ (by omega) hKD rfl rfl)⟩
      rw [if_pos ⟨rfl, by omega, by omega⟩, hys]
      refine ⟨some ⟨g, 0, none⟩, cap, by rw [List.length_reverse], fun j hj => ⟨g, 0, rfl, ?_, ?_⟩⟩
      ·have := (grownBy_putObj' w' D (.deferred none)).size
       omega
      ·exact cell_kept (HZV.out j hj) (grownBy_putObj' _ D (.deferred none)) (fun r e => by cases e; exact ⟨_, hKD, rfl⟩)
    case stop =>
     rintro D c pre W hD hpre hx hK
     exact hx.elim
theorem zn6 (d : List Int) (time : Int) (v : Value) (l : List V.Comp) (i : Int) (w : World) (hm : zm w) (hd : d.length = 32) (hdw : ∀ n ∈ d, (Lit.int .u8 n).wf = true) (hv : Comps w v l) (hl : l.length ≤ 100000) :
  Calls Tryz.prog 43 #[.agg (icells d time v), .int .i64 i] w (zkn l (V.qc d time l) i w) :=
 callsIn_wide.1 (path_in d time v l i w hm hd hdw hv hl)
open Go.RowKit
namespace V
end V
open Go.RowKit
namespace MInv
variable {w : World} {N O S n : Nat} {d : List Int} {mx : Int} {v : Value} {out : List V.Comp} {st : List Int} {W W' : World}
end MInv
open Go.RowKit
theorem zgf {P : Program} {w : World} (base : Nat) (t ty e : TypeId) (i : TypeInfo) (size : Nat) (ht : P.underlying t = some (.slice e)) (hi : P.info? e = some i)
  (v : Value) (n : Nat) (xs : List Value) (hown : w.ownsRow base e size v n xs) (c : Nat) :
  (Builtin.append_ #[t, t] ty #[v, .slice none 0 c]).run P w = .ok v w := by
 rcases hown.2 with ⟨rfl, rfl⟩ | ⟨g, cap, cur, rfl, _, _, hnc, _⟩
 ·simp [Builtin.append_, run_underlying ht, sizeOf, typeInfo, hi, Builtin.lenOf, Builtin.firstCells]
 ·simp [Builtin.append_, run_underlying ht, sizeOf, typeInfo, hi, Builtin.lenOf, Builtin.firstCells, hnc, storeCells]
theorem ZRow.get {w : World} {N : Nat} {v : Value} {l : List Int} (h : ZRow w N v l) {j : Nat} (hj : j < l.length) : ∃ g cap, v = .slice (some ⟨g, 0, none⟩) l.length cap /\ w.cell? ⟨g, j, none⟩ = some (.int .i64 l[j]) := by
 rcases h.2 with ⟨_, h0⟩ | ⟨g, cap, cur, rfl, hrest⟩
 ·omega
 ·refine ⟨g, cap, rfl, ?_⟩
  have := World.ownsRow.cellAt h j (by omega)
  rw [this, List.getElem?_map, List.getElem?_eq_getElem hj]
  rfl
namespace RInv
variable {w : World} {O : Nat} {d : List Int} {mx : Int} {v : Value} {out : List V.Comp} {pv : Value} {st : List Int} {W W' : World}
end RInv
open Go.RowKit
theorem zk7 {ops : Array Oper} {rest : List Oper} {o : Oper} {a : Act} {w : World} {Q : Exit -> Act -> World -> Prop} (hgd : o.guard = none) (s x : Operand)
  (ho : o.op = .call { callee := .builtin .append, args := #[s, x], argTypes := #[22, 22] })
  (N : Nat) (v : Value) (l : List Int) (hs : a.eval s = v) (hown : ZRow w N v l) (u : Value) (m : List Int) (hx : a.eval x = u) (hu : Zs w u m) (hl : l.length + m.length ≤ 1000000) (hN : N ≤ w.heap.size)
  (h : ∀ v' w', ZRow w' N v' (l ++ m) -> w.grownBy w' v.ownBlock -> wpList Tryz.prog ops Q rest (a.put o.dst v') w') : wpList Tryz.prog ops Q (o :: rest) a w := by
 obtain ⟨i0, hi, hz0, hz1, hz2⟩ := info_parts zer
 obtain ⟨ua, uc, rfl, hat⟩ := hu
 rcases ua with _ | ad
 ·have hn : m = [] := by
   cases m with
   | nil => rfl
   | cons c r =>
    obtain ⟨b, off, e, _⟩ := hat 0 (by simp)
    cases e
  subst hn
  refine wpList_plain hgd fun K hK => ?_
  have hrun := zgf (P := Tryz.prog) (w := w) N 22 o.type 3 i0 1 Tryz.underlying22 hi v l.length _ hown uc
  unfold Oper.wp
  simp [execOp, ho, resolve, invoke, builtin, hs, hx, hrun, Result.andThen]
  exact hK _ _ (h v w (by rw [List.append_nil]; exact hown) ⟨rfl, rfl, rfl, zpc _, fun _ _ _ => rfl⟩)
 ·refine wpList_append_own w hgd s x 22 ho N 3 i0 (.int .i64 0) 1 8 Tryz.underlying22 hi hz0 hz1 hz2 rfl (by decide) v l.length _ hs hown ad m.length uc (m.map (Value.int .i64)) hx (by simp) ?_ ?_ (by unfold maxLen; omega) (by omega) hN ?_
  ·intro j u hju
   have hj : j < m.length := by have := (List.getElem?_eq_some_iff.1 hju).1; simpa using this
   obtain ⟨b, off, e, hlt, hr⟩ := hat j hj
   cases e
   rw [Addr.add_mid, hr]
   rw [List.getElem?_map, List.getElem?_eq_getElem hj] at hju
   simpa using hju
  ·intro u hu
   obtain ⟨z, _, rfl⟩ := List.mem_map.1 hu
   rfl
  ·exact zsm
theorem ZRow.zs {w : World} {N : Nat} {v : Value} {l : List Int} (h : ZRow w N v l) : Zs w v l := by
 obtain ⟨a, cap, rfl⟩ := h.slice
 refine ⟨a, cap, rfl, fun j hj => ?_⟩
 obtain ⟨g, cap', e, hc⟩ := h.get hj
 cases e
 exact ⟨g, 0, rfl, World.block_lt_of_cell? _ _ hc, by rw [Nat.zero_add]; exact hc⟩
theorem Zs.below {w w' : World} {v : Value} {l : List Int} (h : Zs w v l) (hb : Below w.heap.size w w') : Zs w' v l := by
 obtain ⟨a, cap, e, hat⟩ := h
 refine ⟨a, cap, e, fun j hj => ?_⟩
 obtain ⟨b, off, ea, hlt, hc⟩ := hat j hj
 exact ⟨b, off, ea, Nat.lt_of_lt_of_le hlt hb.size, (hb.cell (p := ⟨b, off + j, none⟩) hlt).trans hc⟩
end Go.Proofs.YtbikeahmldobkaaGreatDoor
