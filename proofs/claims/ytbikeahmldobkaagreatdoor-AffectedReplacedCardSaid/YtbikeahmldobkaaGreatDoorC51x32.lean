/-
  Lemmas for the law.
-/
import Derived.Test.YtbikeahmldobkaaGreatDoorC51x31
import Derived.Test.YtbikeahmldobkaaGreatDoorC51x09
import Derived.Test.YtbikeahmldobkaaGreatDoorC51x03
import Derived.Test.YtbikeahmldobkaaGreatDoorC51x29
import Derived.Laws.OwnMore
set_option linter.all false
set_option maxRecDepth 100000
set_option maxHeartbeats 3200000
namespace Go.Proofs.YtbikeahmldobkaaGreatDoor
open Go.RowKit Go.Shelf
attribute [local go_sem] Oper.semAt_some
theorem zkn (ic : Array Value) (i : Int) (w : World) :
  Calls Tryz.prog 76 #[.agg ic, .int .i64 i] w fun e w' =>
   e = .returned (.func (.func 109) #[] #[.pointer (some ⟨w.heap.size + 1, 0, none⟩), .pointer (some ⟨w.heap.size, 0, none⟩)]) /\
   w' = (w.alloc (.cells ic 29)).alloc (.cells #[.int .i64 i] 3) := by
 go_enter Tryz.func76, Tryz.ntmps76
 go_wp2
 go_ret
 exact ⟨rfl, rfl⟩
def zo9 (l : List V.Comp) (ok : Bool) (i : Int) (w : World) (e : Ending) (w' : World) : Prop :=
 ∃ v, e = .returned v /\ Zs w' v (if ok = true /\ 0 ≤ i /\ i < l.length then (V.anc l i).reverse else []) /\ Below w.heap.size w w'
theorem zxn {P : Prop} (h : P := by
 gi_wp2
 refine ⟨.slice none 0 0, by simp [results, Tryz.f43, go_sem], _, rfl, ?_, HB1.out⟩
 rw [if_neg (by omega)]
 exact Zs.nil _) : P := h
theorem zyn {P : Prop} (h : P := by
 rw [hW0, hO]; simp only [zg, World.size_alloc]; repeat (first | rw [if_pos (by omega)] | rw [if_neg (by omega)])
 rfl) : P := h
theorem zyo {P : Prop} (h : P := by
 rw [hW0, hO]; simp only [qr, World.size_alloc]; repeat (first | rw [if_pos (by omega)] | rw [if_neg (by omega)])
 rfl) : P := h
theorem path_in (d : List Int) (time : Int) (v : Value) (l : List V.Comp) (i : Int) (w : World) (hm : zj w) (hd : d.length = 32) (h0 : ∀ n ∈ d, (Lit.int .u8 n).wf = true) (hv : Comps w v l) (hl : l.length ≤ 100000) :
  CallsIn Fence.wide 6 Tryz.prog 43 #[.agg (icells d time v), .int .i64 i] w (zo9 l (V.qt d time l) i w) := by
 have HM := zu8 hm
 have HL := zu8 hv
 have HD := zu8 hd
 have k3 := zu8 h0
 have h6 := zb5 hd time v
 have h7 := zu8 (qn hd time v)
 obtain ⟨va, vc, rfl, g9⟩ := hv
 clear hd h0 g9 hm
 refine callsIn_of_wp_marks Tryz.func43 rfl trivial ?_ rfl
 simp only [Tryz.ntmps43, List.size_toArray, List.length_cons, List.length_nil, Nat.reduceAdd, Nat.reduceSub, Array.replicate_succ, Array.replicate_zero, List.push_toArray, List.append_toArray, List.nil_append, List.cons_append]
 gi_wp2_with (first | (refine zom rfl _ rfl w.heap.size _ rfl (icells d time (.slice va l.length vc)) h7.out (heap_alloc_new w _) ?_) | fail)
 refine ⟨trivial, (callsIn_wide.2 (zhh d time (.slice va l.length vc) l _ (HM.out.below ((zvb _ w).alloc (zva _) _)) HD.out k3.out (HL.out.below ((zvb _ w).alloc (zva _) _)) (by unfold maxLen; omega))).mono ?_⟩
 rintro e w1 ⟨rfl, hb1⟩
 have g6 := (zvb w.heap.size w).alloc (zva _) (.cells (icells d time (.slice va l.length vc)) 29)
 have HB1 := zu8 (g6.trans (hb1.mono g6.size))
 have hg1 : w1.heap[w.heap.size]? = some (.cells (icells d time (.slice va l.length vc)) 29 (0, 0)) := (hb1.block _ (by simp)).trans (heap_alloc_new w _)
 have h8 : w.heap.size < w1.heap.size := Nat.lt_of_lt_of_le (by simp) hb1.size
 have k4 : Hid (V.qt d time l = true -> V.qf l l.length = true) := zu8 (fun h => by unfold V.qt at h; exact (Bool.and_eq_true_iff.1 h).2)
 clear g6 hb1
 generalize V.qt d time l = ok at *
 rcases ok with _ | _
 ·gi_wp2
  refine ⟨.slice none 0 0, by simp [results, Tryz.f43, go_sem], _, rfl, ?_, HB1.out⟩
  rw [if_neg (by simp)]
  exact Zs.nil _
 ·have HO := zu8 (k4.out rfl)
  have k0 : w1.cell? ⟨w.heap.size, 33, none⟩ = some (.slice va l.length vc) := by rw [cell_of_row w1 w.heap.size 33 _ _ _ hg1]; exact h6
  by_cases hi0 : i < 0
  ·exact zxn
  ·by_cases hil : (l.length : Int) ≤ i
   ·exact zxn
   ·have k5 : Hid ((w1.alloc (.cells #[.slice none 0 0] 22)).heap[w.heap.size]? = some (.cells (icells d time (.slice va l.length vc)) 29 (0, 0))) := zu8 ((Below.heap_alloc _ _ _ h8).trans hg1)
    gi_wp2_with (first | (refine zom rfl _ rfl w.heap.size _ rfl (icells d time (.slice va l.length vc)) h7.out k5.out ?_) | fail)
    refine ⟨trivial, (callsIn_wide.2 (zkn _ i _)).mono ?_⟩
    rintro e w' ⟨rfl, rfl⟩
    gi_wp2
    obtain ⟨O, hO⟩ : ∃ O, O = w1.heap.size := ⟨_, rfl⟩
    obtain ⟨W0, hW0⟩ : ∃ W0, W0 = ((w1.alloc (.cells #[.slice none 0 0] 22)).alloc (.cells (icells d time (.slice va l.length vc)) 29)).alloc (.cells #[.int .i64 i] 3) := ⟨_, rfl⟩
    rw [← hW0, ← hO]
    have v2 : W0.heap.size = O + 3 := by rw [hW0, hO]; simp
    have h9 : Below w1.heap.size w1 W0 := by
     rw [hW0]
     exact (((zvb _ w1).alloc (zva _) _).alloc (by simp) _).alloc (by simp; omega) _
    have j0 : Below w.heap.size w W0 := HB1.out.trans (h9.mono HB1.out.size)
    have c0 : W0.cell? ⟨O, 0, none⟩ = some (.slice none 0 0) := by
     exact zyn
    have f0 : W0.frozen? ⟨O, 0, none⟩ = false := by
     exact zyo
    have c1 : W0.cell? ⟨O + 1, 33, none⟩ = some (.slice va l.length vc) := by
     rw [hW0, hO]; simp only [zg, World.size_alloc]; repeat (first | rw [if_pos (by omega)] | rw [if_neg (by omega)])
     exact h6
    have c2 : W0.cell? ⟨O + 1 + 1, 0, none⟩ = some (.int .i64 i) := by
     exact zyn
    have f2 : W0.frozen? ⟨O + 1 + 1, 0, none⟩ = false := by
     exact zyo
    have v3 : w.heap.size < O := by omega
    have k6 : uf W0 (O + 1) O (.slice va l.length vc) l := by
     obtain ⟨a', c', e', k7⟩ := HL.out
     refine ⟨a', c', e', fun j hj => ?_⟩
     obtain ⟨hw, b, off, ea, hlt, hr⟩ := k7 j hj
     exact ⟨hw, b, off, ea, by omega, by omega, zi hr j0⟩
    clear hW0 hO h9 hg1 h8 k0
    refine zfd (b := O + 1 + 1) rfl (by omega) (gf := 109)
     (lb := #[.pointer (some ⟨O + 1 + 1, 0, none⟩), .pointer (some ⟨O + 1, 0, none⟩)])
     rfl trivial (enters_of Tryz.func109 (by kernel_rfl) rfl) (by omega)
     (anc1_seq 5 (by omega) (O + 1) O (.slice va l.length vc) l HO.out hl i (by omega) (by omega) (by omega) W0 (by omega) c2 f2 c1 k6)
     (fun h k => ⟨Nat.le_trans h.1 k.1, fun q hq g4 => (k.2 q hq g4).trans (h.2 q hq g4)⟩)
     (fun W q o o' hq ho _ _ => ⟨by have := grownBy_putObj' W q o'; exact this.size, fun k hk _ => (grownBy_putObj' W q o').block k (by have := (Array.getElem?_eq_some_iff.1 ho).1; omega) (by simp; omega)⟩)
     (fun _ => rfl)
     (I := fun pre W => (∃ ov, W.cell? ⟨O, 0, none⟩ = some ov /\ W.frozen? ⟨O, 0, none⟩ = false /\ O + 3 ≤ W.heap.size /\ ZRow W (O + 3) ov pre) /\ Below w.heap.size w W)
     (Ix := fun _ _ _ => False)
     (act := fun x => { tmps := #[.agg (icells d time (.slice va l.length vc)), .int .i64 i, .pointer (some ⟨w.heap.size, 0, none⟩), undef, .slice none 0 0, .pointer (some ⟨O, 0, none⟩), .int .i64 x,
       .agg (icells d time (.slice va l.length vc)), .bool true, .bool false, .bool false, .int .i64 i, .bool (decide (i < 0)), .bool (decide (i < 0)), .bool (decide (i < 0)), .int .i64 i, .pointer (some ⟨w.heap.size, 33, none⟩), .slice va l.length vc,
       .int .i64 l.length, .bool (decide ((l.length : Int) ≤ i)), .bool (decide (i < 0) || decide ((l.length : Int) ≤ i)), .agg (icells d time (.slice va l.length vc)), .int .i64 i,
       .func (.func 109) #[] #[.pointer (some ⟨O + 1 + 1, 0, none⟩), .pointer (some ⟨O + 1, 0, none⟩)], .int .i64 x, undef, undef, undef, undef, undef, undef, undef], defers := [] })
     ⟨?own, ?ownx, ?state, ?assign, ?body⟩ ⟨⟨_, c0, f0, by omega, ZRow.nil _ _⟩, j0⟩ ?done ?stop
    case own =>
     refine OwnFrom.and (Own.from (fun s A B row hs hg hr => ?_) _) (ownFrom_below (zva _) (by omega))
     obtain ⟨ov, h1, h2, h4, h3⟩ := hs
     refine ⟨ov, cell_kept h1 hg hr, (frozen_kept h1 hg hr).trans h2, Nat.le_trans h4 hg.size, h3.kept hg (fun b hb e => ?_)⟩
     obtain ⟨o, j1, k8⟩ := hr b hb
     obtain ⟨cur, k1⟩ := h3.cellsAt b e
     rw [k1] at j1
     cases j1
     cases k8
    case ownx => exact fun c s A B row hs _ _ => hs
    case state =>
     rintro s A u ⟨⟨ov, h1, h2, h4, h3⟩, hB⟩
     refine ⟨⟨ov, by rw [World.cell?_setCell_other _ _ _ _ (by simp)]; exact h1, by rw [World.frozen?_setCell]; exact h2, Nat.le_trans h4 (qv A (O + 1 + 1) 0 u).size, h3.kept (qv A (O + 1 + 1) 0 u) (fun b hb e => by cases hb; have := h3.block _ e; omega)⟩, hB.setCell (p := ⟨O + 1 + 1, 0, none⟩) (by show w.heap.size ≤ O + 1 + 1; omega) _⟩
    case assign =>
     intro l x W K hK
     gi_wp2
     exact hK
    case body =>
     rintro lp pre x W ⟨⟨ov, h1, h2, h4, h3⟩, hB⟩ k2
     have g3 := h3.block
     obtain ⟨za, zc, k9⟩ := h3.slice
     subst k9
     have HB := zu8 hB
     have j2 : Hid (ZRow (W.alloc (.cells #[.int .i64 x] 3)) (O + 3) (.slice za pre.length zc) pre) := zu8 (h3.kept (row := none) (World.grownBy_alloc W _ none) (by intro b' e; cases e))
     have q0 : Hid ((W.alloc (.cells #[.int .i64 x] 3)).cell? ⟨W.heap.size, 0, none⟩ = some (.int .i64 x)) := zu8 (by rw [zg, if_pos (by simp)]; rfl)
     have j3 : (W.alloc (.cells #[.int .i64 x] 3)).heap[O]? = W.heap[O]? := Below.heap_alloc _ _ _ (by omega)
     have q1 := zu8 j3
     clear h3 hB j3
     gi_wp2_with (first | (refine zrs rfl _ _ rfl (O + 3) (.slice za pre.length zc) pre rfl j2.out W.heap.size x rfl q0.out (by omega) (by simp; omega) ?_
                           intro v' w3 g5 hg3
                           have hO3 : w3.heap[O]? = W.heap[O]? := (hg3.block O (by simp; omega) (fun e => by have := g3 O e.symm; omega)).trans q1.out
                           have c3 : w3.cell? ⟨O, 0, none⟩ = some (.slice za pre.length zc) := by rw [← h1]; unfold World.cell?; rw [hO3]
                           have f3 : w3.frozen? ⟨O, 0, none⟩ = false := by rw [← h2]; unfold World.frozen?; rw [hO3]
                           obtain ⟨va', vc', q2⟩ := g5.slice
                           subst q2
                           have q3 : (pre ++ [x]).length = pre.length + 1 := by simp
                           rw [q3] at g5
                           have j4 := zu8 g5
                           have g0 := zu8 hg3
                           clear g5 hg3 hO3) | fail)
     have j5 : KeepsOthers W w3 := (KeepsOthers.alloc W _).trans (j2.out.keeps g0.out)
     have v4 : W.heap.size ≤ w3.heap.size := j5.size
     have hb3 : Below w.heap.size w w3 := by
      have g2 : Below w.heap.size w (W.alloc (.cells #[.int .i64 x] 3)) := HB.out.alloc HB.out.size _
      exact ⟨g0.out.os.trans g2.os, g0.out.tape.trans g2.tape, g0.out.output.trans g2.output, Nat.le_trans g2.size g0.out.size, fun q hq => (g0.out.block q (Nat.lt_of_lt_of_le hq g2.size) (fun e => by have := g3 q e.symm; omega)).trans (g2.block q hq)⟩
     have v5 : (w3.setCell ⟨O, 0, none⟩ (.slice va' (pre.length + 1) vc')).heap.size = w3.heap.size := by simp [World.setCell]
     refine ⟨j5.trans (KeepsOthers.setCell _ _ _), ⟨by omega, fun q hq g4 => ?_⟩, ⟨_, World.cell?_setCell_same _ _ _ c3, by rw [World.frozen?_setCell]; exact f3, by omega, ?_⟩, hb3.setCell (p := ⟨O, 0, none⟩) (by show w.heap.size ≤ O; omega) _⟩
     ·rw [Below.heap_setCell _ _ _ _ (by show q ≠ O; exact g4)]
      exact (g0.out.block q (by simp; omega) (fun e => by have := g3 q e.symm; omega)).trans (Below.heap_alloc _ _ _ (by omega))
     ·exact j4.out.kept (qv w3 O 0 _) (fun b hb e => by cases hb; have := j4.out.block _ e; omega)
    case done =>
     rintro D ys W hD rfl ⟨⟨ov, h1, h2, h4, h3⟩, hB⟩ hK
     have k2 := V.znt HO.out i (by omega)
     have v6 : 0 < (V.anc l i).length := by
      obtain ⟨k, rfl⟩ := Int.eq_ofNat_of_zero_le (show 0 ≤ i by omega)
      rw [V.zp5 HO.out (show k < l.length by omega)]; simp
     generalize q4 : V.anc l i = ys at *
     obtain ⟨q5, ⟨rfl, hn⟩ | ⟨g, cap, cur, rfl, v7, hgg, v8, v0, hcs, j6⟩⟩ := h3
     ·omega
     ·have j7 := zu8 hgg
      have v9 : g < W.heap.size := (Array.getElem?_eq_some_iff.1 hgg).1
      have hcell : ∀ j, j < ys.length -> W.cell? ⟨g, 0 + j, none⟩ = some (.int .i64 (ys.getD j 0)) := by
       intro j hj
       rw [cell_of_row W g (0 + j) _ _ _ hgg, Nat.zero_add]
       have h5 : cur.toList[j]? = (cur.toList.take (ys.length * 1))[j]? := by rw [List.getElem?_take, if_pos (by omega)]
       rw [← Array.getElem?_toList, h5, j6, List.getElem?_map, List.getElem?_eq_getElem hj]
       simp [List.getD, List.getElem?_eq_getElem hj]
      have j8 : ∀ j, j < ys.length -> W.frozen? ⟨g, 0 + j, none⟩ = false := by
       intro j hj
       unfold World.frozen?
       simp [hgg]
      have g7 := zu8 hcell
      have j9 := zu8 j8
      have HB := zu8 hB
      have HK := zu8 hK
      clear q5 j6 hcell j8 hB hcs hgg
      gi_wp2_with fail
      refine ⟨trivial, (callsIn_wide.2 (Tryz.slices_Reverse_int_cells g 0 ys.length cap ys _ (zva _) (by omega) g7.out j9.out)).mono ?_⟩
      rintro e w' ⟨rfl, q, g1⟩
      rw [List.take_length] at g1
      have y0 : w'.cell? ⟨O, 0, none⟩ = some (.slice (some ⟨g, 0, none⟩) ys.length cap) := by
       rw [g1, World.cell?_setCells_out _ _ _ _ _ (fun e _ => by have : O = g := e; omega)]; exact h1
      have y1 : w'.heap.size = W.heap.size := by rw [g1, zdc]; rfl
      have g8 : w'.heap[D]? = some (.deferred (some [])) := by
       have q6 : D < W.heap.size := (Array.getElem?_eq_some_iff.1 HK.out).1
       rw [g1, World.heap_setCells_other _ _ _ _ (by exact q6) (fun e => by subst e; have := j7.out.symm.trans HK.out; cases this)]
       exact HK.out
      have q7 : Hid (Below w.heap.size w w') := zu8 (by
        rw [g1]
        exact zcz (by omega) _ _ _ ⟨HB.out.os, HB.out.tape, HB.out.output, HB.out.size, HB.out.block⟩)
      have q8 : Hid (∀ j (h : j < ys.reverse.length), w'.cell? ⟨g, 0 + j, none⟩ = some (.int .i64 ys.reverse[j])) := zu8 (by
        intro j hj
        have q9 : j < (ys.reverse.map (Value.int .i64)).length := by simpa using hj
        rw [g1, World.cell?_setCells_in g _ 0 _ (fun k hk => ?_) j q9]
        · simp
        · rw [World.cell?_drewN, g7.out k (by simpa using hk)]; rfl)
      clear g1 h1 h2 h4 HK HB g7 j9 j7
      gi_wp2
      refine ⟨by simp, .inl ⟨_, _, rfl, run_takeDeferred g8, ?_⟩⟩
      refine ⟨.slice (some ⟨g, 0, none⟩) ys.length cap, by simp [results, Tryz.f43, go_sem], ?_⟩
      refine ⟨_, rfl, ?_, q7.out.trans (belowK_b (w := w) (zva _) _ D _ _ (by omega) g8 rfl rfl)⟩
      rw [if_pos ⟨rfl, by omega, by omega⟩, q4]
      refine ⟨some ⟨g, 0, none⟩, cap, by rw [List.length_reverse], fun j hj => ⟨g, 0, rfl, ?_, ?_⟩⟩
      ·have := (grownBy_putObj' w' D (.deferred none)).size
       omega
      ·exact cell_kept (q8.out j hj) (grownBy_putObj' _ D (.deferred none)) (fun r e => by cases e; exact ⟨_, g8, rfl⟩)
    case stop =>
     rintro D c pre W hD v1 hx hK
     exact hx.elim
theorem ztw (d : List Int) (time : Int) (v : Value) (l : List V.Comp) (i : Int) (w : World) (hm : zj w) (hd : d.length = 32) (g0 : ∀ n ∈ d, (Lit.int .u8 n).wf = true) (hv : Comps w v l) (hl : l.length ≤ 100000) :
  Calls Tryz.prog 43 #[.agg (icells d time v), .int .i64 i] w (zo9 l (V.qt d time l) i w) :=
 callsIn_wide.1 (path_in d time v l i w hm hd g0 hv hl)
open Go.RowKit
theorem flat_get {l : List V.Comp} (hw : ∀ c ∈ l, CompWf c) {j : Nat} {u : Value} (h : (l.flatMap qb)[j]? = some u) : ∃ q, ∃ hq : q < l.length, ∃ i, i < 36 /\ j = q * 36 + i /\ (qb l[q])[i]? = some u := by
 have hj := (List.getElem?_eq_some_iff.1 h).1
 rw [zi5 hw] at hj
 have hq : j / 36 < l.length := by omega
 have he : j = j / 36 * 36 + j % 36 := by omega
 refine ⟨j / 36, hq, j % 36, by omega, he, ?_⟩
 rw [← zmu hw _ hq _ (by omega), ← he]
 exact h
theorem Comps.wf {w : World} {v : Value} {l : List V.Comp} (h : Comps w v l) : ∀ c ∈ l, CompWf c := by
 intro c hc
 obtain ⟨a, cap, rfl, g0⟩ := h
 obtain ⟨j, hj, rfl⟩ := List.mem_iff_getElem.1 hc
 exact (g0 j hj).1
namespace V
end V
open Go.RowKit
theorem znm {d : List Int} (hd : d.length = 32) (time : Int) (v u : Value) : (icells d time v).setIfInBounds 33 u = icells d time u := by
 have g0 : (zn d).length = 32 := by unfold zn; simp [hd]
 unfold icells
 rw [List.setIfInBounds_toArray, List.set_append_right _ _ (by omega), g0]
 rfl
theorem zru : (Tryz.prog.info? 27).map (·.size) = some 1 := by kernel_rfl
namespace MInv
variable {w : World} {N O S n : Nat} {d : List Int} {mx : Int} {v : Value} {out : List V.Comp} {st : List Int} {W W' : World}
end MInv
open Go.RowKit
theorem zke {P : Program} {w : World} (base : Nat) (t ty e : TypeId) (i : TypeInfo) (size : Nat) (ht : P.underlying t = some (.slice e)) (hi : P.info? e = some i)
  (v : Value) (n : Nat) (xs : List Value) (g0 : w.ownsRow base e size v n xs) (c : Nat) :
  (Builtin.append_ #[t, t] ty #[v, .slice none 0 c]).run P w = .ok v w := by
 rcases g0.2 with ⟨rfl, rfl⟩ | ⟨g, cap, cur, rfl, _, _, g1, _⟩
 ·simp [Builtin.append_, run_underlying ht, sizeOf, typeInfo, hi, Builtin.lenOf, Builtin.firstCells]
 ·simp [Builtin.append_, run_underlying ht, sizeOf, typeInfo, hi, Builtin.lenOf, Builtin.firstCells, g1, storeCells]
theorem zpo {o : Oper} {a : Act} {w : World} {K : Act -> World -> Prop} {Q : Exit -> Act -> World -> Prop} (s x : Operand)
  (ho : o.op = .call { callee := .builtin .append, args := #[s, x], argTypes := #[27, 27] })
  (N : Nat) (v : Value) (l : List V.Comp) (hs : a.eval s = v) (g0 : CRow w N v l) (u : Value) (m : List V.Comp) (hx : a.eval x = u) (hu : Comps w u m) (hl : l.length + m.length ≤ 1000000) (hN : N ≤ w.heap.size)
  (h : ∀ v' w', CRow w' N v' (l ++ m) -> w.grownBy w' v.ownBlock -> K (a.put o.dst v') w') : o.wp Tryz.prog a w K Q := by
 obtain ⟨ie, z, hi, hz, h1, h2, h3⟩ := zss
 have g1 := hu.wf
 obtain ⟨ua, uc, rfl, g2⟩ := hu
 rcases ua with _ | ad
 ·have hn : m = [] := by
   cases m with
   | nil => rfl
   | cons c r =>
    obtain ⟨_, b, off, e, _⟩ := g2 0 (by simp)
    cases e
  subst hn
  have g3 := zke (P := Tryz.prog) (w := w) N 27 o.type 60 ie 36 Tryz.underlying27 hi v l.length (l.flatMap qb) g0.1 uc
  unfold Oper.wp
  simp [execOp, ho, resolve, invoke, builtin, hs, hx, g3, Result.andThen]
  exact h v w (by rw [List.append_nil]; exact g0) ⟨rfl, rfl, rfl, zva _, fun _ _ _ => rfl⟩
 ·refine wp_append_own w s x 27 ho N 60 ie z 36 80 Tryz.underlying27 hi hz h1 h2 h3 (by decide) v l.length (l.flatMap qb) hs g0.1 ad m.length uc (m.flatMap qb) hx (zi5 g1) ?_ ?_ (by unfold maxLen; omega) (by omega) hN ?_
  ·intro j u g4
   obtain ⟨q, hq, i, hi, rfl, hu⟩ := flat_get g1 g4
   obtain ⟨_, b, off, e, hlt, hr⟩ := g2 q hq
   cases e
   rw [Addr.add_mid]
   have := hr i u hu
   rw [show off + q * 36 + i = off + (q * 36 + i) by omega] at this
   exact this
  ·intro u hu
   obtain ⟨c, hc, g5⟩ := List.mem_flatMap.1 hu
   exact Array.all_eq_true_iff_forall_mem.1 (zff (c := c)) u (by unfold ccells; simpa using g5)
  ·intro v' w' g6 hg _
   refine h v' w' ⟨?_, fun d hd => ?_⟩ hg
   ·rw [List.length_append, List.flatMap_append]; exact g6
   ·rcases List.mem_append.1 hd with hd | hd
    ·exact g0.2 d hd
    ·exact g1 d hd
theorem zpz {ops : Array Oper} {rest : List Oper} {o : Oper} {a : Act} {w : World} {Q : Exit -> Act -> World -> Prop} (g1 : o.guard = none) (s x : Operand)
  (ho : o.op = .call { callee := .builtin .append, args := #[s, x], argTypes := #[27, 27] })
  (N : Nat) (v : Value) (l : List V.Comp) (hs : a.eval s = v) (g0 : CRow w N v l) (u : Value) (m : List V.Comp) (hx : a.eval x = u) (hu : Comps w u m) (hl : l.length + m.length ≤ 1000000) (hN : N ≤ w.heap.size)
  (h : ∀ v' w', CRow w' N v' (l ++ m) -> w.grownBy w' v.ownBlock -> wpList Tryz.prog ops Q rest (a.put o.dst v') w') : wpList Tryz.prog ops Q (o :: rest) a w :=
 wpList_plain g1 fun _ hK => zpo s x ho N v l hs g0 u m hx hu hl hN fun v' w' h2 h3 => hK _ _ (h v' w' h2 h3)
namespace RInv
variable {w : World} {O : Nat} {d : List Int} {mx : Int} {v : Value} {out : List V.Comp} {pv : Value} {st : List Int} {W W' : World}
end RInv
open Go.RowKit
theorem Zs.below {w w' : World} {v : Value} {l : List Int} (h : Zs w v l) (hb : Below w.heap.size w w') : Zs w' v l := by
 obtain ⟨a, cap, e, g0⟩ := h
 refine ⟨a, cap, e, fun j hj => ?_⟩
 obtain ⟨b, off, ea, hlt, hc⟩ := g0 j hj
 exact ⟨b, off, ea, Nat.lt_of_lt_of_le hlt hb.size, (hb.cell (p := ⟨b, off + j, none⟩) hlt).trans hc⟩
theorem Zs.atU {w : World} {a : Option Addr} {n cap : Nat} {l : List Int} (h : Zs w (.slice a n cap) l) (j : Nat) (hj : j < l.length) : ∃ b off, a = some ⟨b, off, none⟩ /\ b < w.heap.size /\ w.cell? ⟨b, off + j, none⟩ = some (.int .i64 l[j]) := by
 obtain ⟨a', c, e, hc⟩ := h
 cases e
 exact hc j hj
theorem zidx_any (v : Value) (l : List Int) (c : Int) (w : World) (hv : Zs w v l) (hl : l.length ≤ 1000000) :
  Calls Tryz.prog 75 #[v, .int .i64 c] w fun e w' => ∃ i : Int, e = .returned (.int .i64 i) /\ (0 ≤ i ↔ c ∈ l) /\ Below w.heap.size w w' := by
 have HV := zu8 hv
 obtain ⟨va, vc, rfl, g2⟩ := hv
 clear g2
 go_enter Tryz.func75, Tryz.ntmps75
 go_wp2
 go_loopw [8] (fun jv wx => ∃ j : Nat, j ≤ l.length /\ jv = .int .i64 j /\ c ∉ l.take j /\ Below w.heap.size w wx) (fun jv _ => l.length - (intOf jv).toNat)
 case atStart => exact ⟨0, Nat.zero_le _, rfl, by simp, zvb _ _⟩
 case round =>
  obtain ⟨j, hj, rfl, g3, g0⟩ := hrel
  have HBX := zu8 g0
  have g4 := zu8 g3
  clear g3
  by_cases hlt : j < l.length
  ·obtain ⟨g, off, rfl, g6, g5⟩ := HV.out.atU j hlt
   have hc := (g0.cell (p := ⟨g, off + j, none⟩) g6).trans g5
   have HTS : Hid (c ∉ l.take j -> ¬ c = l[j] -> c ∉ l.take (j + 1)) := zu8 (fun h1 h2 => by
     rw [List.take_succ_eq_append_getElem hlt, List.mem_append, List.mem_singleton]
     exact fun h => h.elim h1 h2)
   have HIN : Hid (c = l[j] -> c ∈ l) := zu8 (fun h => by rw [h]; exact List.getElem_mem hlt)
   have i1 : (0 : Int) ≤ (j : Int) := by omega
   have i2 : (j : Int) < (l.length : Int) := by omega
   clear g0 g5
   generalize l[j] = d at *
   by_cases hcd : c = d
   ·have g1 := zu8 hcd
    have hb : (c == d) = true := by rw [beq_iff_eq]; exact hcd
    clear hcd
    go_wp2
    go_ret
    exact ⟨j, rfl, ⟨fun _ => HIN.out g1.out, fun _ => by omega⟩, HBX.out⟩
   ·have g1 := zu8 hcd
    have hb : (c == d) = false := by rw [zvc]; exact hcd
    go_wp2
    go_roundw
    case rel => exact ⟨j + 1, by omega, by go_num, HTS.out g4.out g1.out, HBX.out⟩
    case measure => simp [intOf]; omega
  ·obtain rfl : j = l.length := by omega
   have HN : Hid (c ∉ l) := zu8 (by have := g4.out; rwa [List.take_length] at this)
   clear g0
   go_wp2
   go_ret
   exact ⟨-1, rfl, ⟨fun h => absurd h (by decide), fun h => absurd h HN.out⟩, HBX.out⟩
theorem zhas_any (v : Value) (l : List Int) (c : Int) (w : World) (hv : Zs w v l) (hl : l.length ≤ 1000000) :
  Calls Tryz.prog 42 #[v, .int .i64 c] w fun e w' => e = .returned (.bool (decide (c ∈ l))) /\ Below w.heap.size w w' := by
 have HV := zu8 hv
 clear hv
 go_enter Tryz.func42, Tryz.ntmps42
 go_wp2_with fail
 refine (zidx_any v l c w HV.out hl).mono ?_
 rintro e w1 ⟨i, rfl, hi, hb⟩
 have HI : Hid (decide (0 ≤ i) = decide (c ∈ l)) := zu8 (decide_eq_decide.2 hi)
 have HB := zu8 hb
 clear hi hb
 go_wp2
 go_ret
 exact ⟨by rw [← HI.out]; rfl, HB.out⟩
def V.pathOf (ok : Bool) (l : List V.Comp) (i : Int) : List Int := if ok = true /\ 0 ≤ i /\ i < l.length then (V.anc l i).reverse else []
theorem anc_lenU {l : List V.Comp} {ok : Bool} {i : Int} (h : ok = true -> V.qf l l.length = true) : (V.pathOf ok l i).length ≤ l.length := by
 unfold V.pathOf
 split
 ·rename_i q
  rw [List.length_reverse]
  exact V.znt (h q.1) i q.2.2
 ·simp
theorem zpf (d : List Int) (time : Int) (v : Value) (l : List V.Comp) (c : Int) (X O : Nat) (h : V.Hit) (u : Sd) (w : World) (hm : zj w) (hd : d.length = 32) (g1 : ∀ n ∈ d, (Lit.int .u8 n).wf = true) (hv : Comps w v l) (hl : l.length ≤ 100000)
  (hX : w.heap[X]? = some (.cells (icells d time v) 29 (0, 0))) (hO : w.heap[O]? = some (.cells #[.int .i64 c] 3 (0, 0))) :
  Calls Tryz.prog 41 #[.agg (hE (h, u)).toArray, .pointer (some ⟨X, 0, none⟩), .pointer (some ⟨O, 0, none⟩)] w fun e w' => e = .returned (.bool (!decide (c ∈ V.pathOf (V.qt d time l) l h.comp))) /\ Below w.heap.size w w' := by
 have HM := zu8 hm
 have HL := zu8 hv
 have HD := zu8 hd
 have g2 := zu8 g1
 have g3 := zu8 (qn hd time v)
 obtain ⟨⟨ua, un, uc⟩, hu⟩ : ∃ y, y = u := ⟨_, rfl⟩
 subst hu
 unfold hE Sd.v
 obtain ⟨W0, hW0⟩ : ∃ W0, W0 = w.alloc (.cells #[.int .i64 h.comp, .string ⟨h.id.toArray⟩, .int .i64 h.sev, .slice ua un uc] 63) := ⟨_, rfl⟩
 have g0 : Below w.heap.size w W0 := by rw [hW0]; exact (zvb w.heap.size w).alloc (zva _) _
 have HB0 := zu8 g0
 have HX := zu8 ((g0.block _ (Array.getElem?_eq_some_iff.1 hX).1).trans hX)
 have HO := zu8 ((g0.block _ (Array.getElem?_eq_some_iff.1 hO).1).trans hO)
 have HG : Hid (W0.heap[w.heap.size]? = some (.cells #[.int .i64 h.comp, .string ⟨h.id.toArray⟩, .int .i64 h.sev, .slice ua un uc] 63 (0, 0))) := zu8 (by rw [hW0]; exact heap_alloc_new w _)
 have HW := zu8 hW0
 have g4 : Hid (X < W0.heap.size) := zu8 (Array.getElem?_eq_some_iff.1 HX.out).1
 have g5 : Hid (O < W0.heap.size) := zu8 (Array.getElem?_eq_some_iff.1 HO.out).1
 have HOK : Hid ((V.pathOf (V.qt d time l) l h.comp).length ≤ 1000000) := zu8 (Nat.le_trans (anc_lenU (fun h => by unfold V.qt at h; exact (Bool.and_eq_true_iff.1 h).2)) (by omega))
 clear hd g1 hm hv g0 hX hO hW0
 go_enter Tryz.func41, Tryz.ntmps41
 go_wp2_with fail
 rw [← HW.out]
 have h0 : W0.cell? ⟨w.heap.size, 0, none⟩ = some (.int .i64 h.comp) := by rw [cell_of_row _ _ _ _ _ _ HG.out]; rfl
 have o0 : W0.cell? ⟨O, 0, none⟩ = some (.int .i64 c) := by rw [cell_of_row _ _ _ _ _ _ HO.out]; rfl
 refine wp_region_held_drew (S := (fun W' => Below W0.heap.size W0 W')) (by kernel_rfl) ((zvb _ W0).drew) (fun hHeld => ?_)
 refine tv 0 (.agg (icells d time v)) ?_ ?_
 ·exact fun w' hSw => zcx (ty := 29) rfl rfl (zcg ((hSw.block X g4.out).trans HX.out) Tryz.underlying29 rfl (by rw [xu, g3.out]))
 refine tk 1 ?_
 refine tv 2 (.int .i64 h.comp) ?_ ?_
 ·exact fun w' hSw => zcx rfl rfl (by have hq := zf hSw h0; go_simp)
 refine tv 4 (.int .i64 c) ?_ ?_
 ·exact fun w' hSw => zcx rfl rfl (by have hq := zf hSw o0; go_simp)
 refine rd 3 fun K hK => ?_
 go_simp
 refine (ztw d time v l h.comp _ (HM.out.below (HB0.out.trans (hHeld.mono HB0.out.size))) HD.out g2.out (HL.out.below (HB0.out.trans (hHeld.mono HB0.out.size))) hl).mono ?_
 rintro e w3 ⟨pv, rfl, hz, hb3⟩
 try dsimp only
 have HZ : Hid (Zs w3 pv (V.pathOf (V.qt d time l) l h.comp)) := zu8 hz
 refine hK.out _ _ ?_ (fun hHeld => nx ?_)
 ·(try dsimp only); exact hHeld.trans (hb3.mono hHeld.size)
 clear hK K
 refine rd 5 fun K hK => ?_
 go_simp
 refine (zhas_any _ _ c _ (HZ.out.below (zvb _ _)) HOK.out).mono ?_
 rintro e w5 ⟨rfl, hb5⟩
 try dsimp only
 refine hK.out _ _ ?_ (fun hHeld => nx ?_)
 ·(try dsimp only); exact hHeld.trans (hb5.mono hHeld.size)
 clear hK K
 refine tk 6 ?_
 refine tk 7 ?_
 refine wpAnyH_done (by kernel_rfl) ?_ _
 have HE := zu9 HB0 hHeld
 clear hHeld h0 o0
 go_wp2
 go_ret
 exact ⟨rfl, HE.out⟩
end Go.Proofs.YtbikeahmldobkaaGreatDoor
