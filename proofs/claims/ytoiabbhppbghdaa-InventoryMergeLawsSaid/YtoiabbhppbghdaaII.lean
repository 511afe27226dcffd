/-
  Walk: the law InventoryMergeLaws.
-/
import Derived.Test.YtoiabbhppbghdaaIE
import Derived.Test.YtoiabbhppbghdaaIG
import Derived.Test.YtoiabbhppbghdaaIH
import Derived.Test.YtoiabbhppbghdaaJI
import Derived.Test.YtoiabbhppbghdaaTN
namespace Go.Proofs.Ytoiabbhppbghdaa
open Go.RowKit

/-- an inventory that lies in a block -/
structure IAt (W : World) (g : Nat) (t : Int) (v : Value) (l : List V.Comp) : Prop where
  row : W.heap[g]? = some (.cells (icells (dig1 1) t v) 41 (0, 0))
  comps : Comps W v l
theorem IAt.below {W W' : World} {g : Nat} {t : Int} {v : Value} {l : List V.Comp} (h : IAt W g t v l) (hb : Below W.heap.size W W') : IAt W' g t v l :=
  ⟨(hb.block g (Array.getElem?_eq_some_iff.1 h.row).1).trans h.row, h.comps.below hb⟩
theorem IAt.new {W : World} {t : Int} {v : Value} {l : List V.Comp} (h : Comps W v l) : IAt (W.alloc (.cells (icells (dig1 1) t v) 41)) W.heap.size t v l :=
  ⟨heap_alloc_new W _, h.below ((Below.refl _ W).alloc (Nat.le_refl _) _)⟩
/-- at the operation: an inventory loaded -/
theorem wl_loadAt {ops : Array Oper} {rest : List Oper} {o : Oper} {a : Act} {w : World} {Q : Exit → Act → World → Prop} (hgd : o.guard = none) (x : Operand) (ho : o.op = .load 41 x)
    (g : Nat) (hx : a.eval x = .pointer (some ⟨g, 0, none⟩)) {t : Int} {v : Value} {l : List V.Comp} (hi : IAt w g t v l)
    (h : wpList Try.prog ops Q rest (a.put o.dst (.agg (icells (dig1 1) t v))) w) : wpList Try.prog ops Q (o :: rest) a w :=
  wl_loadV hgd x ho g hx _ (icells_size rfl _ _) hi.row h
theorem wg_loadAt {ops : Array Oper} {rest : List Oper} {o : Oper} {a : Act} {w : World} {Q : Exit → Act → World → Prop} (hw : Region.wanted o (yielded ops a.tmps) = true) (x : Operand) (ho : o.op = .load 41 x)
    (g : Nat) (hx : a.eval x = .pointer (some ⟨g, 0, none⟩)) {t : Int} {v : Value} {l : List V.Comp} (hi : IAt w g t v l)
    (h : wpList Try.prog ops Q rest (a.put o.dst (.agg (icells (dig1 1) t v))) w) : wpList Try.prog ops Q (o :: rest) a w :=
  wg_loadI hw x ho g hx _ (icells_size rfl _ _) hi.row h
/-- at the operation: an inventory stored into a new block -/
theorem wl_storeN {ops : Array Oper} {rest : List Oper} {o : Oper} {a : Act} {w : World} {Q : Exit → Act → World → Prop} (hgd : o.guard = none) (x y : Operand) (ho : o.op = .store 41 x y)
    (old : Array Value) (hx : a.eval x = .pointer (some ⟨w.heap.size, 0, none⟩)) (time : Int) (v : Value) (hv : v.oneCell' = true) (hy : a.eval y = .agg (icells (dig1 1) time v)) (ho34 : old.size = 34)
    (h : wpList Try.prog ops Q rest (a.put o.dst undef) (w.alloc (.cells (icells (dig1 1) time v) 41))) : wpList Try.prog ops Q (o :: rest) a (w.alloc (.cells old 41)) := by
  refine wl_storeV hgd x y ho w.heap.size old _ (heap_alloc_new w _) hx (dig1 1) time v rfl hv hy ho34 ?_
  rw [set_new]; exact h

/-- an inventory that is valid and small -/
structure Fine (t : Int) (l : List V.Comp) (n : Nat) : Prop where
  t0 : 0 ≤ t
  t9 : t ≤ 9
  ok : V.compsTo l l.length = true
  len : l.length ≤ n
theorem Fine.valid {t : Int} {l : List V.Comp} {n : Nat} (h : Fine t l n) (hn : n ≤ 128) : V.invOk (dig1 1) t l = true := by
  have := h.t0
  have := h.t9
  have := h.len
  rw [inv_rest (by decide) (by omega) (by omega) (by omega)]
  exact h.ok
theorem Fine.merge {t t' : Int} {l l' : List V.Comp} {n n' : Nat} (h : Fine t l n) (h' : Fine t' l' n') : Fine (max t t') (V.mergeL l l') (n + n') := by
  have h1 := h.t0
  have h2 := h.t9
  have h3 := h'.t0
  have h4 := h'.t9
  have h5 := h.len
  have h6 := h'.len
  have h7 := V.mergeL_len l l'
  exact ⟨by omega, by omega, V.mergeL_ok h.ok h'.ok, by omega⟩
theorem merge_fine {t t' : Int} {l l' : List V.Comp} {n n' : Nat} {v v' : Value} {w : World} (hm : MaxOk w) (hv : Comps w v l) (hv' : Comps w v' l') (h : Fine t l n) (h' : Fine t' l' n') (hn : n + n' ≤ 128) :
    Calls Try.prog 17 #[.agg (icells (dig1 1) t v), .agg (icells (dig1 1) t' v')] w fun e w' => ∃ v'', e = .returned (.tuple #[.agg (icells (dig1 1) (max t t') v''), .int .i64 0]) ∧ Comps w' v'' (V.mergeL l l') ∧ Below w.heap.size w w' := by
  have h5 := h.len
  have h6 := h'.len
  have h7 := V.mergeL_len l l'
  have e : V.mergeErr (dig1 1) t l (dig1 1) t' l' = 0 := by
    unfold V.mergeErr
    rw [if_pos ⟨h.valid (by omega), h'.valid (by omega)⟩, if_pos rfl, if_neg (by omega)]
  have e2 : V.mergeVal (dig1 1) t l (dig1 1) t' l' = (dig1 1, max t t', V.mergeL l l') := by unfold V.mergeVal; rw [if_pos e]
  refine (merge_any (dig1 1) t v l (dig1 1) t' v' l' w hm rfl (by decide) hv (by omega) rfl (by decide) hv' (by omega)).mono ?_
  rintro e' w' ⟨v'', rfl, hc, hb⟩
  rw [e, e2]
  rw [e2] at hc
  exact ⟨v'', rfl, hc, hb⟩

set_option maxRecDepth 100000 in
set_option maxHeartbeats 6400000 in
theorem mergeLaws_any (a : Option Addr) (m cap : Nat) (w : World) (hmx : MaxOk w) (ht : Nums w a m) :
    Calls Try.prog 5 #[.slice a m cap] w fun e w' => e = .returned (.bool true) ∧ Below w.heap.size w w' := by
  have HM := Lib.hid hmx
  have HT := Lib.hid ht
  clear hmx ht
  have hb0 : Below w.heap.size w (w.alloc (.cells #[.slice a m cap, .int .i64 0] 44)) := (Below.refl _ w).alloc (Nat.le_refl _) _
  have HTP : Hid (Tape (w.alloc (.cells #[.slice a m cap, .int .i64 0] 44)) w.heap.size 0) := Lib.hid (Tape.made HT.out hb0 (Nat.le_refl _) (by rw [World.cell?_alloc_new]; rfl) (by rw [World.cell?_alloc_new]; rfl) (by rw [frozen_alloc, if_pos rfl]))
  have HB0 := Lib.hid hb0
  have hz0 : w.heap.size < (w.alloc (.cells #[.slice a m cap, .int .i64 0] 44)).heap.size := by simp
  clear hb0
  go_enter Try.func5, Try.ntmps5
  go_wp2_with fail
  generalize w.alloc (.cells #[.slice a m cap, .int .i64 0] 44) = W0 at *
  refine (made_any w.heap.size 0 _ HTP.out (by omega)).mono ?_
  rintro e w1 ⟨ta, va, la, hma, rfl, ht1, hg1⟩
  have HT1 := Lib.hid ht1
  have HMA := Lib.hid hma
  have HG1 := Lib.hid hg1
  clear ht1 hma hg1
  go_wp2_with fail
  refine (made_any w.heap.size (0 + 50) _ HT1.out (by omega)).mono ?_
  rintro e w2 ⟨tb, vb, lb, hmb, rfl, ht2, hg2⟩
  have HT2 := Lib.hid ht2
  have HMB := Lib.hid hmb
  have HG2 := Lib.hid hg2
  clear ht2 hmb hg2
  go_wp2_with fail
  refine (made_any w.heap.size (0 + 50 + 50) _ HT2.out (by omega)).mono ?_
  rintro e w3 ⟨tc, vc, lc, hmc, rfl, ht3, hg3⟩
  have hs1 := HG1.out.size
  have hs2 := HG2.out.size
  have hs3 := hg3.size
  have HB3 : Hid (Below w.heap.size w w3) := Lib.hid (((HB0.out.trans (grown_below HG1.out (Nat.le_refl _) (by omega))).trans (grown_below HG2.out (Nat.le_refl _) (by omega))).trans (grown_below hg3 (Nat.le_refl _) (by omega)))
  have hca : Comps w3 va la := ((HMA.out.row.kept2 HG2.out (fun b e h => by cases e; have := HMA.out.row.block _ h; omega)).kept2 hg3 (fun b e h => by cases e; have := HMA.out.row.block _ h; omega)).comps
  have hcb : Comps w3 vb lb := (HMB.out.row.kept2 hg3 (fun b e h => by cases e; have := HMB.out.row.block _ h; omega)).comps
  have hcc : Comps w3 vc lc := hmc.row.comps
  have FA : Hid (Fine ta la 8) := Lib.hid ⟨HMA.out.time0, by have := HMA.out.time9; omega, HMA.out.ok, HMA.out.len⟩
  have FB : Hid (Fine tb lb 8) := Lib.hid ⟨HMB.out.time0, by have := HMB.out.time9; omega, HMB.out.ok, HMB.out.len⟩
  have FC : Hid (Fine tc lc 8) := Lib.hid ⟨hmc.time0, by have := hmc.time9; omega, hmc.ok, hmc.len⟩
  have oa := hca.one
  have ob := hcb.one
  have oc := hcc.one
  obtain ⟨A0, hA0⟩ : ∃ A0, A0 = ((w3.alloc (.cells (icells zero32 0 (.slice none 0 0)) 41)).alloc (.cells (icells zero32 0 (.slice none 0 0)) 41)).alloc (.cells (icells zero32 0 (.slice none 0 0)) 41) := ⟨_, rfl⟩
  have hzA : A0.heap.size = w3.heap.size + 3 := by rw [hA0]; simp
  have hbA : Below w3.heap.size w3 A0 := by rw [hA0]; exact (((Below.refl _ w3).alloc (Nat.le_refl _) _).alloc (by simp) _).alloc (by simp; omega) _
  have r0 : A0.heap[w3.heap.size]? = some (.cells (icells zero32 0 (.slice none 0 0)) 41 (0, 0)) := by
    rw [hA0, Below.heap_alloc _ _ _ (by simp; omega), Below.heap_alloc _ _ _ (by simp)]; exact heap_alloc_new w3 _
  have r1 : A0.heap[w3.heap.size + 1]? = some (.cells (icells zero32 0 (.slice none 0 0)) 41 (0, 0)) := by
    rw [hA0, Below.heap_alloc _ _ _ (by simp)]; have := heap_alloc_new (w3.alloc (.cells (icells zero32 0 (.slice none 0 0)) 41)) (.cells (icells zero32 0 (.slice none 0 0)) 41); simpa using this
  have r2 : A0.heap[w3.heap.size + 1 + 1]? = some (.cells (icells zero32 0 (.slice none 0 0)) 41 (0, 0)) := by
    rw [hA0]; have := heap_alloc_new ((w3.alloc (.cells (icells zero32 0 (.slice none 0 0)) 41)).alloc (.cells (icells zero32 0 (.slice none 0 0)) 41)) (.cells (icells zero32 0 (.slice none 0 0)) 41); simpa using this
  have R0 := Lib.hid r0
  have R1 : Hid ((A0.setRow w3.heap.size (icells (dig1 1) ta va)).heap[w3.heap.size + 1]? = some (.cells (icells zero32 0 (.slice none 0 0)) 41 (0, 0))) := Lib.hid (by rw [setRow_other _ _ _ _ (by omega)]; exact r1)
  have R2 : Hid (((A0.setRow w3.heap.size (icells (dig1 1) ta va)).setRow (w3.heap.size + 1) (icells (dig1 1) tb vb)).heap[w3.heap.size + 1 + 1]? = some (.cells (icells zero32 0 (.slice none 0 0)) 41 (0, 0))) := Lib.hid (by rw [setRow_other _ _ _ _ (by omega), setRow_other _ _ _ _ (by omega)]; exact r2)
  have hb3A : Below w3.heap.size w3 (((A0.setRow w3.heap.size (icells (dig1 1) ta va)).setRow (w3.heap.size + 1) (icells (dig1 1) tb vb)).setRow (w3.heap.size + 1 + 1) (icells (dig1 1) tc vc)) :=
    setRow_below (setRow_below (setRow_below hbA (Nat.le_refl _) _) (by omega) _) (by omega) _
  have HA : Hid (IAt (((A0.setRow w3.heap.size (icells (dig1 1) ta va)).setRow (w3.heap.size + 1) (icells (dig1 1) tb vb)).setRow (w3.heap.size + 1 + 1) (icells (dig1 1) tc vc)) w3.heap.size ta va la) := Lib.hid ⟨by
    rw [setRow_other _ _ _ _ (by omega), setRow_other _ _ _ _ (by omega)]; exact setRow_heap _ _ _ _ _ _ r0, hca.below hb3A⟩
  have HB : Hid (IAt (((A0.setRow w3.heap.size (icells (dig1 1) ta va)).setRow (w3.heap.size + 1) (icells (dig1 1) tb vb)).setRow (w3.heap.size + 1 + 1) (icells (dig1 1) tc vc)) (w3.heap.size + 1) tb vb lb) := Lib.hid ⟨by
    rw [setRow_other _ _ _ _ (by omega)]; exact setRow_heap _ _ _ _ _ _ R1.out, hcb.below hb3A⟩
  have HC : Hid (IAt (((A0.setRow w3.heap.size (icells (dig1 1) ta va)).setRow (w3.heap.size + 1) (icells (dig1 1) tb vb)).setRow (w3.heap.size + 1 + 1) (icells (dig1 1) tc vc)) (w3.heap.size + 1 + 1) tc vc lc) := Lib.hid ⟨setRow_heap _ _ _ _ _ _ R2.out, hcc.below hb3A⟩
  have HBW : Hid (Below w.heap.size w (((A0.setRow w3.heap.size (icells (dig1 1) ta va)).setRow (w3.heap.size + 1) (icells (dig1 1) tb vb)).setRow (w3.heap.size + 1 + 1) (icells (dig1 1) tc vc))) := Lib.hid (HB3.out.trans (hb3A.mono HB3.out.size))
  have HZ0 : Hid ((icells zero32 0 (.slice none 0 0)).size = 34) := Lib.hid (icells_size rfl _ _)
  clear hmc ht3 hg3 hca hcb hcc hbA r0 r1 r2 hb3A HT1 HT2 HMA HMB HG1 HG2 HB3 HB0 hs1 hs2 hs3 hzA hz0
  go_wp2_with (first | (rw [zero_inv, ← hA0]; clear hA0; refine wl_storeV rfl _ _ rfl _ _ _ R0.out rfl (dig1 1) ta va rfl oa rfl HZ0.out ?_) | (refine wl_storeV rfl _ _ rfl _ _ _ R1.out rfl (dig1 1) tb vb rfl ob rfl HZ0.out ?_) | (refine wl_storeV rfl _ _ rfl _ _ _ R2.out rfl (dig1 1) tc vc rfl oc rfl HZ0.out ?_; clear R0 R1 R2 oa ob oc; generalize ((A0.setRow w3.heap.size (icells (dig1 1) ta va)).setRow (w3.heap.size + 1) (icells (dig1 1) tb vb)).setRow (w3.heap.size + 1 + 1) (icells (dig1 1) tc vc) = WA at *; generalize w3.heap.size = X at *) | (refine wl_loadAt rfl _ rfl X rfl HA.out ?_) | (refine wl_loadAt rfl _ rfl (X + 1) rfl HB.out ?_) | fail)
  obtain ⟨tp, htp⟩ : ∃ x, x = max ta tb := ⟨_, rfl⟩
  have FP := Lib.hid (FA.out.merge FB.out)
  refine (merge_fine (HM.out.below HBW.out) HA.out.comps HB.out.comps FA.out FB.out (by omega)).mono ?_
  rintro e wp ⟨vp, rfl, hcp, hbp⟩
  rw [← htp] at FP ⊢
  have HEp := Lib.hid htp
  clear htp
  have hnp : Below WA.heap.size WA (wp.alloc (.cells (icells (dig1 1) tp vp) 41)) := hbp.alloc hbp.size _
  have HP := Lib.hid (IAt.new (t := tp) hcp)
  replace HBW := Lib.hid (HBW.out.trans (hnp.mono HBW.out.size))
  replace HA := Lib.hid (HA.out.below hnp)
  replace HB := Lib.hid (HB.out.below hnp)
  replace HC := Lib.hid (HC.out.below hnp)
  have hop := hcp.one
  clear hcp hbp hnp
  go_wp2_with (first | (refine wl_storeN rfl _ _ rfl _ rfl tp vp hop rfl rfl ?_; clear hop; generalize wp.alloc (.cells (icells (dig1 1) tp vp) 41) = WP at *; generalize wp.heap.size = gp at *) | (refine wl_loadAt rfl _ rfl (X + 1) rfl HB.out ?_) | (refine wl_loadAt rfl _ rfl (X + 1 + 1) rfl HC.out ?_) | fail)
  obtain ⟨tq, htq⟩ : ∃ x, x = max tb tc := ⟨_, rfl⟩
  have FQ := Lib.hid (FB.out.merge FC.out)
  refine (merge_fine (HM.out.below HBW.out) HB.out.comps HC.out.comps FB.out FC.out (by omega)).mono ?_
  rintro e wq ⟨vq, rfl, hcq, hbq⟩
  rw [← htq] at FQ ⊢
  have HEq := Lib.hid htq
  clear htq
  have hnq : Below WP.heap.size WP (wq.alloc (.cells (icells (dig1 1) tq vq) 41)) := hbq.alloc hbq.size _
  have HQ := Lib.hid (IAt.new (t := tq) hcq)
  replace HBW := Lib.hid (HBW.out.trans (hnq.mono HBW.out.size))
  replace HA := Lib.hid (HA.out.below hnq)
  replace HB := Lib.hid (HB.out.below hnq)
  replace HC := Lib.hid (HC.out.below hnq)
  replace HP := Lib.hid (HP.out.below hnq)
  have hoq := hcq.one
  clear hcq hbq hnq
  go_wp2_with (first | (refine wl_storeN rfl _ _ rfl _ rfl tq vq hoq rfl rfl ?_; clear hoq; generalize wq.alloc (.cells (icells (dig1 1) tq vq) 41) = WQ at *; generalize wq.heap.size = gq at *) | (refine wl_loadAt rfl _ rfl gp rfl HP.out ?_) | (refine wl_loadAt rfl _ rfl (X + 1 + 1) rfl HC.out ?_) | fail)
  obtain ⟨tr, htr⟩ : ∃ x, x = max tp tc := ⟨_, rfl⟩
  have FR := Lib.hid (FP.out.merge FC.out)
  refine (merge_fine (HM.out.below HBW.out) HP.out.comps HC.out.comps FP.out FC.out (by omega)).mono ?_
  rintro e wr ⟨vr, rfl, hcr, hbr⟩
  rw [← htr] at FR ⊢
  have HEr := Lib.hid htr
  clear htr
  have hnr : Below WQ.heap.size WQ (wr.alloc (.cells (icells (dig1 1) tr vr) 41)) := hbr.alloc hbr.size _
  have HR := Lib.hid (IAt.new (t := tr) hcr)
  replace HBW := Lib.hid (HBW.out.trans (hnr.mono HBW.out.size))
  replace HA := Lib.hid (HA.out.below hnr)
  replace HB := Lib.hid (HB.out.below hnr)
  replace HC := Lib.hid (HC.out.below hnr)
  replace HP := Lib.hid (HP.out.below hnr)
  replace HQ := Lib.hid (HQ.out.below hnr)
  have hor := hcr.one
  clear hcr hbr hnr
  go_wp2_with (first | (refine wl_storeN rfl _ _ rfl _ rfl tr vr hor rfl rfl ?_; clear hor; generalize wr.alloc (.cells (icells (dig1 1) tr vr) 41) = WR at *; generalize wr.heap.size = gr at *) | (refine wl_loadAt rfl _ rfl X rfl HA.out ?_) | (refine wl_loadAt rfl _ rfl gq rfl HQ.out ?_) | fail)
  obtain ⟨ts, hts⟩ : ∃ x, x = max ta tq := ⟨_, rfl⟩
  have FS := Lib.hid (FA.out.merge FQ.out)
  refine (merge_fine (HM.out.below HBW.out) HA.out.comps HQ.out.comps FA.out FQ.out (by omega)).mono ?_
  rintro e ws ⟨vs, rfl, hcs, hbs⟩
  rw [← hts] at FS ⊢
  have HEs := Lib.hid hts
  clear hts
  have hns : Below WR.heap.size WR (ws.alloc (.cells (icells (dig1 1) ts vs) 41)) := hbs.alloc hbs.size _
  have HS := Lib.hid (IAt.new (t := ts) hcs)
  replace HBW := Lib.hid (HBW.out.trans (hns.mono HBW.out.size))
  replace HA := Lib.hid (HA.out.below hns)
  replace HB := Lib.hid (HB.out.below hns)
  replace HC := Lib.hid (HC.out.below hns)
  replace HP := Lib.hid (HP.out.below hns)
  replace HQ := Lib.hid (HQ.out.below hns)
  replace HR := Lib.hid (HR.out.below hns)
  have hos := hcs.one
  clear hcs hbs hns
  go_wp2_with (first | (refine wl_storeN rfl _ _ rfl _ rfl ts vs hos rfl rfl ?_; clear hos; generalize ws.alloc (.cells (icells (dig1 1) ts vs) 41) = WS at *; generalize ws.heap.size = gs at *) | (refine wl_loadAt rfl _ rfl X rfl HA.out ?_) | fail)
  obtain ⟨tt, htt⟩ : ∃ x, x = max ta ta := ⟨_, rfl⟩
  have FT := Lib.hid (FA.out.merge FA.out)
  refine (merge_fine (HM.out.below HBW.out) HA.out.comps HA.out.comps FA.out FA.out (by omega)).mono ?_
  rintro e wt ⟨vt, rfl, hct, hbt⟩
  rw [← htt] at FT ⊢
  have HEt := Lib.hid htt
  clear htt
  have hnt : Below WS.heap.size WS (wt.alloc (.cells (icells (dig1 1) tt vt) 41)) := hbt.alloc hbt.size _
  have HT' := Lib.hid (IAt.new (t := tt) hct)
  replace HBW := Lib.hid (HBW.out.trans (hnt.mono HBW.out.size))
  replace HA := Lib.hid (HA.out.below hnt)
  replace HB := Lib.hid (HB.out.below hnt)
  replace HC := Lib.hid (HC.out.below hnt)
  replace HP := Lib.hid (HP.out.below hnt)
  replace HQ := Lib.hid (HQ.out.below hnt)
  replace HR := Lib.hid (HR.out.below hnt)
  replace HS := Lib.hid (HS.out.below hnt)
  have hot := hct.one
  clear hct hbt hnt
  go_wp2_with (first | (refine wl_storeN rfl _ _ rfl _ rfl tt vt hot rfl rfl ?_; clear hot; generalize wt.alloc (.cells (icells (dig1 1) tt vt) 41) = WT at *; generalize wt.heap.size = gt at *) | (refine wl_loadAt rfl _ rfl gp rfl HP.out ?_) | (refine wl_loadAt rfl _ rfl (X + 1) rfl HB.out ?_) | fail)
  obtain ⟨tu, htu⟩ : ∃ x, x = max tp tb := ⟨_, rfl⟩
  have FU := Lib.hid (FP.out.merge FB.out)
  refine (merge_fine (HM.out.below HBW.out) HP.out.comps HB.out.comps FP.out FB.out (by omega)).mono ?_
  rintro e wu ⟨vu, rfl, hcu, hbu⟩
  rw [← htu] at FU ⊢
  have HEu := Lib.hid htu
  clear htu
  have hnu : Below WT.heap.size WT (wu.alloc (.cells (icells (dig1 1) tu vu) 41)) := hbu.alloc hbu.size _
  have HU := Lib.hid (IAt.new (t := tu) hcu)
  replace HBW := Lib.hid (HBW.out.trans (hnu.mono HBW.out.size))
  replace HA := Lib.hid (HA.out.below hnu)
  replace HB := Lib.hid (HB.out.below hnu)
  replace HC := Lib.hid (HC.out.below hnu)
  replace HP := Lib.hid (HP.out.below hnu)
  replace HQ := Lib.hid (HQ.out.below hnu)
  replace HR := Lib.hid (HR.out.below hnu)
  replace HS := Lib.hid (HS.out.below hnu)
  replace HT' := Lib.hid (HT'.out.below hnu)
  have hou := hcu.one
  clear hcu hbu hnu
  go_wp2_with (first | (refine wl_storeN rfl _ _ rfl _ rfl tu vu hou rfl rfl ?_; clear hou; generalize wu.alloc (.cells (icells (dig1 1) tu vu) 41) = WU at *; generalize wu.heap.size = gu at *) | fail)
  refine (awake19_any _ (HM.out.below HBW.out)).mono ?_
  rintro e w5 ⟨rfl, hb5⟩
  have HLX : Hid (V.mergeL la (V.mergeL lb lc) = V.mergeL (V.mergeL la lb) lc) := Lib.hid (V.mergeL_assoc FA.out.ok FB.out.ok FC.out.ok).symm
  have HLZ : Hid (V.mergeL la la = la) := Lib.hid (V.mergeL_self FA.out.ok)
  have HLW : Hid (V.mergeL (V.mergeL la lb) lb = V.mergeL la lb) := Lib.hid (V.mergeL_again FA.out.ok FB.out.ok)
  have HTS : Hid (ts = tr) := Lib.hid (by have h1 := HEp.out; have h2 := HEq.out; have h3 := HEr.out; have h4 := HEs.out; omega)
  have HTT : Hid (tt = ta) := Lib.hid (by have h1 := HEt.out; omega)
  have HTU : Hid (tu = tp) := Lib.hid (by have h1 := HEu.out; have h2 := HEp.out; omega)
  rw [HLX.out, HTS.out] at HS
  rw [HLZ.out, HTT.out] at HT'
  rw [HLW.out, HTU.out] at HU
  have lr := FR.out.len
  have lt := FA.out.len
  have lp := FP.out.len
  replace HA := Lib.hid (HA.out.below hb5)
  replace HB := Lib.hid (HB.out.below hb5)
  replace HC := Lib.hid (HC.out.below hb5)
  replace HP := Lib.hid (HP.out.below hb5)
  replace HQ := Lib.hid (HQ.out.below hb5)
  replace HR := Lib.hid (HR.out.below hb5)
  replace HS := Lib.hid (HS.out.below hb5)
  replace HT' := Lib.hid (HT'.out.below hb5)
  replace HU := Lib.hid (HU.out.below hb5)
  replace HBW := Lib.hid (HBW.out.trans (hb5.mono HBW.out.size))
  clear hb5
  go_wp2_with (first | (refine wg_loadAt rfl _ rfl gr rfl HR.out ?_) | (refine wg_loadAt rfl _ rfl gs rfl HS.out ?_) | fail)
  refine (same_true (dig1 1) tr vr vs _ _ rfl (by decide) HR.out.comps HS.out.comps (by omega)).mono ?_
  rintro e w6 ⟨rfl, hb6⟩
  replace HT' := Lib.hid (HT'.out.below hb6)
  replace HA := Lib.hid (HA.out.below hb6)
  replace HU := Lib.hid (HU.out.below hb6)
  replace HP := Lib.hid (HP.out.below hb6)
  replace HBW := Lib.hid (HBW.out.trans (hb6.mono HBW.out.size))
  clear hb6
  go_wp2_with (first | (refine wg_loadAt rfl _ rfl gt rfl HT'.out ?_) | (refine wg_loadAt rfl _ rfl X rfl HA.out ?_) | fail)
  refine (same_true (dig1 1) ta vt va _ _ rfl (by decide) HT'.out.comps HA.out.comps (by omega)).mono ?_
  rintro e w7 ⟨rfl, hb7⟩
  replace HU := Lib.hid (HU.out.below hb7)
  replace HP := Lib.hid (HP.out.below hb7)
  replace HBW := Lib.hid (HBW.out.trans (hb7.mono HBW.out.size))
  clear hb7
  go_wp2_with (first | (refine wg_loadAt rfl _ rfl gu rfl HU.out ?_) | (refine wg_loadAt rfl _ rfl gp rfl HP.out ?_) | fail)
  refine (same_true (dig1 1) tp vu vp _ _ rfl (by decide) HU.out.comps HP.out.comps (by omega)).mono ?_
  rintro e w8 ⟨rfl, hb8⟩
  replace HBW := Lib.hid (HBW.out.trans (hb8.mono HBW.out.size))
  clear hb8
  go_wp2
  go_ret
  exact ⟨ret_bool rfl, HBW.out⟩
end Go.Proofs.Ytoiabbhppbghdaa
