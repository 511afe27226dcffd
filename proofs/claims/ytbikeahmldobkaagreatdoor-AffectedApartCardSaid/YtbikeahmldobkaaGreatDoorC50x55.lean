/-
  Lemmas for the law.
-/
import Derived.Test.YtbikeahmldobkaaGreatDoorC50x46
import Derived.Test.YtbikeahmldobkaaGreatDoorC50x49
set_option linter.all false
set_option maxRecDepth 100000
set_option maxHeartbeats 6400000
namespace Go.Proofs.YtbikeahmldobkaaGreatDoor
open Go.RowKit
theorem zru (f : V.Bs -> Nat) (ids : List V.Bs) (i : Nat) : ((ids.take i).map f).sum ≤ (ids.map f).sum := by
 conv => rhs; rw [← List.take_append_drop i ids, List.map_append, List.sum_append]
 omega
theorem zye {P : Prop} (h : P := by
 refine wpAnyH_done (by kernel_rfl) ?_ _
 clear hHeld n0 s0 hb
 go_wp2
 go_roundw
 case rel => exact ⟨k + 1, by have := HKL.out; omega, by go_num, by rw [HFS.out]; exact HRD.out, HBD.out⟩
 case measure => have := HKL.out; simp [intOf]; omega) : P := h
theorem zyq {P : Prop} (h : P := by
 clear hr8 hg8 ho8
 go_wp2
 go_roundw
 case rel => exact ⟨k + 1, by have := HKL.out; omega, by go_num, by rw [HFS.out]; exact HR8.out, HB8.out⟩
 case measure => have := HKL.out; simp [intOf]; omega) : P := h
theorem zgt (a : Option Addr) (m cap : Nat) (w : World) (hm : zj w) (ht : Nums w a m) (z0 : m ≤ cap) :
  Calls Tryz.prog 8 #[.slice a m cap] w fun e w' => e = .returned (.bool true) /\ Below w.heap.size w w' := by
 have HM := zwg hm
 have HT := zwg (And.intro ht z0)
 clear hm ht z0
 go_enter Tryz.func8, Tryz.ntmps8
 go_wp2_with fail
 refine (zcu a m cap 200 w HT.out.1 HT.out.2 (by decide)).mono ?_
 rintro e w1 ⟨rfl, ht1, hb1, z1⟩
 have HT1 := zwg ht1
 have HB1 := zwg hb1
 have z2 := zwg z1
 clear ht1 hb1 z1
 go_wp2_with fail
 refine (zj5 w.heap.size 0 6 w1 HT1.out (by decide) (by decide)).mono ?_
 rintro e w2 ⟨x, r, v, l, z3, z4, hr9, hl, z5, rfl, k5, z6, k6⟩
 have HX1 := zwg z3
 have Q7 := zwg z4
 have HR9 := zwg hr9
 have z7 := zwg hl
 have HTO := zwg z5
 have Q8 := zwg k5
 have z8 := zwg z6
 have Q9 := zwg k6
 have U0 := zwg (HM.out.below HB1.out)
 have z9 := zwg (U0.out.tape HT1.out k6)
 obtain ⟨va, vc, U1, j0⟩ := k5.comps
 subst U1
 obtain ⟨ic, k7⟩ : ∃ ic, ic = (icells (dig1 x) r (.slice va l.length vc)) := ⟨_, rfl⟩
 have j2 := zwg k7
 rw [← k7]
 clear z3 z4 hr9 hl z5 k5 z6 k6 j0 k7
 go_wp2_with fail
 refine (zcf w.heap.size (0 + 3 + 6 * 6) 6 w2 z9.out z8.out (by decide) (by decide)).mono ?_
 rintro e w3 ⟨nv, us, rfl, k8, j3, G0, hg3⟩
 have Z4 := zwg k8
 have U2 := zwg j3
 have U3 := zwg G0
 have U4 := zwg (z9.out.tape z8.out hg3)
 have k9 := zwg (Q8.out.kept hg3 (fun g e => by cases e; exact z2.out))
 have HB3 := zwg (HB1.out.trans ((qi (Q9.out.trans hg3) (zwi _) (Nat.le_of_lt z2.out)).mono (zwi _)))
 have HN3 := zwg j3.notes
 obtain ⟨na, nc, U5⟩ := j3.row.slice
 subst U5
 have q0 := ql (d := dig1 x) rfl r (.slice va l.length vc)
 have HIN : Hid ((Tryz.prog.info? 29).map (·.size) = some ic.size) := zwg (by rw [j2.out, yw, q0])
 have U6 : Hid (ic.size = 34) := zwg (by rw [j2.out, q0])
 have HS : Hid ((icells zu 0 (.slice none 0 0)).size = ic.size) := zwg (by rw [U6.out, ql rfl])
 have HO : Hid (ic.all (·.oneCell') = true) := zwg (by rw [j2.out]; exact zbk k9.out.comps.one)
 have q1 : (w3.alloc (.cells (icells zu 0 (.slice none 0 0)) 29)).heap[w3.heap.size]? = some (.cells (icells zu 0 (.slice none 0 0)) 29 (0, 0)) := heap_alloc_new w3 _
 have g1 : Below w3.heap.size w3 ((w3.alloc (.cells (icells zu 0 (.slice none 0 0)) 29)).setRow w3.heap.size ic) :=
  ((zwj _ w3).alloc (zwi _) _).trans (qi (qc _ _ _) (zwi _) (by simp))
 obtain ⟨W4, j4⟩ : ∃ W4, W4 = (w3.alloc (.cells (icells zu 0 (.slice none 0 0)) 29)).setRow w3.heap.size ic := ⟨_, rfl⟩
 rw [← j4] at g1
 have U7 := zwg j4
 have J6 := zwg g1
 have HB4 := zwh HB3 g1
 have G1 := zwg (U4.out.below g1)
 have G2 := zwg (k9.out.comps.below g1)
 have HN4 := zwg (HN3.out.below g1)
 have Z5 := zwg (U3.out.below g1)
 have HG4 : Hid (W4.heap[w3.heap.size]? = some (.cells ic 29 (0, 0))) := zwg (by rw [j4]; exact setRow_heap _ _ _ _ _ _ q1)
 have U8 : Hid (W4.heap.size = w3.heap.size + 1) := zwg (by rw [j4]; simp)
 have U9 := zwg q1
 have q2 : Hid ((us.map (·.nv)).length ≤ 6) := zwg (by rw [List.length_map]; exact k8)
 have h0 : Hid (us.length = (us.map (·.nv)).length) := zwg (by rw [List.length_map])
 rw [h0.out] at HN4
 rw [h0.out]
 have Z3 : Hid (∀ y ∈ us.map (·.nv), V.MadeV y.n.adv) := zwg (fun y hy => by
   obtain ⟨p, hp, rfl⟩ := List.mem_map.1 hy
   exact (j3.each p hp).made)
 have G3 : Hid ((dig1 x).length = 32) := zwg rfl
 have G4 : Hid (∀ n ∈ dig1 (x : Int), (Lit.int .u8 n).wf = true) := zwg (zm9 x Q7.out)
 generalize G5 : us.map (·.nv) = xs at *
 have V0 := zwg G5
 clear G5
 clear k8 j3 G0 hg3 q0 q1 g1 j4
 have g9 : Hid (l.length ≤ 12 /\ xs.length ≤ 8) := zwg ⟨by have := z7.out; omega, by have := q2.out; omega⟩
 have HXl : Hid (w3.heap.size < W4.heap.size) := zwg (by rw [U8.out]; omega)
 have q3 := zwg (U2.out.call J6.out)
 have HOKS : Hid (∀ p ∈ us, NOk W4 p.nv) := zwg (fun p hp => (q3.out.each p hp).ok)
 have q4 := zwg (GRow.gsl vz q3.out.row)
 rw [h0.out] at q4
 go_wp2_with (first
   | (rw [zcv]; refine wpList_store_row rfl _ _ _ rfl w3.heap.size ic rfl rfl 29 _ U9.out HIN.out HS.out HO.out ?_; rw [← U7.out])
   | fail)
 refine (rids_any (.slice na xs.length nc) xs W4 HN4.out (by have := g9.out.2; omega)).mono ?_
 rintro e w4 ⟨iu, rfl, k0, j0, g1⟩
 obtain ⟨ids, j1⟩ : ∃ ids, ids = V.idsN (xs.map (·.n)) := ⟨_, rfl⟩
 have J7 := zwg j1
 rw [← j1] at k0
 have V1 : Hid (ids.length ≤ 8) := zwg (by
   have h1 := V.za3 (c := Lib.compareBytes) (l := []) (xs := (xs.map (·.n)).map (·.adv.id))
   have h9 := g9.out.2
   rw [j1]
   unfold V.idsN
   simp at h1 ⊢
   omega)
 have V2 := zwg k0
 obtain ⟨ia, ik, V3⟩ := GSl.slice (k := 1) (enc := sE) k0.gsl
 subst V3
 have q5 : Hid (w3.heap.size < w4.heap.size) := zwg (Nat.lt_of_lt_of_le HXl.out g1.size)
 have q6 := zwg ((g1.block w3.heap.size HXl.out).trans HG4.out)
 have h4 := zwg g1
 clear k0 j0 g1 j1
 go_wp2_with (first
   | (refine zet rfl (.agg ic) (zdo (ty := 29) rfl rfl (zc5 q6.out Tryz.underlying29 rfl HIN.out)) ?_)
   | fail)
 have q7 := zbc (dig1 x) r (.slice va l.length vc) l (.slice na xs.length nc) xs _ (G1.out.below h4.out) G3.out G4.out (G2.out.below h4.out) (by have := g9.out.1; omega) (HN4.out.below h4.out) (by have := g9.out.2; omega)
 rw [← j2.out] at q7
 refine q7.mono ?_
 clear q7
 rintro e w5 ⟨v5, us5, rfl, q8, G6, hb5⟩
 obtain ⟨hs, h7⟩ : ∃ hs, hs = V.kx (V.jo (dig1 x) r l) (xs.map (·.n)) l := ⟨_, rfl⟩
 have Z6 := zwg h7
 have G7 : Hid (us5.map (·.1) = hs) := zwg (by rw [G6, h7])
 have G8 : us5.length = hs.length := by rw [← G7.out, List.length_map]
 have V4 : Hid (hs.length ≤ 36) := zwg (by
   rw [h7]
   refine Nat.le_trans zev ?_
   rw [List.length_map]
   exact Nat.mul_le_mul z7.out q2.out)
 have j5 : Hid (us5.length ≤ 36) := zwg (by have := V4.out; omega)
 have q9 : Hid ((ids.map (V.zby hs)).sum = us5.length) := zwg (by
   rw [G8, J7.out, h7]
   exact V.zty (V.ztd _) V.hitsP_id)
 have k3 : Hid (∀ i, ((ids.take i).map (V.zby hs)).sum ≤ 36) := zwg (fun i => by
   have h1 := zru (V.zby hs) ids i
   have h2 := q9.out
   have h3 := j5.out
   omega)
 have V5 : Hid (∀ d, (V.kx (V.jo (dig1 x) r l) ((xs.map (·.n)).filter (V.ofId d)) l) = hs.filter fun h => decide (h.id = d)) := zwg (fun d => by rw [V.hitsP_of, h7])
 have V6 := zwg q8.list
 obtain ⟨a5, c5, V7⟩ := q8.row.slice
 subst V7
 have hbb := h4.out.trans (hb5.mono h4.out.size)
 have HB5 := zwh HB4 hbb
 have G9 := zwg (G1.out.below hbb)
 have V8 := zwg (G2.out.below hbb)
 have J8 := zwg (q4.out.below hbb)
 have J9 := zwg (V2.out.below hb5)
 have HOK5 : Hid (∀ p ∈ us, NOk w5 p.nv) := zwg (fun p hp => (HOKS.out p hp).below hbb)
 have V9 := zwg ((hb5.block w3.heap.size q5.out).trans q6.out)
 have J0 : Hid (w3.heap.size < w5.heap.size) := zwg (Nat.lt_of_lt_of_le q5.out hb5.size)
 clear q8 G6 hb5 h7 G8 hbb
 go_wp2_with fail
 go_loopw [7, 9] (fun cv iv wx => ∃ i : Nat, i ≤ ids.length /\ iv = .int .i64 i /\ cv = .int .i64 ((((ids.take i).map (V.zby hs)).sum : Nat) : Int) /\ Below w5.heap.size w5 wx) (fun _ iv _ => ids.length - (intOf iv).toNat)
 case atStart => exact ⟨0, Nat.zero_le _, rfl, rfl, zwj _ _⟩
 case round =>
  obtain ⟨i, hi, rfl, rfl, J1⟩ := hrel
  have HBX := zwg J1
  clear J1
  by_cases hlt : i < ids.length
  ·have HLT := zwg hlt
   replace hlt := hlt
   have Z7 : i < 100 := by have := V1.out; omega
   obtain ⟨gi, oi, Y0, Y1, J2⟩ := Strs.atS (J9.out.below HBX.out) i hlt
   subst Y0
   have HSC := zwg J2
   have HSTEP := zwg (V.sum_take (hs := hs) hlt)
   have Z8 := k3.out i
   have Y2 := zwg (k3.out (i + 1))
   obtain ⟨id, J3⟩ : ∃ id, id = ids[i]'hlt := ⟨_, rfl⟩
   rw [← J3] at HSC HSTEP
   clear J2 Y1 J3
   have i1 : (0 : Int) ≤ (i : Int) := by omega
   have i2 : (i : Int) < (ids.length : Int) := by omega
   have v0 := zwg HSTEP.out
   generalize ((ids.take i).map (V.zby hs)).sum = sm at *
   obtain ⟨PID, v1⟩ : ∃ PID : NS -> Bool, PID = fun p => decide (p.n.adv.id = id) := ⟨_, rfl⟩
   have v2 := zwg v1
   obtain ⟨g5, v3⟩ : ∃ g5 : V.Hit × Sd -> Bool, g5 = fun p => decide (p.1.id = id) := ⟨_, rfl⟩
   have v4 := zwg v3
   clear v1 v3
   have Y3 := zwg (V8.out.below HBX.out)
   have Y4 := zwg (G9.out.below HBX.out)
   have Q0 := zwg (J8.out.below HBX.out)
   have Q1 : Hid (∀ p ∈ us, NOk wr p.nv) := zwg (fun p hp => (HOK5.out p hp).below HBX.out)
   have Y5 := zwg ((HBX.out.block w3.heap.size J0.out).trans V9.out)
   have Y6 : Hid (w3.heap.size < wr.heap.size) := zwg (Nat.lt_of_lt_of_le J0.out HBX.out.size)
   have Y7 := zwg (V6.out.below HBX.out)
   go_wp2_with fail
   generalize wr = wa at *
   go_loopw [10, 11] (fun ov kv wx => ∃ k : Nat, k ≤ xs.length /\ kv = .int .i64 k /\ GRow 57 37 nE wx wa.heap.size ov ((us.take k).filter PID) /\ Below wa.heap.size wa wx) (fun _ kv _ => xs.length - (intOf kv).toNat)
   case atStart => exact ⟨0, Nat.zero_le _, rfl, GRow.nil _ _, zwj _ _⟩
   case round =>
    obtain ⟨k, hk, rfl, g6, hbk⟩ := hrel
    have h5 := zwg g6
    have HBK := zwg hbk
    obtain ⟨oa, oc, v6⟩ := g6.slice
    subst v6
    clear g6 hbk
    by_cases g3 : k < xs.length
    ·have HKL := zwg g3
     replace g3 := g3
     have Y8 : k < 100 := by have := g9.out.2; omega
     have v7 : k < us.length := by rw [h0.out]; exact g3
     obtain ⟨g, off, v9, hg, hcell⟩ := GSl.at (Q0.out.below HBK.out) k v7
     subst v9
     have s0 := zf HBK.out HSC.out
     have HFS := zwg (zbw (p := PID) v7)
     have y0 : Hid (((us.take k).filter PID).length ≤ 8) := zwg (by
       have h1 := List.length_filter_le PID (us.take k)
       rw [List.length_take] at h1
       have := g9.out.2
       omega)
     have k1 : (0 : Int) ≤ (k : Int) := by omega
     have k2 : (k : Int) < (xs.length : Int) := by omega
     obtain ⟨p, hp⟩ : ∃ p, p = us[k]'v7 := ⟨_, rfl⟩
     rw [← hp] at hcell HFS
     have g2 : PID p = decide (p.n.adv.id = id) := by rw [v2.out]
     clear hp hg
     have n0 := hcell 0 _ rfl
     rw [Nat.add_zero] at n0
     have g7 := zwg hcell
     clear hcell
     generalize (us.take k).filter PID = ow at *
     by_cases hq : p.n.adv.id = id
     ·have hb : (p.n.adv.id == id) = true := by rw [beq_iff_eq]; exact hq
      rw [g2, decide_eq_true hq] at HFS
      have g0 : Below wr.heap.size wr wr.drew := (zwj _ _).drew
      have HBD := zwh HBK g0
      have HRD := zwg (GRow.below h5.out g0)
      have y1 : Hid (wr.drew.rangeAt g (off + k * 37) (nE p)) := zwg (fun j u hu => zf g0 (g7.out j u hu))
      clear g2 hq g0
      go_wp2_with fail
      refine wp_region_held_drew (S := (fun W' => Below wr.heap.size wr W' /\ W'.cell? ⟨g, off + k * 37, none⟩ = some (.string ⟨p.n.adv.id.toArray⟩) /\ W'.cell? ⟨gi, oi + i, none⟩ = some (.string ⟨id.toArray⟩))) (by kernel_rfl) (by (try dsimp only); exact ⟨(zwj _ _).drew, zf (zwj _ _).drew n0, zf (zwj _ _).drew s0⟩) (fun hHeld => ?_)
      refine tk 0 ?_
      refine tk 1 ?_
      refine tk 2 ?_
      refine tk 3 ?_
      refine tk 4 ?_
      refine tk 5 ?_
      refine tk 6 ?_
      refine tk 7 ?_
      refine tk 8 ?_
      refine tk 9 ?_
      refine tk 10 ?_
      refine wpAnyH_done (by kernel_rfl) ?_ _
      clear hHeld n0 s0 h5 g7 HBK hb
      generalize wr.drew = wd at *
      have hb7 : Below wd.heap.size wd (wd.alloc (.cells (nE p).toArray 57)) := (zwj _ wd).alloc (zwi _) _
      have h8 := zwg (GRow.below HRD.out hb7)
      have HB7 := zwh HBD hb7
      have j6 := zwg (GSl.one (enc := nE) (k := 37) (c := p) (b := wd.heap.size) (w := wd.alloc (.cells (nE p).toArray 57)) (by simp) (fun j u hu => by rw [World.cell?_alloc_new, List.getElem?_toArray]; exact hu))
      clear hb7
      go_wp2_with (first
        | (refine zkw vz zfm Tryz.underlying57 rfl rfl _ rfl g (off + k * 37) rfl p y1.out ?_)
        | (refine zc9 vz (by decide) (by decide) zfm Tryz.underlying31 rfl _ rfl p rfl ?_)
        | (refine xj vz (by decide) zn1 zfm (by decide) rfl _ _ 31 rfl Tryz.underlying31 wa.heap.size (.slice oa ow.length oc) ow rfl h8.out (.slice (some ⟨wd.heap.size, 0, none⟩) 1 1) [p] rfl j6.out (by have := y0.out; simp; omega) HB7.out.size ?_
           intro v8 w8 hr8 hg8 ho8)
        | fail)
      have HR8 := zwg hr8
      have HB8 : Hid (Below wa.heap.size wa w8) := zwg (HB7.out.grown hg8 HB7.out.size (fun b hb => GRow.block h8.out b hb))
      exact zyq
     ·have hb : (p.n.adv.id == id) = false := by rw [zwk]; exact hq
      rw [g2, decide_eq_false hq, if_neg (by simp), List.append_nil] at HFS
      have g0 : Below wr.heap.size wr wr.drew := (zwj _ _).drew
      have HBD := zwh HBK g0
      have HRD := zwg (GRow.below h5.out g0)
      clear g2 hq g0
      go_wp2_with fail
      refine wp_region_held_drew (S := (fun W' => Below wr.heap.size wr W' /\ W'.cell? ⟨g, off + k * 37, none⟩ = some (.string ⟨p.n.adv.id.toArray⟩) /\ W'.cell? ⟨gi, oi + i, none⟩ = some (.string ⟨id.toArray⟩))) (by kernel_rfl) (by (try dsimp only); exact ⟨(zwj _ _).drew, zf (zwj _ _).drew n0, zf (zwj _ _).drew s0⟩) (fun hHeld => ?_)
      refine tk 0 ?_
      refine tk 1 ?_
      refine tk 2 ?_
      refine tk 3 ?_
      refine tk 4 ?_
      refine tk 5 ?_
      refine tk 6 ?_
      refine tk 7 ?_
      refine tk 8 ?_
      refine tk 9 ?_
      refine tk 10 ?_
      exact zye
    ·obtain rfl : k = xs.length := by omega
     rw [show us.take xs.length = us from List.take_of_length_le (by rw [h0.out]; exact zwi _)] at h5
     have J4 : (us.take xs.length).filter PID = us.filter PID := by rw [List.take_of_length_le (by rw [h0.out]; exact zwi _)]
     rw [J4]
     clear J4
     have Y9 : Hid ((us.filter PID).length ≤ 6) := zwg (by
       have h1 := List.length_filter_le PID us
       have := q2.out
       rw [h0.out] at h1
       omega)
     have HNO : Hid (Notes wr (.slice oa (us.filter PID).length oc) ((us.filter PID).map (·.nv))) := zwg (zo1 (GRow.gsl vz h5.out) (fun p hp => (Q1.out p (List.mem_filter.1 hp).1).below HBK.out))
     have HNE : Hid (((us.filter PID).map (·.nv)).map (·.n) = (xs.map (·.n)).filter (V.ofId id)) := zwg (by
       rw [← V0.out, List.map_map, List.map_map, List.filter_map, v2.out]
       rfl)
     have Z0 := zwg ((HBK.out.block w3.heap.size Y6.out).trans Y5.out)
     generalize us.filter PID = ow at *
     have y2 : Hid (l.length ≤ 12 /\ (ow.map (·.nv)).length ≤ 8) := zwg ⟨g9.out.1, by rw [List.length_map]; have := Y9.out; omega⟩
     go_wp2_with (first
       | (refine zet rfl (.agg ic) (zdo (ty := 29) rfl rfl (zc5 Z0.out Tryz.underlying29 rfl HIN.out)) ?_)
       | fail)
     have j7 := zbc (dig1 x) r _ l (.slice oa ow.length oc) (ow.map (·.nv)) _ (Y4.out.below HBK.out) G3.out G4.out (Y3.out.below HBK.out) (by have := g9.out.1; omega) HNO.out (by have := y2.out.2; omega)
     rw [← j2.out] at j7
     refine j7.mono ?_
     clear j7
     rintro e w12 ⟨v12, us12, rfl, j8, h6, y3⟩
     have J5 := zwg h6
     have Q2 := zwg j8.list
     rw [HNE.out, V5.out] at h6
     have Q3 := zwg h6
     have Q4 : Hid (us12.length = V.zby hs id) := zwg (by rw [← List.length_map (f := (·.1)), h6]; rfl)
     obtain ⟨a12, c12, Q5⟩ := j8.row.slice
     subst Q5
     have k4 := HBK.out.trans (y3.mono HBK.out.size)
     have HBZ := zwg k4
     have y4 := zwg (Y7.out.below k4)
     have y9 := zwg (zf k4 HSC.out)
     clear j8 h6 y3 k4
     go_wp2_with fail
     go_loopw [13, 14] (fun ov kv wx => ∃ k : Nat, k ≤ us5.length /\ kv = .int .i64 k /\ HRow w12.heap.size wx ov ((us5.take k).filter g5) /\ Below w12.heap.size w12 wx) (fun _ kv _ => us5.length - (intOf kv).toNat)
     case atStart => exact ⟨0, Nat.zero_le _, rfl, HRow.nil _ _, zwj _ _⟩
     case round =>
      obtain ⟨k, hk, rfl, g6, hbk⟩ := hrel
      have g8 := zwg g6
      have g4 := zwg hbk
      obtain ⟨oa2, oc2, v6⟩ := g6.row.slice
      subst v6
      clear g6 hbk
      by_cases g3 : k < us5.length
      ·have HKL := zwg g3
       replace g3 := g3
       have Y8 : k < 100 := by have := j5.out; omega
       obtain ⟨g, off, v9, hg, hcell⟩ := GSl.at (y4.out.1.below g4.out) k g3
       subst v9
       have s0 := zf g4.out y9.out
       have HFS := zwg (zbw (p := g5) g3)
       have y0 : Hid (((us5.take k).filter g5).length ≤ 36) := zwg (by
         have h1 := List.length_filter_le g5 (us5.take k)
         rw [List.length_take] at h1
         have := j5.out
         omega)
       have y5 := zwg ((y4.out.2 _ (List.getElem_mem g3)).below g4.out)
       have k1 : (0 : Int) ≤ (k : Int) := by omega
       have k2 : (k : Int) < (us5.length : Int) := by omega
       obtain ⟨p, hp⟩ : ∃ p, p = us5[k]'g3 := ⟨_, rfl⟩
       rw [← hp] at hcell HFS y5
       have g2 : g5 p = decide (p.1.id = id) := by rw [v4.out]
       clear hp hg
       have n0 := hcell 1 _ rfl
       have g7 := zwg hcell
       clear hcell
       generalize (us5.take k).filter g5 = ow2 at *
       by_cases hq : p.1.id = id
       ·have hb : (p.1.id == id) = true := by rw [beq_iff_eq]; exact hq
        rw [g2, decide_eq_true hq] at HFS
        have g0 : Below wr.heap.size wr wr.drew := (zwj _ _).drew
        have HBD := zwh g4 g0
        have HRD := zwg (g8.out.below g0)
        have Q6 := zwg (y5.out.below g0)
        have y1 : Hid (wr.drew.rangeAt g (off + k * 4) (hE p)) := zwg (fun j u hu => zf g0 (g7.out j u hu))
        clear g2 hq g0
        go_wp2_with fail
        refine wp_region_held_drew (S := (fun W' => Below wr.heap.size wr W' /\ W'.cell? ⟨g, off + k * 4 + 1, none⟩ = some (.string ⟨p.1.id.toArray⟩) /\ W'.cell? ⟨gi, oi + i, none⟩ = some (.string ⟨id.toArray⟩))) (by kernel_rfl) (by (try dsimp only); exact ⟨(zwj _ _).drew, zf (zwj _ _).drew n0, zf (zwj _ _).drew s0⟩) (fun hHeld => ?_)
        refine tk 0 ?_
        refine tk 1 ?_
        refine tk 2 ?_
        refine tk 3 ?_
        refine tk 4 ?_
        refine tk 5 ?_
        refine tk 6 ?_
        refine tk 7 ?_
        refine tk 8 ?_
        refine tk 9 ?_
        refine wpAnyH_done (by kernel_rfl) ?_ _
        clear hHeld n0 s0 g8 g7 g4 hb y5
        generalize wr.drew = wd at *
        have hb7 : Below wd.heap.size wd (wd.alloc (.cells (hE p).toArray 63)) := (zwj _ wd).alloc (zwi _) _
        have h8 := zwg (HRD.out.below hb7)
        have HB7 := zwh HBD hb7
        have Z1 := zwg (Q6.out.below hb7)
        have j6 := zwg (GSl.one (enc := hE) (k := 4) (c := p) (b := wd.heap.size) (w := wd.alloc (.cells (hE p).toArray 63)) (by simp) (fun j u hu => by rw [World.cell?_alloc_new, List.getElem?_toArray]; exact hu))
        clear hb7
        go_wp2_with (first
          | (refine zkw uo zjw Tryz.underlying63 rfl rfl _ rfl g (off + k * 4) rfl p y1.out ?_)
          | (refine zc9 uo (by decide) (by decide) zjw Tryz.underlying35 rfl _ rfl p rfl ?_)
          | (refine xj uo (by decide) zje zjw (by decide) rfl _ _ 35 rfl Tryz.underlying35 w12.heap.size (.slice oa2 ow2.length oc2) ow2 rfl h8.out.row (.slice (some ⟨wd.heap.size, 0, none⟩) 1 1) [p] rfl j6.out (by have := y0.out; simp; omega) HB7.out.size ?_
             intro v8 w8 hr8 hg8 ho8)
          | fail)
        have HR8 := zwg (h8.out.append (fun q hq => by rw [List.mem_singleton.1 hq]; exact Z1.out) hr8 hg8)
        have HB8 : Hid (Below w12.heap.size w12 w8) := zwg (HB7.out.grown hg8 HB7.out.size (fun b hb => GRow.block h8.out.row b hb))
        exact zyq
       ·have hb : (p.1.id == id) = false := by rw [zwk]; exact hq
        rw [g2, decide_eq_false hq, if_neg (by simp), List.append_nil] at HFS
        have g0 : Below wr.heap.size wr wr.drew := (zwj _ _).drew
        have HBD := zwh g4 g0
        have HRD := zwg (g8.out.below g0)
        clear g2 hq g0
        go_wp2_with fail
        refine wp_region_held_drew (S := (fun W' => Below wr.heap.size wr W' /\ W'.cell? ⟨g, off + k * 4 + 1, none⟩ = some (.string ⟨p.1.id.toArray⟩) /\ W'.cell? ⟨gi, oi + i, none⟩ = some (.string ⟨id.toArray⟩))) (by kernel_rfl) (by (try dsimp only); exact ⟨(zwj _ _).drew, zf (zwj _ _).drew n0, zf (zwj _ _).drew s0⟩) (fun hHeld => ?_)
        refine tk 0 ?_
        refine tk 1 ?_
        refine tk 2 ?_
        refine tk 3 ?_
        refine tk 4 ?_
        refine tk 5 ?_
        refine tk 6 ?_
        refine tk 7 ?_
        refine tk 8 ?_
        refine tk 9 ?_
        exact zye
      ·obtain rfl : k = us5.length := by omega
       rw [List.take_length] at g8
       rw [List.take_length]
       have Z2 : Hid (us12.map (·.1) = (us5.filter g5).map (·.1)) := zwg (by
         rw [Q3.out, ← G7.out, List.filter_map, v4.out]
         rfl)
       have HBE := zwg (HBX.out.trans ((HBZ.out.trans (g4.out.mono HBZ.out.size)).mono HBX.out.size))
       go_wp2_with fail
       refine (zfe _ _ us12 (us5.filter g5) wr (Q2.out.below g4.out) g8.out.list Z2.out (fun p hp => zm4 y2.out.2 J5.out p hp) (ze2 y2.out J5.out)).mono ?_
       rintro e w13 ⟨rfl, y6⟩
       have HBF := zwh HBE y6
       have j9 := Q4.out
       have y7 := v0.out
       have hp2 := Y2.out
       rw [y7, ← j9] at hp2
       have HSN : Hid (((((ids.take (i + 1)).map (V.zby hs)).sum : Nat) : Int) = (sm : Int) + (us12.length : Int)) := zwg (by rw [y7, ← j9]; omega)
       clear y6 j9 y7
       go_wp2
       go_roundw
       case rel => exact ⟨i + 1, by have := HLT.out; omega, by go_num, by rw [HSN.out], HBF.out⟩
       case measure => have := HLT.out; simp [intOf]; omega
  ·obtain rfl : i = ids.length := by omega
   rw [List.take_length, q9.out]
   go_wp2_with fail
   refine (ji _ (G9.out.below HBX.out)).mono ?_
   rintro e w8 ⟨rfl, hb8⟩
   have y8 := HB5.out.trans (HBX.out.mono HB5.out.size)
   have HE := zwg (y8.trans (hb8.mono y8.size))
   clear hb8 y8
   go_wp2
   go_ret
   exact ⟨rfl, HE.out⟩
end Go.Proofs.YtbikeahmldobkaaGreatDoor
