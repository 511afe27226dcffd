/-
  Lemmas for the law.
-/
import Derived.Test.YtbikeahmldobkaaGreatDoorC51x34
import Derived.Test.YtbikeahmldobkaaGreatDoorC51x37
import Derived.Test.YtbikeahmldobkaaGreatDoorC51x22
import Derived.Test.YtbikeahmldobkaaGreatDoorC51x38
set_option linter.all false
set_option maxRecDepth 100000
set_option maxHeartbeats 6400000
namespace Go.Proofs.YtbikeahmldobkaaGreatDoor
open Go.RowKit
theorem holdF_or : ke 1 = V.orF := by funext a b; cases a <;> cases b <;> rfl
theorem zub : ke 2 = V.andF := by funext a b; cases a <;> cases b <;> rfl
theorem zwu {P : Prop} (h : P := by
 clear hp2
 exact bodyPost_ret (v := .tuple #[.agg #[.int .i64 0, .slice none 0 0], .int .i64 1]) (by simp [results, Tryz.results166, go_sem, z0, z1]) rfl (by rw [HR.out]; exact xi.zero HBF.out _)) : P := h
theorem zef (o n m : Int) (va vb : Value) (a b : List V.Itv) (w : World) (hm : zj w) (g5 : Itvs w va a) (g6 : Itvs w vb b) (h4 : Lens a) (h5 : Lens b) (h6 : a.length ≤ maxLen) (h7 : b.length ≤ maxLen) :
  Calls Tryz.prog 166 #[.int .i64 o, setV n va, setV m vb] w (xi (V.opP (ke o) n a m b) w) := by
 have h8 := zu8 g5
 have h9 := zu8 g6
 obtain ⟨aa, ac, rfl⟩ := g5.slice
 obtain ⟨ba, bc, rfl⟩ := g6.slice
 have j5 := zu8 h4
 have j6 := zu8 h5
 have j7 := zu8 h6
 have j8 := zu8 h7
 have HF : Hid (V.opP (ke o) n a m b = if V.chkP n a m b = 0 then V.limP n (V.opL n (ke o) a b) else (0, [], V.chkP n a m b)) := zu8 rfl
 have g7 : Hid (V.chkP n a m b = if V.okR n a && V.okR m b then (if n = m then 0 else 14) else 1) := zu8 rfl
 have H3 := zu8 (zes w (.cells #[.int .i64 n, .slice aa a.length ac] 68) (.cells #[.int .i64 m, .slice ba b.length bc] 68) (.cells #[.int .i64 0, .slice none 0 0] 68))
 have g8 : Below w.heap.size w (((w.alloc (.cells #[.int .i64 n, .slice aa a.length ac] 68)).alloc (.cells #[.int .i64 m, .slice ba b.length bc] 68)).alloc (.cells #[.int .i64 0, .slice none 0 0] 68)) := (((zvb _ _).alloc (zva _) _).alloc (by simp) _).alloc (by simp; omega) _
 have HB0 := zu8 g8
 have j0 := zu8 (hm.below g8)
 clear g5 g6 h4 h5 h6 h7 hm g8
 unfold setV
 go_enter Tryz.func166, Tryz.ntmps166
 go_wp2_with fail
 generalize (((w.alloc (.cells #[.int .i64 n, .slice aa a.length ac] 68)).alloc (.cells #[.int .i64 m, .slice ba b.length bc] 68)).alloc (.cells #[.int .i64 0, .slice none 0 0] 68)) = w0 at *
 have KA := H3.out.1
 have KB := H3.out.2.1
 have KC := H3.out.2.2.1
 refine (zgr n (.slice aa a.length ac) a w0 j0.out (h8.out.below HB0.out) j5.out j7.out).mono ?_
 rintro e w1 ⟨rfl, hb1⟩
 have K0 := (hb1.block _ (Array.getElem?_eq_some_iff.1 KA).1).trans KA
 have K1 := (hb1.block _ (Array.getElem?_eq_some_iff.1 KB).1).trans KB
 have K2 := (hb1.block _ (Array.getElem?_eq_some_iff.1 KC).1).trans KC
 have HK := zu8 (And.intro K0 (And.intro K1 K2))
 have HB1 := zu9 HB0 hb1
 have j1 := zu8 (j0.out.below hb1)
 have hc0 : w1.cell? ⟨w.heap.size, 0, none⟩ = some (.int .i64 n) := zu7 K0 0
 have hc1 : w1.cell? ⟨w.heap.size, 1, none⟩ = some (.slice aa a.length ac) := zu7 K0 1
 have g9 : w1.cell? ⟨w.heap.size + 1, 0, none⟩ = some (.int .i64 m) := zu7 K1 0
 have h0 : w1.cell? ⟨w.heap.size + 1, 1, none⟩ = some (.slice ba b.length bc) := zu7 K1 1
 clear hb1 K0 K1 K2 KA KB KC
 rcases hok : V.okR n a with _ | _
 ·have g0 : V.chkP n a m b = 1 := by rw [g7.out, hok]; rfl
  have HR : Hid (V.opP (ke o) n a m b = (0, [], 1)) := zu8 (by rw [HF.out, g0]; rfl)
  clear hok g0
  go_wp2_with (first | (refine zv rfl 68 _ _ rfl (w.heap.size + 1 + 1) #[.int .i64 0, .slice none 0 0] _ HK.out.2.2 rfl #[.int .i64 0, .slice none 0 0] rfl rfl (by kernel_rfl) (qu _ _ _ _) ?_; intro W2 hp2; have z0 : W2.cell? ⟨w.heap.size + 1 + 1, 0, none⟩ = some (.int .i64 0) := zu7 hp2.here 0; have z1 : W2.cell? ⟨w.heap.size + 1 + 1, 1, none⟩ = some (.slice none 0 0) := zu7 hp2.here 1) | fail)
  have HBF := zu8 (hp2.below HB1.out (by omega))
  exact zwu
 ·have HOK := zu8 hok
  clear hok
  go_wp2_with fail
  refine (zgr m (.slice ba b.length bc) b w1 j1.out (h9.out.below HB1.out) j6.out j8.out).mono ?_
  rintro e w2 ⟨rfl, hb2⟩
  have K0 := (hb2.block _ (Array.getElem?_eq_some_iff.1 HK.out.1).1).trans HK.out.1
  have K1 := (hb2.block _ (Array.getElem?_eq_some_iff.1 HK.out.2.1).1).trans HK.out.2.1
  have K2 := (hb2.block _ (Array.getElem?_eq_some_iff.1 HK.out.2.2).1).trans HK.out.2.2
  have g3 := zu8 K2
  have HB2 := zu9 HB1 hb2
  have j9 := zu8 (j1.out.below hb2)
  clear hc0 hc1 g9 h0
  have hc0 : w2.cell? ⟨w.heap.size, 0, none⟩ = some (.int .i64 n) := zu7 K0 0
  have hc1 : w2.cell? ⟨w.heap.size, 1, none⟩ = some (.slice aa a.length ac) := zu7 K0 1
  have g9 : w2.cell? ⟨w.heap.size + 1, 0, none⟩ = some (.int .i64 m) := zu7 K1 0
  have h0 : w2.cell? ⟨w.heap.size + 1, 1, none⟩ = some (.slice ba b.length bc) := zu7 K1 1
  clear hb2 K0 K1 K2
  rcases g2 : V.okR m b with _ | _
  ·have g0 : V.chkP n a m b = 1 := by rw [g7.out, HOK.out, g2]; rfl
   have HR : Hid (V.opP (ke o) n a m b = (0, [], 1)) := zu8 (by rw [HF.out, g0]; rfl)
   clear g2 g0
   go_wp2_with (first | (refine zv rfl 68 _ _ rfl (w.heap.size + 1 + 1) #[.int .i64 0, .slice none 0 0] _ g3.out rfl #[.int .i64 0, .slice none 0 0] rfl rfl (by kernel_rfl) (qu _ _ _ _) ?_; intro W2 hp2; have z0 : W2.cell? ⟨w.heap.size + 1 + 1, 0, none⟩ = some (.int .i64 0) := zu7 hp2.here 0; have z1 : W2.cell? ⟨w.heap.size + 1 + 1, 1, none⟩ = some (.slice none 0 0) := zu7 hp2.here 1) | fail)
   have HBF := zu8 (hp2.below HB2.out (by omega))
   exact zwu
  ·have h1 := zu8 g2
   clear g2
   by_cases hnm : n = m
   ·subst hnm
    have g1 := zu8 (V.zhi HOK.out)
    have g4 := zu8 (V.zhi h1.out)
    have k0 := zu8 (V.opL_len (ke o) g1.out g4.out)
    have HR : Hid (V.opP (ke o) n a n b = V.limP n (V.opL n (ke o) a b)) := zu8 (by rw [HF.out, if_pos (V.zrp g1.out g4.out)])
    go_wp2_with fail
    refine (zkt o n (.slice aa a.length ac) (.slice ba b.length bc) a b w2 j9.out g1.out.sch (h8.out.below HB2.out) (h9.out.below HB2.out) g1.out.bnd g4.out.bnd (by have := g1.out.len; omega) (by have := g4.out.len; omega)).mono ?_
    rintro e w3 ⟨u, rfl, hu, how, hb3⟩
    rw [V.opR_opL (ke o) g1.out g4.out] at hu
    obtain ⟨ua, uc, rfl⟩ := hu.slice
    have HU := zu8 hu
    have j2 := zu8 how
    have HB3 := zu9 HB2 hb3
    have j3 := zu8 ((hb3.block _ (Array.getElem?_eq_some_iff.1 g3.out).1).trans g3.out)
    have j4 : w.heap.size + 1 + 1 < w2.heap.size := (Array.getElem?_eq_some_iff.1 g3.out).1
    have h2 := zu8 j4
    have kc0 := zb hb3 hc0
    clear hu how hb3 hc0 hc1 g9 h0
    by_cases h32 : 32 < (V.opL n (ke o) a b).length
    ·have h3 : Hid (V.opP (ke o) n a n b = (0, [], 3)) := zu8 (by rw [HR.out]; unfold V.limP; rw [if_neg (by omega)])
     go_wp2_with (first | (refine zv rfl 68 _ _ rfl (w.heap.size + 1 + 1) #[.int .i64 0, .slice none 0 0] _ j3.out rfl #[.int .i64 0, .slice none 0 0] rfl rfl (by kernel_rfl) (qu _ _ _ _) ?_; intro W2 hp2; have z0 : W2.cell? ⟨w.heap.size + 1 + 1, 0, none⟩ = some (.int .i64 0) := zu7 hp2.here 0; have z1 : W2.cell? ⟨w.heap.size + 1 + 1, 1, none⟩ = some (.slice none 0 0) := zu7 hp2.here 1) | fail)
     have HBF := zu8 (hp2.below HB3.out (by omega))
     clear hp2
     exact bodyPost_ret (v := .tuple #[.agg #[.int .i64 0, .slice none 0 0], .int .i64 3]) (by simp [results, Tryz.results166, go_sem, z0, z1]) rfl (by rw [h3.out]; exact xi.zero HBF.out _)
    ·have h3 : Hid (V.opP (ke o) n a n b = (n, V.opL n (ke o) a b, 0)) := zu8 (by rw [HR.out]; unfold V.limP; rw [if_pos (by omega)])
     go_wp2_with (first | (refine zv rfl 68 _ _ rfl (w.heap.size + 1 + 1) #[.int .i64 0, .slice none 0 0] _ j3.out rfl #[.int .i64 n, .slice ua (V.opL n (ke o) a b).length uc] rfl rfl (by kernel_rfl) (qu _ _ _ _) ?_; intro W2 hp2; have z0 : W2.cell? ⟨w.heap.size + 1 + 1, 0, none⟩ = some (.int .i64 n) := zu7 hp2.here 0; have z1 : W2.cell? ⟨w.heap.size + 1 + 1, 1, none⟩ = some (.slice ua (V.opL n (ke o) a b).length uc) := zu7 hp2.here 1) | fail)
     have HIV : Hid (Itvs W2 (.slice ua (V.opL n (ke o) a b).length uc) (V.opL n (ke o) a b)) := zu8 (hp2.itvs HU.out (fun c hc => by have := j2.out c hc; have := h2.out; omega))
     have HBF := zu8 (hp2.below HB3.out (by omega))
     clear hp2
     exact bodyPost_ret (v := .tuple #[.agg #[.int .i64 n, .slice ua (V.opL n (ke o) a b).length uc], .int .i64 0]) (by simp [results, Tryz.results166, go_sem, z0, z1]) rfl (by rw [h3.out]; exact ⟨_, rfl, HIV.out, (fun c hc => by have := j2.out c hc; have := h2.out; omega), HBF.out⟩)
   ·have g0 : V.chkP n a m b = 14 := by rw [g7.out, HOK.out, h1.out]; simp [hnm]
    have HR : Hid (V.opP (ke o) n a m b = (0, [], 14)) := zu8 (by rw [HF.out, g0]; rfl)
    have hq : (n != m) = true := by simpa using hnm
    clear hnm g0
    go_wp2_with (first | (refine zv rfl 68 _ _ rfl (w.heap.size + 1 + 1) #[.int .i64 0, .slice none 0 0] _ g3.out rfl #[.int .i64 0, .slice none 0 0] rfl rfl (by kernel_rfl) (qu _ _ _ _) ?_; intro W2 hp2; have z0 : W2.cell? ⟨w.heap.size + 1 + 1, 0, none⟩ = some (.int .i64 0) := zu7 hp2.here 0; have z1 : W2.cell? ⟨w.heap.size + 1 + 1, 1, none⟩ = some (.slice none 0 0) := zu7 hp2.here 1) | fail)
    have HBF := zu8 (hp2.below HB2.out (by omega))
    clear hp2
    exact bodyPost_ret (v := .tuple #[.agg #[.int .i64 0, .slice none 0 0], .int .i64 14]) (by simp [results, Tryz.results166, go_sem, z0, z1]) rfl (by rw [HR.out]; exact xi.zero HBF.out _)
theorem zgq (n m : Int) (va vb : Value) (a b : List V.Itv) (w : World) (hm : zj w) (g0 : Itvs w va a) (g1 : Itvs w vb b) (g4 : Lens a) (g5 : Lens b) (g6 : a.length ≤ maxLen) (g7 : b.length ≤ maxLen) :
  Calls Tryz.prog 133 #[setV n va, setV m vb] w (xi (V.opP V.orF n a m b) w) := by
 have g8 := zu8 g0
 have g9 := zu8 g1
 obtain ⟨aa, ac, rfl⟩ := g0.slice
 obtain ⟨ba, bc, rfl⟩ := g1.slice
 have h0 := zu8 g4
 have h1 := zu8 g5
 have h2 := zu8 g6
 have h3 := zu8 g7
 have H3 := zu8 (zes w (.cells #[.int .i64 n, .slice aa a.length ac] 68) (.cells #[.int .i64 m, .slice ba b.length bc] 68) (.cells #[.int .i64 0, .slice none 0 0] 68))
 have g2 : Below w.heap.size w (((w.alloc (.cells #[.int .i64 n, .slice aa a.length ac] 68)).alloc (.cells #[.int .i64 m, .slice ba b.length bc] 68)).alloc (.cells #[.int .i64 0, .slice none 0 0] 68)) := (((zvb _ _).alloc (zva _) _).alloc (by simp) _).alloc (by simp; omega) _
 have HB0 := zu8 g2
 have h4 := zu8 (hm.below g2)
 clear g0 g1 g4 g5 g6 g7 hm g2
 unfold setV
 go_enter Tryz.func133, Tryz.ntmps133
 go_wp2_with fail
 generalize (((w.alloc (.cells #[.int .i64 n, .slice aa a.length ac] 68)).alloc (.cells #[.int .i64 m, .slice ba b.length bc] 68)).alloc (.cells #[.int .i64 0, .slice none 0 0] 68)) = w0 at *
 refine (zef 1 n m (.slice aa a.length ac) (.slice ba b.length bc) a b w0 h4.out (g8.out.below HB0.out) (g9.out.below HB0.out) h0.out h1.out h2.out h3.out).mono ?_
 rw [holdF_or]
 rintro e w1 ⟨u, rfl, hu, how, hb1⟩
 obtain ⟨p3, q3, rfl⟩ := hu.slice
 have HU := zu8 hu
 have g3 := zu8 how
 have HK := zu8 ((hb1.block _ (show w.heap.size + 1 + 1 < w0.heap.size by have := H3.out.2.2.2; omega)).trans H3.out.2.2.1)
 have h5 : w.heap.size + 3 ≤ w0.heap.size := by have := H3.out.2.2.2; omega
 have HB1 := zu9 HB0 hb1
 clear hu how hb1
 obtain ⟨r, hr⟩ : ∃ r, r = V.opP V.orF n a m b := ⟨_, rfl⟩
 rw [← hr] at HU g3 ⊢
 have HR := zu8 hr
 clear hr
 obtain ⟨k1, l1, c1⟩ := r
 unfold setV
 go_wp2_with (first | (refine zv rfl 68 _ _ rfl (w.heap.size + 1 + 1) #[.int .i64 0, .slice none 0 0] _ HK.out rfl #[.int .i64 k1, .slice p3 l1.length q3] rfl rfl (by kernel_rfl) (qu _ _ _ _) ?_; intro W2 hp2; have z0 : W2.cell? ⟨w.heap.size + 1 + 1, 0, none⟩ = some (.int .i64 k1) := zu7 hp2.here 0; have z1 : W2.cell? ⟨w.heap.size + 1 + 1, 1, none⟩ = some (.slice p3 l1.length q3) := zu7 hp2.here 1) | fail)
 have HIV : Hid (Itvs W2 (.slice p3 l1.length q3) l1) := zu8 (hp2.itvs HU.out (fun c hc => by have := g3.out c hc; omega))
 have HBF := zu8 (hp2.below HB1.out (by omega))
 clear hp2
 exact bodyPost_ret (v := .tuple #[.agg #[.int .i64 k1, .slice p3 l1.length q3], .int .i64 c1]) (by simp [results, Tryz.results133, go_sem, z0, z1]) rfl (by rw [← HR.out]; exact ⟨_, rfl, HIV.out, (fun c hc => by have := g3.out c hc; omega), HBF.out⟩)
theorem zhm (n m : Int) (va vb : Value) (a b : List V.Itv) (w : World) (hm : zj w) (g0 : Itvs w va a) (g1 : Itvs w vb b) (g4 : Lens a) (g5 : Lens b) (g6 : a.length ≤ maxLen) (g7 : b.length ≤ maxLen) :
  Calls Tryz.prog 165 #[setV n va, setV m vb] w (xi (V.opP V.andF n a m b) w) := by
 have g8 := zu8 g0
 have g9 := zu8 g1
 obtain ⟨aa, ac, rfl⟩ := g0.slice
 obtain ⟨ba, bc, rfl⟩ := g1.slice
 have h0 := zu8 g4
 have h1 := zu8 g5
 have h2 := zu8 g6
 have h3 := zu8 g7
 have H3 := zu8 (zes w (.cells #[.int .i64 n, .slice aa a.length ac] 68) (.cells #[.int .i64 m, .slice ba b.length bc] 68) (.cells #[.int .i64 0, .slice none 0 0] 68))
 have g2 : Below w.heap.size w (((w.alloc (.cells #[.int .i64 n, .slice aa a.length ac] 68)).alloc (.cells #[.int .i64 m, .slice ba b.length bc] 68)).alloc (.cells #[.int .i64 0, .slice none 0 0] 68)) := (((zvb _ _).alloc (zva _) _).alloc (by simp) _).alloc (by simp; omega) _
 have HB0 := zu8 g2
 have h4 := zu8 (hm.below g2)
 clear g0 g1 g4 g5 g6 g7 hm g2
 unfold setV
 go_enter Tryz.func165, Tryz.ntmps165
 go_wp2_with fail
 generalize (((w.alloc (.cells #[.int .i64 n, .slice aa a.length ac] 68)).alloc (.cells #[.int .i64 m, .slice ba b.length bc] 68)).alloc (.cells #[.int .i64 0, .slice none 0 0] 68)) = w0 at *
 refine (zef 2 n m (.slice aa a.length ac) (.slice ba b.length bc) a b w0 h4.out (g8.out.below HB0.out) (g9.out.below HB0.out) h0.out h1.out h2.out h3.out).mono ?_
 rw [zub]
 rintro e w1 ⟨u, rfl, hu, how, hb1⟩
 obtain ⟨p3, q3, rfl⟩ := hu.slice
 have HU := zu8 hu
 have g3 := zu8 how
 have HK := zu8 ((hb1.block _ (show w.heap.size + 1 + 1 < w0.heap.size by have := H3.out.2.2.2; omega)).trans H3.out.2.2.1)
 have h5 : w.heap.size + 3 ≤ w0.heap.size := by have := H3.out.2.2.2; omega
 have HB1 := zu9 HB0 hb1
 clear hu how hb1
 obtain ⟨r, hr⟩ : ∃ r, r = V.opP V.andF n a m b := ⟨_, rfl⟩
 rw [← hr] at HU g3 ⊢
 have HR := zu8 hr
 clear hr
 obtain ⟨k1, l1, c1⟩ := r
 unfold setV
 go_wp2_with (first | (refine zv rfl 68 _ _ rfl (w.heap.size + 1 + 1) #[.int .i64 0, .slice none 0 0] _ HK.out rfl #[.int .i64 k1, .slice p3 l1.length q3] rfl rfl (by kernel_rfl) (qu _ _ _ _) ?_; intro W2 hp2; have z0 : W2.cell? ⟨w.heap.size + 1 + 1, 0, none⟩ = some (.int .i64 k1) := zu7 hp2.here 0; have z1 : W2.cell? ⟨w.heap.size + 1 + 1, 1, none⟩ = some (.slice p3 l1.length q3) := zu7 hp2.here 1) | fail)
 have HIV : Hid (Itvs W2 (.slice p3 l1.length q3) l1) := zu8 (hp2.itvs HU.out (fun c hc => by have := g3.out c hc; omega))
 have HBF := zu8 (hp2.below HB1.out (by omega))
 clear hp2
 exact bodyPost_ret (v := .tuple #[.agg #[.int .i64 k1, .slice p3 l1.length q3], .int .i64 c1]) (by simp [results, Tryz.results165, go_sem, z0, z1]) rfl (by rw [← HR.out]; exact ⟨_, rfl, HIV.out, (fun c hc => by have := g3.out c hc; omega), HBF.out⟩)
open Go.RowKit
theorem za6 {n : Int} {l : List V.Itv} (h : V.Ok n l) : Lens l := fun x hx => by
 have hb := h.bnd x hx
 unfold V.zt at hb
 rw [Bool.and_eq_true] at hb
 have h1 := (zhj hb.1).2
 have h2 := (zhj hb.2).2
 unfold maxLen
 omega
theorem zfj (n : Int) (s : V.Bs) (w : World) (hm : zj w) (hn : V.scheme n = true) (hs : s.length ≤ 100000) :
  Calls Tryz.prog 132 #[.int .i64 n, .string ⟨s.toArray⟩] w (zab n (V.altP n s) w) := by
 have HN := zu8 hn
 have HM := zu8 hm
 have h4 := zu8 hs
 have HF : Hid (V.altP n s = if s = V.noneT then some [] else if s = [42] then some [V.noI] else V.zar n [V.noI] (V.zl 32 s)) := zu8 rfl
 have k0 : Hid ((ByteArray.mk s.toArray).size ≤ 100000) := zu8 (by simpa [ByteArray.size] using hs)
 have g4 : Hid ((ByteArray.mk s.toArray).data.toList = s) := zu8 rfl
 have h5 : Below w.heap.size w (w.alloc (.cells #[.int .i64 0, .slice none 0 0] 68)) := (zvb _ w).alloc (zva _) _
 have K0 : Hid ((w.alloc (.cells #[.int .i64 0, .slice none 0 0] 68)).heap[w.heap.size]? = some (.cells #[.int .i64 0, .slice none 0 0] 68 (0, 0))) := zu8 (by rw [heap_alloc, if_pos rfl])
 have HB0 := zu8 h5
 clear h5 hm hs hn
 generalize (ByteArray.mk s.toArray) = S at *
 obtain ⟨W0, hW0⟩ : ∃ W0, W0 = (w.alloc (.cells #[.int .i64 0, .slice none 0 0] 68)).alloc (.cells #[.string ⟨#[]⟩, .int .i64 0, .string ⟨#[]⟩, .int .i64 0] 83) := ⟨_, rfl⟩
 obtain ⟨W1, g1⟩ : ∃ W1, W1 = W0.alloc (.cells #[.int .i64 n, .slice (some ⟨w.heap.size + 1, 0, none⟩) 1 1] 68) := ⟨_, rfl⟩
 have k1 : W0.heap.size = w.heap.size + 2 := by rw [hW0]; simp
 have hI : W0.heap[w.heap.size + 1]? = some (.cells (itvC V.noI) 83 (0, 0)) := by rw [hW0, heap_alloc, if_pos (by simp)]; rfl
 have hb1 : Below W0.heap.size W0 W1 := by rw [g1]; exact (zvb _ _).alloc (zva _) _
 have h6 : Below w.heap.size w W1 := by rw [g1, hW0]; exact ((HB0.out.alloc (by simp) _).alloc (by simp; omega) _)
 have h7 : W1.heap[w.heap.size]? = some (.cells #[.int .i64 0, .slice none 0 0] 68 (0, 0)) := by rw [g1, heap_alloc, if_neg (by omega), hW0, heap_alloc, if_neg (by simp)]; exact K0.out
 have h8 : W1.heap[w.heap.size + 2]? = some (.cells #[.int .i64 n, .slice (some ⟨w.heap.size + 1, 0, none⟩) 1 1] 68 (0, 0)) := by rw [g1, heap_alloc, if_pos (by omega)]
 have g5 : W1.heap.size = w.heap.size + 3 := by rw [g1]; simp; omega
 have h9 : Itvs W1 (.slice (some ⟨w.heap.size + 1, 0, none⟩) 1 1) [V.noI] := (zs6 hI).below hb1
 have g6 : Hid (((w.alloc (.cells #[.int .i64 0, .slice none 0 0] 68)).alloc (.cells #[.string ⟨#[]⟩, .int .i64 0, .string ⟨#[]⟩, .int .i64 0] 83)).alloc (.cells #[.int .i64 n, .slice (some ⟨w.heap.size + 1, 0, none⟩) 1 1] 68) = W1) := zu8 (by rw [g1, hW0])
 have HB1 := zu8 h6
 have g9 := zu8 h7
 have HX1 := zu8 h8
 have k2 := zu8 g5
 have j0 := zu8 h9
 clear hW0 g1 k1 hI hb1 h6 h7 h8 g5 h9
 by_cases h1 : s = V.noneT
 ·have HT : (S.toList == [110, 111, 110, 101]) = true := by rw [ByteArray.toList_eq, g4.out, h1]; rfl
  have HR : Hid (V.altP n s = some []) := zu8 (by rw [HF.out, if_pos h1])
  clear h1
  go_enter Tryz.func132, Tryz.ntmps132
  go_wp2_with (first
    | (refine zhp rfl 66 _ _ rfl (w.heap.size + 1 + 1) 1 #[.int .i64 n, .slice (some ⟨w.heap.size + 1, 0, none⟩) 1 1] _ (by rw [g6.out]; exact HX1.out) (by simp) rfl (.slice none 0 0) rfl itvsSize rfl ?_; rw [g6.out]; intro W5 g0; have x0 : W5.cell? ⟨w.heap.size + 1 + 1, 0, none⟩ = some (.int .i64 n) := zu7 g0.here 0; have x1 : W5.cell? ⟨w.heap.size + 1 + 1, 1, none⟩ = some (.slice none 0 0) := zu7 g0.here 1; have k3 := zu8 (g0.other g9.out (by omega)); have HB5 := zu8 (g0.below HB1.out (by omega)); clear g0)
    | (refine zv rfl 68 _ _ rfl w.heap.size #[.int .i64 0, .slice none 0 0] _ k3.out rfl #[.int .i64 n, .slice none 0 0] rfl rfl (by kernel_rfl) (qu _ _ _ _) ?_; intro W2 hp2; have z0 : W2.cell? ⟨w.heap.size, 0, none⟩ = some (.int .i64 n) := zu7 hp2.here 0; have z1 : W2.cell? ⟨w.heap.size, 1, none⟩ = some (.slice none 0 0) := zu7 hp2.here 1)
    | fail)
  have HBF := zu8 (hp2.below HB5.out (zva _))
  clear hp2
  exact bodyPost_ret (v := .tuple #[.agg #[.int .i64 n, .slice none 0 0], .bool true]) (by simp [results, Tryz.results132, go_sem, z0, z1]) rfl (zab.yes HR.out HBF.out (Itvs.nil _) (fun c hc => by cases hc))
 ·have HT : (S.toList == [110, 111, 110, 101]) = false := by rw [zvc, ByteArray.toList_eq, g4.out]; exact h1
  have j1 : Hid (V.altP n s = if s = [42] then some [V.noI] else V.zar n [V.noI] (V.zl 32 s)) := zu8 (by rw [HF.out, if_neg h1])
  clear h1
  go_enter Tryz.func132, Tryz.ntmps132
  by_cases h2 : s = [42]
  ·have k4 : (S.toList == [42]) = true := by rw [ByteArray.toList_eq, g4.out, h2]; rfl
   have HR : Hid (V.altP n s = some [V.noI]) := zu8 (by rw [j1.out, if_pos h2])
   clear h2
   go_wp2_with (first | (refine zv rfl 68 _ _ rfl w.heap.size #[.int .i64 0, .slice none 0 0] _ (by rw [g6.out]; exact g9.out) rfl #[.int .i64 n, .slice (some ⟨w.heap.size + 1, 0, none⟩) 1 1] rfl rfl (by kernel_rfl) (qu _ _ _ _) ?_; rw [g6.out]; intro W2 hp2; have z0 : W2.cell? ⟨w.heap.size, 0, none⟩ = some (.int .i64 n) := zu7 hp2.here 0; have z1 : W2.cell? ⟨w.heap.size, 1, none⟩ = some (.slice (some ⟨w.heap.size + 1, 0, none⟩) 1 1) := zu7 hp2.here 1) | fail)
   have HBF := zu8 (hp2.below HB1.out (zva _))
   have HIV := zu8 (hp2.itvs j0.out (fun c hc => by simp [Value.ownBlock] at hc; omega))
   clear hp2
   exact bodyPost_ret (v := .tuple #[.agg #[.int .i64 n, .slice (some ⟨w.heap.size + 1, 0, none⟩) 1 1], .bool true]) (by simp [results, Tryz.results132, go_sem, z0, z1]) rfl (zab.yes HR.out HBF.out HIV.out (fun c hc => by simp [Value.ownBlock] at hc; omega))
  ·have k4 : (S.toList == [42]) = false := by rw [zvc, ByteArray.toList_eq, g4.out]; exact h2
   have HF2 : Hid (V.altP n s = V.zar n [V.noI] (V.zl 32 s)) := zu8 (by rw [j1.out, if_neg h2])
   have k5 : Hid (∀ x ∈ V.zl 32 s, x.length ≤ 100000) := zu8 (fun x hx => Nat.le_trans (jx 32 s x hx) h4.out)
   have k6 : Hid ((V.zl 32 s).length ≤ 100001) := zu8 (Nat.le_trans (jf 32 s) (by have := h4.out; omega))
   clear h2
   go_wp2_with fail
   rw [g6.out]
   refine (ki S 32 W1 (HM.out.below HB1.out) (by have := k0.out; omega)).mono ?_
   rintro e W2 ⟨rfl, g7⟩
   rw [g4.out] at g7 ⊢
   have hb2 : Below W1.heap.size W1 W2 := by rw [g7]; exact (zvb _ _).alloc (zva _) _
   have h0 : AltInv n w w.heap.size (w.heap.size + 2) W1.heap.size (V.zl 32 s) [V.noI] (.slice (some ⟨w.heap.size + 1, 0, none⟩) 1 1) W2 := by
    refine ⟨HB1.out.trans (hb2.mono HB1.out.size), ws hb2 g9.out, ws hb2 HX1.out, V.zm5 HN.out, j0.out.below hb2, (fun c hc => ?_), (fun j hj => ?_)⟩
    ·simp [Value.ownBlock] at hc; omega
    ·rw [g7, World.cell?_alloc_new]; exact vv _ j hj
   have h3 := zu8 h0
   have g5 : W1.heap.size = w.heap.size + 3 := k2.out
   have j2 : W2.heap.size = w.heap.size + 4 := by rw [g7]; simp; omega
   have q3 : (V.zl 32 s).length ≤ 100001 := k6.out
   clear hb2 h0 g7
   rw [g5] at h3 ⊢
   clear g5
   have q4 := zu8 j2
   clear j2
   have j8 : Hid (V.altP n s = V.zar n [V.noI] ((V.zl 32 s).drop 0)) := zu8 HF2.out
   generalize V.zl 32 s = L at *
   go_wp2_with fail
   go_loopw [8] (fun iv wx => ∃ (k : Nat) (out : List V.Itv) (u : Value), k ≤ L.length /\ iv = .int .i64 k /\ V.altP n s = V.zar n out (L.drop k) /\ AltInv n w w.heap.size (w.heap.size + 2) (w.heap.size + 3) L out u wx) (fun iv _ => L.length - (intOf iv).toNat)
   case atStart => exact ⟨0, _, _, Nat.zero_le _, rfl, j8.out, h3.out⟩
   case round =>
    obtain ⟨k, out, u, hk, rfl, j3, g8⟩ := hrel
    have HE := zu8 j3
    have HI := zu8 g8
    obtain ⟨p, q, rfl⟩ := g8.set.slice
    clear j3 g8
    have x0 : wr.cell? ⟨w.heap.size + 1 + 1, 0, none⟩ = some (.int .i64 n) := zu7 HI.out.box 0
    have x1 : wr.cell? ⟨w.heap.size + 1 + 1, 1, none⟩ = some (.slice p out.length q) := zu7 HI.out.box 1
    by_cases hlt : k < L.length
    ·have hc := HI.out.txt k hlt
     have q6 : (0 : Int) ≤ (k : Int) := by omega
     have q7 : (k : Int) < (L.length : Int) := by omega
     have k7 := zu8 (k5.out _ (List.getElem_mem hlt))
     have HST := zu8 (fun (y : V.Itv) hy => zqj (n := n) (out := out) (y := y) hlt hy)
     have HNO := zu8 (fun hy => zqx (n := n) (out := out) hlt hy)
     generalize L[k] = x at *
     go_wp2_with fail
     refine (zhn n x wr (HM.out.below HI.out.below) k7.out).mono ?_
     rintro e w2 ⟨y, b, rfl, j4, hb2⟩
     have j5 := zu8 j4
     have g2 := zu8 (HI.out.later hb2)
     clear j4 hb2 hc x0 x1
     have x0 : w2.cell? ⟨w.heap.size + 1 + 1, 0, none⟩ = some (.int .i64 n) := zu7 g2.out.box 0
     have x1 : w2.cell? ⟨w.heap.size + 1 + 1, 1, none⟩ = some (.slice p out.length q) := zu7 g2.out.box 1
     unfold itvV
     rcases b with _ | _
     ·have HR : Hid (V.altP n s = none) := zu8 (by
        rcases j5.out with ⟨_, h⟩ | ⟨h, _⟩
        · rw [HE.out, HNO.out h]
        · cases h)
      have HBY := zu8 ((zvb w2.heap.size w2).alloc (zva _) (.cells (itvC y) 83))
      go_wp2_with (first | (refine zv rfl 68 _ _ rfl w.heap.size #[.int .i64 0, .slice none 0 0] _ (g2.out.later HBY.out).res rfl #[.int .i64 0, .slice none 0 0] rfl rfl (by kernel_rfl) (qu _ _ _ _) ?_; intro W5 g0; have z0 : W5.cell? ⟨w.heap.size, 0, none⟩ = some (.int .i64 0) := zu7 g0.here 0; have z1 : W5.cell? ⟨w.heap.size, 1, none⟩ = some (.slice none 0 0) := zu7 g0.here 1) | fail)
      have HBF := zu8 (g0.below (g2.out.later HBY.out).below (zva _))
      clear g0
      exact bodyPost_ret (v := .tuple #[.agg #[.int .i64 0, .slice none 0 0], .bool false]) (by simp [results, Tryz.results132, go_sem, z0, z1]) rfl (by rw [HR.out]; exact zab.no HBF.out)
     ·have HC : Hid (V.kh n x = some y) := zu8 (by
        rcases j5.out with ⟨h, _⟩ | ⟨_, h⟩
        · cases h
        · exact h)
      have HOK := zu8 (V.zo1 HN.out HC.out)
      have j6 : Below w2.heap.size w2 ((w2.alloc (.cells (itvC y) 83)).alloc (.cells (itvC y) 83)) := ((zvb _ _).alloc (zva _) _).alloc (by simp) _
      have HY : Hid (((w2.alloc (.cells (itvC y) 83)).alloc (.cells (itvC y) 83)).heap[w2.heap.size + 1]? = some (.cells (itvC y) 83 (0, 0))) := zu8 (by rw [heap_alloc, if_pos (by simp)])
      have g3 := zu8 (g2.out.later j6)
      have k8 : Hid (((w2.alloc (.cells (itvC y) 83)).alloc (.cells (itvC y) 83)).heap.size = w2.heap.size + 2) := zu8 (by simp)
      have hb3 : Below w2.heap.size w2 (w2.alloc (.cells (itvC y) 83)) := (zvb _ _).alloc (zva _) _
      have y0 : (w2.alloc (.cells (itvC y) 83)).cell? ⟨w.heap.size + 1 + 1, 0, none⟩ = some (.int .i64 n) := zb hb3 x0
      have y1 : (w2.alloc (.cells (itvC y) 83)).cell? ⟨w.heap.size + 1 + 1, 1, none⟩ = some (.slice p out.length q) := zb hb3 x1
      clear hb3 x0 x1
      unfold itvC at y0 y1
      have k9 : Hid (w.heap.size + 2 < w2.heap.size) := zu8 ((Array.getElem?_eq_some_iff.1 g2.out.box).1)
      clear j6
      go_wp2_with fail
      refine (zhm n n (.slice p out.length q) (.slice (some ⟨w2.heap.size + 1, 0, none⟩) 1 1) out [y] ((w2.alloc (.cells (itvC y) 83)).alloc (.cells (itvC y) 83)) (HM.out.below g3.out.below) g3.out.set (zs6 HY.out) (za6 g3.out.one.ok) (za6 HOK.out) (by have := g3.out.one.one; unfold maxLen; omega) (by unfold maxLen; simp)).mono ?_
      rintro e w5 ⟨u5, rfl, hu5, how5, hb5⟩
      have q0 := zu8 (V.opP_few V.andF g3.out.one.few (V.One.few ⟨HOK.out, by simp⟩) (by omega))
      rw [q0.out] at hu5 ⊢
      simp only at hu5 ⊢
      obtain ⟨p5, q5, rfl⟩ := hu5.slice
      have j7 := zu8 (g3.out.later hb5)
      have q1 := zu8 hu5
      have q2 := zu8 (fun c hc => by
        have h1 := how5 c hc
        rw [k8.out] at h1
        exact (show w.heap.size ≤ c /\ c ≠ w.heap.size + 2 /\ c ≠ w.heap.size by have := k9.out; omega))
      have j9 := zu8 (g2.out.one.and ⟨HOK.out, by simp⟩)
      have HEQ : Hid (V.altP n s = V.zar n (V.opL n V.andF out [y]) (L.drop (k + 1))) := zu8 (by rw [HE.out, HST.out y HC.out])
      clear hu5 how5 hb5 y0 y1
      unfold setV
      go_wp2_with (first | (refine zv rfl 68 _ _ rfl (w.heap.size + 2) _ _ j7.out.box rfl #[.int .i64 n, .slice p5 (V.opL n V.andF out [y]).length q5] rfl rfl (by kernel_rfl) (qu _ _ _ _) ?_; intro W6 hp6) | fail)
      have HI6 := zu8 (j7.out.put hp6 (by omega) (by omega) (by omega) j9.out q1.out q2.out)
      clear hp6
      go_roundw
      case rel => exact ⟨k + 1, _, _, by omega, by go_num, HEQ.out, HI6.out⟩
      case measure => simp [intOf]; omega
    ·obtain rfl : k = L.length := by omega
     have HR : Hid (V.altP n s = some out) := zu8 (by rw [HE.out, List.drop_length]; rfl)
     go_wp2_with (first | (refine zv rfl 68 _ _ rfl w.heap.size #[.int .i64 0, .slice none 0 0] _ HI.out.res rfl #[.int .i64 n, .slice p out.length q] rfl rfl (by kernel_rfl) (qu _ _ _ _) ?_; intro W5 g0; have z0 : W5.cell? ⟨w.heap.size, 0, none⟩ = some (.int .i64 n) := zu7 g0.here 0; have z1 : W5.cell? ⟨w.heap.size, 1, none⟩ = some (.slice p out.length q) := zu7 g0.here 1) | fail)
     have HBF := zu8 (g0.below HI.out.below (zva _))
     have HIV := zu8 (g0.itvs HI.out.set (fun c hc => (HI.out.own c hc).2.2))
     clear g0
     exact bodyPost_ret (v := .tuple #[.agg #[.int .i64 n, .slice p out.length q], .bool true]) (by simp [results, Tryz.results132, go_sem, z0, z1]) rfl (zab.yes HR.out HBF.out HIV.out (fun c hc => (HI.out.own c hc).1))
end Go.Proofs.YtbikeahmldobkaaGreatDoor
