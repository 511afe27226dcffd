/-
  Lemmas for the law.
-/
import Derived.Test.YtiloljoancdcbaaGreatDoorC40x32
import Derived.Test.YtiloljoancdcbaaGreatDoorC40x35
import Derived.Test.YtiloljoancdcbaaGreatDoorC40x20
import Derived.Test.YtiloljoancdcbaaGreatDoorC40x33
set_option linter.all false
set_option maxRecDepth 100000
set_option maxHeartbeats 6400000
namespace Go.Proofs.YtiloljoancdcbaaGreatDoor
open Go.RowKit
theorem zqu (n m : Int) (va vb : Value) (a b : List V.Itv) (w : World) (hm : zg w) (hva : Itvs w va a) (hvb : Itvs w vb b) (hsa : Lens a) (hsb : Lens b) (hla : a.length ≤ maxLen) (hlb : b.length ≤ maxLen) :
  Calls Tryz.prog 126 #[setV n va, setV m vb] w (js (V.opP V.orF n a m b) w) := by
 have HVA := zvq hva
 have HVB := zvq hvb
 obtain ⟨aa, ac, rfl⟩ := hva.slice
 obtain ⟨ba, bc, rfl⟩ := hvb.slice
 have HSA := zvq hsa
 have HSB := zvq hsb
 have HLA := zvq hla
 have HLB := zvq hlb
 have H3 := zvq (xp w (.cells #[.int .i64 n, .slice aa a.length ac] 32) (.cells #[.int .i64 m, .slice ba b.length bc] 32) (.cells #[.int .i64 0, .slice none 0 0] 32))
 have hb0 : Below w.heap.size w (((w.alloc (.cells #[.int .i64 n, .slice aa a.length ac] 32)).alloc (.cells #[.int .i64 m, .slice ba b.length bc] 32)).alloc (.cells #[.int .i64 0, .slice none 0 0] 32)) := (((zvt _ _).alloc (zvs _) _).alloc (by simp) _).alloc (by simp; omega) _
 have HB0 := zvq hb0
 have HM0 := zvq (hm.below hb0)
 clear hva hvb hsa hsb hla hlb hm hb0
 unfold setV
 go_enter Tryz.func126, Tryz.ntmps126
 go_wp2_with fail
 generalize ((w.alloc (.cells #[.int .i64 n, .slice aa a.length ac] 32)).alloc (.cells #[.int .i64 m, .slice ba b.length bc] 32)).alloc (.cells #[.int .i64 0, .slice none 0 0] 32) = w0 at *
 refine (zml n m (.slice aa a.length ac) (.slice ba b.length bc) a b 155 V.orF w0 HM0.out (HVA.out.below HB0.out) (HVB.out.below HB0.out) HSA.out HSB.out HLA.out HLB.out (enters_of Tryz.func155 (by kernel_rfl) rfl) (fun x y W => zvg x y W)).mono ?_
 rintro e w1 ⟨u, rfl, hu, how, hb1⟩
 obtain ⟨p3, q3, rfl⟩ := hu.slice
 have HU := zvq hu
 have HOW := zvq how
 have HK := zvq ((hb1.block _ (show w.heap.size + 1 + 1 < w0.heap.size by have := H3.out.2.2.2; omega)).trans H3.out.2.2.1)
 have hsz : w0.heap.size = w.heap.size + 3 := H3.out.2.2.2
 have HB1 := zvr HB0 hb1
 clear hu how hb1
 obtain ⟨r, hr⟩ : ∃ r, r = V.opP V.orF n a m b := ⟨_, rfl⟩
 rw [← hr] at HU HOW ⊢
 have HR := zvq hr
 clear hr
 obtain ⟨k1, l1, c1⟩ := r
 unfold setV
 go_wp2_with (first | (refine zi rfl 32 _ _ rfl (w.heap.size + 1 + 1) #[.int .i64 0, .slice none 0 0] _ HK.out rfl #[.int .i64 k1, .slice p3 l1.length q3] rfl rfl (by kernel_rfl) (zt _ _ _ _) ?_; intro W2 hp2; have z0 : W2.cell? ⟨w.heap.size + 1 + 1, 0, none⟩ = some (.int .i64 k1) := zvp hp2.here 0; have z1 : W2.cell? ⟨w.heap.size + 1 + 1, 1, none⟩ = some (.slice p3 l1.length q3) := zvp hp2.here 1) | fail)
 have HIV : Hid (Itvs W2 (.slice p3 l1.length q3) l1) := zvq (hp2.itvs HU.out (fun c hc => by have := HOW.out c hc; omega))
 have HBF := zvq (hp2.below HB1.out (by omega))
 clear hp2
 exact bodyPost_ret (v := .tuple #[.agg #[.int .i64 k1, .slice p3 l1.length q3], .int .i64 c1]) (by simp [results, Tryz.results126, go_sem, z0, z1]) rfl (by rw [← HR.out]; exact ⟨_, rfl, HIV.out, (fun c hc => by have := HOW.out c hc; omega), HBF.out⟩)
theorem holdF_or : kq 1 = V.orF := by funext a b; cases a <;> cases b <;> rfl
theorem zuw : kq 2 = V.andF := by funext a b; cases a <;> cases b <;> rfl
theorem zy6 {P : Prop} (h : P := by
 clear hp2
 exact bodyPost_ret (v := .tuple #[.agg #[.int .i64 0, .slice none 0 0], .int .i64 1]) (by simp [results, Tryz.results103, go_sem, z0, z1]) rfl (by rw [HR.out]; exact js.zero HBF.out _)) : P := h
theorem ze8 (o n m : Int) (va vb : Value) (a b : List V.Itv) (w : World) (hm : zg w) (hva : Itvs w va a) (hvb : Itvs w vb b) (hsa : Lens a) (hsb : Lens b) (hla : a.length ≤ maxLen) (hlb : b.length ≤ maxLen) :
  Calls Tryz.prog 103 #[.int .i64 o, setV n va, setV m vb] w (js (V.opP (kq o) n a m b) w) := by
 have HVA := zvq hva
 have HVB := zvq hvb
 obtain ⟨aa, ac, rfl⟩ := hva.slice
 obtain ⟨ba, bc, rfl⟩ := hvb.slice
 have HSA := zvq hsa
 have HSB := zvq hsb
 have HLA := zvq hla
 have HLB := zvq hlb
 have HF : Hid (V.opP (kq o) n a m b = if V.chkP n a m b = 0 then V.limP n (V.opL n (kq o) a b) else (0, [], V.chkP n a m b)) := zvq rfl
 have HCH : Hid (V.chkP n a m b = if V.okR n a && V.okR m b then (if n = m then 0 else 14) else 1) := zvq rfl
 have H3 := zvq (xp w (.cells #[.int .i64 n, .slice aa a.length ac] 32) (.cells #[.int .i64 m, .slice ba b.length bc] 32) (.cells #[.int .i64 0, .slice none 0 0] 32))
 have hb0 : Below w.heap.size w (((w.alloc (.cells #[.int .i64 n, .slice aa a.length ac] 32)).alloc (.cells #[.int .i64 m, .slice ba b.length bc] 32)).alloc (.cells #[.int .i64 0, .slice none 0 0] 32)) := (((zvt _ _).alloc (zvs _) _).alloc (by simp) _).alloc (by simp; omega) _
 have HB0 := zvq hb0
 have HM0 := zvq (hm.below hb0)
 clear hva hvb hsa hsb hla hlb hm hb0
 unfold setV
 go_enter Tryz.func103, Tryz.ntmps103
 go_wp2_with fail
 generalize (((w.alloc (.cells #[.int .i64 n, .slice aa a.length ac] 32)).alloc (.cells #[.int .i64 m, .slice ba b.length bc] 32)).alloc (.cells #[.int .i64 0, .slice none 0 0] 32)) = w0 at *
 have KA := H3.out.1
 have KB := H3.out.2.1
 have KC := H3.out.2.2.1
 refine (zb2 n (.slice aa a.length ac) a w0 HM0.out (HVA.out.below HB0.out) HSA.out HLA.out).mono ?_
 rintro e w1 ⟨rfl, hb1⟩
 have K0 := (hb1.block _ (Array.getElem?_eq_some_iff.1 KA).1).trans KA
 have K1 := (hb1.block _ (Array.getElem?_eq_some_iff.1 KB).1).trans KB
 have K2 := (hb1.block _ (Array.getElem?_eq_some_iff.1 KC).1).trans KC
 have HK := zvq (And.intro K0 (And.intro K1 K2))
 have HB1 := zvr HB0 hb1
 have HM1 := zvq (HM0.out.below hb1)
 have hc0 : w1.cell? ⟨w.heap.size, 0, none⟩ = some (.int .i64 n) := zvp K0 0
 have hc1 : w1.cell? ⟨w.heap.size, 1, none⟩ = some (.slice aa a.length ac) := zvp K0 1
 have hd0 : w1.cell? ⟨w.heap.size + 1, 0, none⟩ = some (.int .i64 m) := zvp K1 0
 have hd1 : w1.cell? ⟨w.heap.size + 1, 1, none⟩ = some (.slice ba b.length bc) := zvp K1 1
 clear hb1 K0 K1 K2 KA KB KC
 rcases hok : V.okR n a with _ | _
 ·have HCZ : V.chkP n a m b = 1 := by rw [HCH.out, hok]; rfl
  have HR : Hid (V.opP (kq o) n a m b = (0, [], 1)) := zvq (by rw [HF.out, HCZ]; rfl)
  clear hok HCZ
  go_wp2_with (first | (refine zi rfl 32 _ _ rfl (w.heap.size + 1 + 1) #[.int .i64 0, .slice none 0 0] _ HK.out.2.2 rfl #[.int .i64 0, .slice none 0 0] rfl rfl (by kernel_rfl) (zt _ _ _ _) ?_; intro W2 hp2; have z0 : W2.cell? ⟨w.heap.size + 1 + 1, 0, none⟩ = some (.int .i64 0) := zvp hp2.here 0; have z1 : W2.cell? ⟨w.heap.size + 1 + 1, 1, none⟩ = some (.slice none 0 0) := zvp hp2.here 1) | fail)
  have HBF := zvq (hp2.below HB1.out (by omega))
  exact zy6
 ·have HOK := zvq hok
  clear hok
  go_wp2_with fail
  refine (zb2 m (.slice ba b.length bc) b w1 HM1.out (HVB.out.below HB1.out) HSB.out HLB.out).mono ?_
  rintro e w2 ⟨rfl, hb2⟩
  have K0 := (hb2.block _ (Array.getElem?_eq_some_iff.1 HK.out.1).1).trans HK.out.1
  have K1 := (hb2.block _ (Array.getElem?_eq_some_iff.1 HK.out.2.1).1).trans HK.out.2.1
  have K2 := (hb2.block _ (Array.getElem?_eq_some_iff.1 HK.out.2.2).1).trans HK.out.2.2
  have HK2 := zvq K2
  have HB2 := zvr HB1 hb2
  have HM2 := zvq (HM1.out.below hb2)
  clear hc0 hc1 hd0 hd1
  have hc0 : w2.cell? ⟨w.heap.size, 0, none⟩ = some (.int .i64 n) := zvp K0 0
  have hc1 : w2.cell? ⟨w.heap.size, 1, none⟩ = some (.slice aa a.length ac) := zvp K0 1
  have hd0 : w2.cell? ⟨w.heap.size + 1, 0, none⟩ = some (.int .i64 m) := zvp K1 0
  have hd1 : w2.cell? ⟨w.heap.size + 1, 1, none⟩ = some (.slice ba b.length bc) := zvp K1 1
  clear hb2 K0 K1 K2
  rcases hok2 : V.okR m b with _ | _
  ·have HCZ : V.chkP n a m b = 1 := by rw [HCH.out, HOK.out, hok2]; rfl
   have HR : Hid (V.opP (kq o) n a m b = (0, [], 1)) := zvq (by rw [HF.out, HCZ]; rfl)
   clear hok2 HCZ
   go_wp2_with (first | (refine zi rfl 32 _ _ rfl (w.heap.size + 1 + 1) #[.int .i64 0, .slice none 0 0] _ HK2.out rfl #[.int .i64 0, .slice none 0 0] rfl rfl (by kernel_rfl) (zt _ _ _ _) ?_; intro W2 hp2; have z0 : W2.cell? ⟨w.heap.size + 1 + 1, 0, none⟩ = some (.int .i64 0) := zvp hp2.here 0; have z1 : W2.cell? ⟨w.heap.size + 1 + 1, 1, none⟩ = some (.slice none 0 0) := zvp hp2.here 1) | fail)
   have HBF := zvq (hp2.below HB2.out (by omega))
   exact zy6
  ·have HOK2 := zvq hok2
   clear hok2
   by_cases hnm : n = m
   ·subst hnm
    have HOA := zvq (V.zca HOK.out)
    have HOB := zvq (V.zca HOK2.out)
    have HLEN := zvq (V.zts (kq o) HOA.out HOB.out)
    have HR : Hid (V.opP (kq o) n a n b = V.limP n (V.opL n (kq o) a b)) := zvq (by rw [HF.out, if_pos (V.zpa HOA.out HOB.out)])
    go_wp2_with fail
    refine (zmm o n (.slice aa a.length ac) (.slice ba b.length bc) a b w2 HM2.out HOA.out.sch (HVA.out.below HB2.out) (HVB.out.below HB2.out) HOA.out.bnd HOB.out.bnd (by have := HOA.out.len; omega) (by have := HOB.out.len; omega)).mono ?_
    rintro e w3 ⟨u, rfl, hu, how, hb3⟩
    rw [V.opR_opL (kq o) HOA.out HOB.out] at hu
    obtain ⟨ua, uc, rfl⟩ := hu.slice
    have HU := zvq hu
    have HOW := zvq how
    have HB3 := zvr HB2 hb3
    have HK3 := zvq ((hb3.block _ (Array.getElem?_eq_some_iff.1 HK2.out).1).trans HK2.out)
    have hsz2 : w.heap.size + 1 + 1 < w2.heap.size := (Array.getElem?_eq_some_iff.1 HK2.out).1
    have HSZ2 := zvq hsz2
    have kc0 := za hb3 hc0
    clear hu how hb3 hc0 hc1 hd0 hd1
    by_cases h32 : 32 < (V.opL n (kq o) a b).length
    ·have HR2 : Hid (V.opP (kq o) n a n b = (0, [], 3)) := zvq (by rw [HR.out]; unfold V.limP; rw [if_neg (by omega)])
     go_wp2_with (first | (refine zi rfl 32 _ _ rfl (w.heap.size + 1 + 1) #[.int .i64 0, .slice none 0 0] _ HK3.out rfl #[.int .i64 0, .slice none 0 0] rfl rfl (by kernel_rfl) (zt _ _ _ _) ?_; intro W2 hp2; have z0 : W2.cell? ⟨w.heap.size + 1 + 1, 0, none⟩ = some (.int .i64 0) := zvp hp2.here 0; have z1 : W2.cell? ⟨w.heap.size + 1 + 1, 1, none⟩ = some (.slice none 0 0) := zvp hp2.here 1) | fail)
     have HBF := zvq (hp2.below HB3.out (by omega))
     clear hp2
     exact bodyPost_ret (v := .tuple #[.agg #[.int .i64 0, .slice none 0 0], .int .i64 3]) (by simp [results, Tryz.results103, go_sem, z0, z1]) rfl (by rw [HR2.out]; exact js.zero HBF.out _)
    ·have HR2 : Hid (V.opP (kq o) n a n b = (n, V.opL n (kq o) a b, 0)) := zvq (by rw [HR.out]; unfold V.limP; rw [if_pos (by omega)])
     go_wp2_with (first | (refine zi rfl 32 _ _ rfl (w.heap.size + 1 + 1) #[.int .i64 0, .slice none 0 0] _ HK3.out rfl #[.int .i64 n, .slice ua (V.opL n (kq o) a b).length uc] rfl rfl (by kernel_rfl) (zt _ _ _ _) ?_; intro W2 hp2; have z0 : W2.cell? ⟨w.heap.size + 1 + 1, 0, none⟩ = some (.int .i64 n) := zvp hp2.here 0; have z1 : W2.cell? ⟨w.heap.size + 1 + 1, 1, none⟩ = some (.slice ua (V.opL n (kq o) a b).length uc) := zvp hp2.here 1) | fail)
     have HIV : Hid (Itvs W2 (.slice ua (V.opL n (kq o) a b).length uc) (V.opL n (kq o) a b)) := zvq (hp2.itvs HU.out (fun c hc => by have := HOW.out c hc; have := HSZ2.out; omega))
     have HBF := zvq (hp2.below HB3.out (by omega))
     clear hp2
     exact bodyPost_ret (v := .tuple #[.agg #[.int .i64 n, .slice ua (V.opL n (kq o) a b).length uc], .int .i64 0]) (by simp [results, Tryz.results103, go_sem, z0, z1]) rfl (by rw [HR2.out]; exact ⟨_, rfl, HIV.out, (fun c hc => by have := HOW.out c hc; have := HSZ2.out; omega), HBF.out⟩)
   ·have HCZ : V.chkP n a m b = 14 := by rw [HCH.out, HOK.out, HOK2.out]; simp [hnm]
    have HR : Hid (V.opP (kq o) n a m b = (0, [], 14)) := zvq (by rw [HF.out, HCZ]; rfl)
    have hq : (n != m) = true := by simpa using hnm
    clear hnm HCZ
    go_wp2_with (first | (refine zi rfl 32 _ _ rfl (w.heap.size + 1 + 1) #[.int .i64 0, .slice none 0 0] _ HK2.out rfl #[.int .i64 0, .slice none 0 0] rfl rfl (by kernel_rfl) (zt _ _ _ _) ?_; intro W2 hp2; have z0 : W2.cell? ⟨w.heap.size + 1 + 1, 0, none⟩ = some (.int .i64 0) := zvp hp2.here 0; have z1 : W2.cell? ⟨w.heap.size + 1 + 1, 1, none⟩ = some (.slice none 0 0) := zvp hp2.here 1) | fail)
    have HBF := zvq (hp2.below HB2.out (by omega))
    clear hp2
    exact bodyPost_ret (v := .tuple #[.agg #[.int .i64 0, .slice none 0 0], .int .i64 14]) (by simp [results, Tryz.results103, go_sem, z0, z1]) rfl (by rw [HR.out]; exact js.zero HBF.out _)
theorem zhx (n m : Int) (va vb : Value) (a b : List V.Itv) (w : World) (hm : zg w) (hva : Itvs w va a) (hvb : Itvs w vb b) (hsa : Lens a) (hsb : Lens b) (hla : a.length ≤ maxLen) (hlb : b.length ≤ maxLen) :
  Calls Tryz.prog 73 #[setV n va, setV m vb] w (js (V.opP V.orF n a m b) w) := by
 have HVA := zvq hva
 have HVB := zvq hvb
 obtain ⟨aa, ac, rfl⟩ := hva.slice
 obtain ⟨ba, bc, rfl⟩ := hvb.slice
 have HSA := zvq hsa
 have HSB := zvq hsb
 have HLA := zvq hla
 have HLB := zvq hlb
 have H3 := zvq (xp w (.cells #[.int .i64 n, .slice aa a.length ac] 32) (.cells #[.int .i64 m, .slice ba b.length bc] 32) (.cells #[.int .i64 0, .slice none 0 0] 32))
 have hb0 : Below w.heap.size w (((w.alloc (.cells #[.int .i64 n, .slice aa a.length ac] 32)).alloc (.cells #[.int .i64 m, .slice ba b.length bc] 32)).alloc (.cells #[.int .i64 0, .slice none 0 0] 32)) := (((zvt _ _).alloc (zvs _) _).alloc (by simp) _).alloc (by simp; omega) _
 have HB0 := zvq hb0
 have HM0 := zvq (hm.below hb0)
 clear hva hvb hsa hsb hla hlb hm hb0
 unfold setV
 go_enter Tryz.func73, Tryz.ntmps73
 go_wp2_with fail
 generalize (((w.alloc (.cells #[.int .i64 n, .slice aa a.length ac] 32)).alloc (.cells #[.int .i64 m, .slice ba b.length bc] 32)).alloc (.cells #[.int .i64 0, .slice none 0 0] 32)) = w0 at *
 refine (ze8 1 n m (.slice aa a.length ac) (.slice ba b.length bc) a b w0 HM0.out (HVA.out.below HB0.out) (HVB.out.below HB0.out) HSA.out HSB.out HLA.out HLB.out).mono ?_
 rw [holdF_or]
 rintro e w1 ⟨u, rfl, hu, how, hb1⟩
 obtain ⟨p3, q3, rfl⟩ := hu.slice
 have HU := zvq hu
 have HOW := zvq how
 have HK := zvq ((hb1.block _ (show w.heap.size + 1 + 1 < w0.heap.size by have := H3.out.2.2.2; omega)).trans H3.out.2.2.1)
 have hsz : w.heap.size + 3 ≤ w0.heap.size := by have := H3.out.2.2.2; omega
 have HB1 := zvr HB0 hb1
 clear hu how hb1
 obtain ⟨r, hr⟩ : ∃ r, r = V.opP V.orF n a m b := ⟨_, rfl⟩
 rw [← hr] at HU HOW ⊢
 have HR := zvq hr
 clear hr
 obtain ⟨k1, l1, c1⟩ := r
 unfold setV
 go_wp2_with (first | (refine zi rfl 32 _ _ rfl (w.heap.size + 1 + 1) #[.int .i64 0, .slice none 0 0] _ HK.out rfl #[.int .i64 k1, .slice p3 l1.length q3] rfl rfl (by kernel_rfl) (zt _ _ _ _) ?_; intro W2 hp2; have z0 : W2.cell? ⟨w.heap.size + 1 + 1, 0, none⟩ = some (.int .i64 k1) := zvp hp2.here 0; have z1 : W2.cell? ⟨w.heap.size + 1 + 1, 1, none⟩ = some (.slice p3 l1.length q3) := zvp hp2.here 1) | fail)
 have HIV : Hid (Itvs W2 (.slice p3 l1.length q3) l1) := zvq (hp2.itvs HU.out (fun c hc => by have := HOW.out c hc; omega))
 have HBF := zvq (hp2.below HB1.out (by omega))
 clear hp2
 exact bodyPost_ret (v := .tuple #[.agg #[.int .i64 k1, .slice p3 l1.length q3], .int .i64 c1]) (by simp [results, Tryz.results73, go_sem, z0, z1]) rfl (by rw [← HR.out]; exact ⟨_, rfl, HIV.out, (fun c hc => by have := HOW.out c hc; omega), HBF.out⟩)
theorem ziv (n m : Int) (va vb : Value) (a b : List V.Itv) (w : World) (hm : zg w) (hva : Itvs w va a) (hvb : Itvs w vb b) (hsa : Lens a) (hsb : Lens b) (hla : a.length ≤ maxLen) (hlb : b.length ≤ maxLen) :
  Calls Tryz.prog 102 #[setV n va, setV m vb] w (js (V.opP V.andF n a m b) w) := by
 have HVA := zvq hva
 have HVB := zvq hvb
 obtain ⟨aa, ac, rfl⟩ := hva.slice
 obtain ⟨ba, bc, rfl⟩ := hvb.slice
 have HSA := zvq hsa
 have HSB := zvq hsb
 have HLA := zvq hla
 have HLB := zvq hlb
 have H3 := zvq (xp w (.cells #[.int .i64 n, .slice aa a.length ac] 32) (.cells #[.int .i64 m, .slice ba b.length bc] 32) (.cells #[.int .i64 0, .slice none 0 0] 32))
 have hb0 : Below w.heap.size w (((w.alloc (.cells #[.int .i64 n, .slice aa a.length ac] 32)).alloc (.cells #[.int .i64 m, .slice ba b.length bc] 32)).alloc (.cells #[.int .i64 0, .slice none 0 0] 32)) := (((zvt _ _).alloc (zvs _) _).alloc (by simp) _).alloc (by simp; omega) _
 have HB0 := zvq hb0
 have HM0 := zvq (hm.below hb0)
 clear hva hvb hsa hsb hla hlb hm hb0
 unfold setV
 go_enter Tryz.func102, Tryz.ntmps102
 go_wp2_with fail
 generalize (((w.alloc (.cells #[.int .i64 n, .slice aa a.length ac] 32)).alloc (.cells #[.int .i64 m, .slice ba b.length bc] 32)).alloc (.cells #[.int .i64 0, .slice none 0 0] 32)) = w0 at *
 refine (ze8 2 n m (.slice aa a.length ac) (.slice ba b.length bc) a b w0 HM0.out (HVA.out.below HB0.out) (HVB.out.below HB0.out) HSA.out HSB.out HLA.out HLB.out).mono ?_
 rw [zuw]
 rintro e w1 ⟨u, rfl, hu, how, hb1⟩
 obtain ⟨p3, q3, rfl⟩ := hu.slice
 have HU := zvq hu
 have HOW := zvq how
 have HK := zvq ((hb1.block _ (show w.heap.size + 1 + 1 < w0.heap.size by have := H3.out.2.2.2; omega)).trans H3.out.2.2.1)
 have hsz : w.heap.size + 3 ≤ w0.heap.size := by have := H3.out.2.2.2; omega
 have HB1 := zvr HB0 hb1
 clear hu how hb1
 obtain ⟨r, hr⟩ : ∃ r, r = V.opP V.andF n a m b := ⟨_, rfl⟩
 rw [← hr] at HU HOW ⊢
 have HR := zvq hr
 clear hr
 obtain ⟨k1, l1, c1⟩ := r
 unfold setV
 go_wp2_with (first | (refine zi rfl 32 _ _ rfl (w.heap.size + 1 + 1) #[.int .i64 0, .slice none 0 0] _ HK.out rfl #[.int .i64 k1, .slice p3 l1.length q3] rfl rfl (by kernel_rfl) (zt _ _ _ _) ?_; intro W2 hp2; have z0 : W2.cell? ⟨w.heap.size + 1 + 1, 0, none⟩ = some (.int .i64 k1) := zvp hp2.here 0; have z1 : W2.cell? ⟨w.heap.size + 1 + 1, 1, none⟩ = some (.slice p3 l1.length q3) := zvp hp2.here 1) | fail)
 have HIV : Hid (Itvs W2 (.slice p3 l1.length q3) l1) := zvq (hp2.itvs HU.out (fun c hc => by have := HOW.out c hc; omega))
 have HBF := zvq (hp2.below HB1.out (by omega))
 clear hp2
 exact bodyPost_ret (v := .tuple #[.agg #[.int .i64 k1, .slice p3 l1.length q3], .int .i64 c1]) (by simp [results, Tryz.results102, go_sem, z0, z1]) rfl (by rw [← HR.out]; exact ⟨_, rfl, HIV.out, (fun c hc => by have := HOW.out c hc; omega), HBF.out⟩)
open Go.RowKit
theorem zaf {n : Int} {l : List V.Itv} (h : V.Ok n l) : Lens l := fun x hx => by
 have hb := h.bnd x hx
 unfold V.zj at hb
 rw [Bool.and_eq_true] at hb
 have h1 := (vi hb.1).2
 have h2 := (vi hb.2).2
 unfold maxLen
 omega
theorem zge (n : Int) (s : V.Bs) (w : World) (hm : zg w) (hn : V.scheme n = true) (hs : s.length ≤ 100000) :
  Calls Tryz.prog 72 #[.int .i64 n, .string ⟨s.toArray⟩] w (yh n (V.altP n s) w) := by
 have HN := zvq hn
 have HM := zvq hm
 have HLS := zvq hs
 have HF : Hid (V.altP n s = if s = V.zcu then some [] else if s = [42] then some [V.noI] else V.xn n [V.noI] (V.zd 32 s)) := zvq rfl
 have HSZ : Hid ((ByteArray.mk s.toArray).size ≤ 100000) := zvq (by simpa [ByteArray.size] using hs)
 have HSD : Hid ((ByteArray.mk s.toArray).data.toList = s) := zvq rfl
 have hb0 : Below w.heap.size w (w.alloc (.cells #[.int .i64 0, .slice none 0 0] 32)) := (zvt _ w).alloc (zvs _) _
 have K0 : Hid ((w.alloc (.cells #[.int .i64 0, .slice none 0 0] 32)).heap[w.heap.size]? = some (.cells #[.int .i64 0, .slice none 0 0] 32 (0, 0))) := zvq (by rw [heap_alloc, if_pos rfl])
 have HB0 := zvq hb0
 clear hb0 hm hs hn
 generalize (ByteArray.mk s.toArray) = S at *
 obtain ⟨W0, hW0⟩ : ∃ W0, W0 = (w.alloc (.cells #[.int .i64 0, .slice none 0 0] 32)).alloc (.cells #[.string ⟨#[]⟩, .int .i64 0, .string ⟨#[]⟩, .int .i64 0] 87) := ⟨_, rfl⟩
 obtain ⟨W1, hW1⟩ : ∃ W1, W1 = W0.alloc (.cells #[.int .i64 n, .slice (some ⟨w.heap.size + 1, 0, none⟩) 1 1] 32) := ⟨_, rfl⟩
 have hz0 : W0.heap.size = w.heap.size + 2 := by rw [hW0]; simp
 have hI : W0.heap[w.heap.size + 1]? = some (.cells (itvC V.noI) 87 (0, 0)) := by rw [hW0, heap_alloc, if_pos (by simp)]; rfl
 have hb1 : Below W0.heap.size W0 W1 := by rw [hW1]; exact (zvt _ _).alloc (zvs _) _
 have hB1 : Below w.heap.size w W1 := by rw [hW1, hW0]; exact ((HB0.out.alloc (by simp) _).alloc (by simp; omega) _)
 have hR1 : W1.heap[w.heap.size]? = some (.cells #[.int .i64 0, .slice none 0 0] 32 (0, 0)) := by rw [hW1, heap_alloc, if_neg (by omega), hW0, heap_alloc, if_neg (by simp)]; exact K0.out
 have hX1 : W1.heap[w.heap.size + 2]? = some (.cells #[.int .i64 n, .slice (some ⟨w.heap.size + 1, 0, none⟩) 1 1] 32 (0, 0)) := by rw [hW1, heap_alloc, if_pos (by omega)]
 have hz1 : W1.heap.size = w.heap.size + 3 := by rw [hW1]; simp; omega
 have hS1 : Itvs W1 (.slice (some ⟨w.heap.size + 1, 0, none⟩) 1 1) [V.noI] := (zjh hI).below hb1
 have HW1 : Hid (((w.alloc (.cells #[.int .i64 0, .slice none 0 0] 32)).alloc (.cells #[.string ⟨#[]⟩, .int .i64 0, .string ⟨#[]⟩, .int .i64 0] 87)).alloc (.cells #[.int .i64 n, .slice (some ⟨w.heap.size + 1, 0, none⟩) 1 1] 32) = W1) := zvq (by rw [hW1, hW0])
 have HB1 := zvq hB1
 have HR1 := zvq hR1
 have HX1 := zvq hX1
 have HZ1 := zvq hz1
 have HS1 := zvq hS1
 clear hW0 hW1 hz0 hI hb1 hB1 hR1 hX1 hz1 hS1
 by_cases h1 : s = V.zcu
 ·have HT : (S.toList == [110, 111, 110, 101]) = true := by rw [ByteArray.toList_eq, HSD.out, h1]; rfl
  have HR : Hid (V.altP n s = some []) := zvq (by rw [HF.out, if_pos h1])
  clear h1
  go_enter Tryz.func72, Tryz.ntmps72
  go_wp2_with (first
    | (refine zad rfl 30 _ _ rfl (w.heap.size + 1 + 1) 1 #[.int .i64 n, .slice (some ⟨w.heap.size + 1, 0, none⟩) 1 1] _ (by rw [HW1.out]; exact HX1.out) (by simp) rfl (.slice none 0 0) rfl zdt rfl ?_; rw [HW1.out]; intro W5 hp5; have x0 : W5.cell? ⟨w.heap.size + 1 + 1, 0, none⟩ = some (.int .i64 n) := zvp hp5.here 0; have x1 : W5.cell? ⟨w.heap.size + 1 + 1, 1, none⟩ = some (.slice none 0 0) := zvp hp5.here 1; have HK5 := zvq (hp5.other HR1.out (by omega)); have HB5 := zvq (hp5.below HB1.out (by omega)); clear hp5)
    | (refine zi rfl 32 _ _ rfl w.heap.size #[.int .i64 0, .slice none 0 0] _ HK5.out rfl #[.int .i64 n, .slice none 0 0] rfl rfl (by kernel_rfl) (zt _ _ _ _) ?_; intro W2 hp2; have z0 : W2.cell? ⟨w.heap.size, 0, none⟩ = some (.int .i64 n) := zvp hp2.here 0; have z1 : W2.cell? ⟨w.heap.size, 1, none⟩ = some (.slice none 0 0) := zvp hp2.here 1)
    | fail)
  have HBF := zvq (hp2.below HB5.out (zvs _))
  clear hp2
  exact bodyPost_ret (v := .tuple #[.agg #[.int .i64 n, .slice none 0 0], .bool true]) (by simp [results, Tryz.results72, go_sem, z0, z1]) rfl (yh.yes HR.out HBF.out (Itvs.nil _) (fun c hc => by cases hc))
 ·have HT : (S.toList == [110, 111, 110, 101]) = false := by rw [zvu, ByteArray.toList_eq, HSD.out]; exact h1
  have HF1 : Hid (V.altP n s = if s = [42] then some [V.noI] else V.xn n [V.noI] (V.zd 32 s)) := zvq (by rw [HF.out, if_neg h1])
  clear h1
  go_enter Tryz.func72, Tryz.ntmps72
  by_cases h2 : s = [42]
  ·have HT2 : (S.toList == [42]) = true := by rw [ByteArray.toList_eq, HSD.out, h2]; rfl
   have HR : Hid (V.altP n s = some [V.noI]) := zvq (by rw [HF1.out, if_pos h2])
   clear h2
   go_wp2_with (first | (refine zi rfl 32 _ _ rfl w.heap.size #[.int .i64 0, .slice none 0 0] _ (by rw [HW1.out]; exact HR1.out) rfl #[.int .i64 n, .slice (some ⟨w.heap.size + 1, 0, none⟩) 1 1] rfl rfl (by kernel_rfl) (zt _ _ _ _) ?_; rw [HW1.out]; intro W2 hp2; have z0 : W2.cell? ⟨w.heap.size, 0, none⟩ = some (.int .i64 n) := zvp hp2.here 0; have z1 : W2.cell? ⟨w.heap.size, 1, none⟩ = some (.slice (some ⟨w.heap.size + 1, 0, none⟩) 1 1) := zvp hp2.here 1) | fail)
   have HBF := zvq (hp2.below HB1.out (zvs _))
   have HIV := zvq (hp2.itvs HS1.out (fun c hc => by simp [Value.ownBlock] at hc; omega))
   clear hp2
   exact bodyPost_ret (v := .tuple #[.agg #[.int .i64 n, .slice (some ⟨w.heap.size + 1, 0, none⟩) 1 1], .bool true]) (by simp [results, Tryz.results72, go_sem, z0, z1]) rfl (yh.yes HR.out HBF.out HIV.out (fun c hc => by simp [Value.ownBlock] at hc; omega))
  ·have HT2 : (S.toList == [42]) = false := by rw [zvu, ByteArray.toList_eq, HSD.out]; exact h2
   have HF2 : Hid (V.altP n s = V.xn n [V.noI] (V.zd 32 s)) := zvq (by rw [HF1.out, if_neg h2])
   have HPL : Hid (∀ x ∈ V.zd 32 s, x.length ≤ 100000) := zvq (fun x hx => Nat.le_trans (kb 32 s x hx) HLS.out)
   have HLL : Hid ((V.zd 32 s).length ≤ 100001) := zvq (Nat.le_trans (jm 32 s) (by have := HLS.out; omega))
   clear h2
   go_wp2_with fail
   rw [HW1.out]
   refine (kn S 32 W1 (HM.out.below HB1.out) (by have := HSZ.out; omega)).mono ?_
   rintro e W2 ⟨rfl, hW2⟩
   rw [HSD.out] at hW2 ⊢
   have hb2 : Below W1.heap.size W1 W2 := by rw [hW2]; exact (zvt _ _).alloc (zvs _) _
   have hINV : AltInv n w w.heap.size (w.heap.size + 2) W1.heap.size (V.zd 32 s) [V.noI] (.slice (some ⟨w.heap.size + 1, 0, none⟩) 1 1) W2 := by
    exact zy2
   have HINV := zvq hINV
   have hz1 : W1.heap.size = w.heap.size + 3 := HZ1.out
   have hz2 : W2.heap.size = w.heap.size + 4 := by rw [hW2]; simp; omega
   have hll : (V.zd 32 s).length ≤ 100001 := HLL.out
   clear hb2 hINV hW2
   rw [hz1] at HINV ⊢
   clear hz1
   have HZ2 := zvq hz2
   clear hz2
   have HNEQ : Hid (V.altP n s = V.xn n [V.noI] ((V.zd 32 s).drop 0)) := zvq HF2.out
   generalize V.zd 32 s = L at *
   go_wp2_with fail
   go_loopw [8] (fun iv wx => ∃ (k : Nat) (out : List V.Itv) (u : Value), k ≤ L.length /\ iv = .int .i64 k /\ V.altP n s = V.xn n out (L.drop k) /\ AltInv n w w.heap.size (w.heap.size + 2) (w.heap.size + 3) L out u wx) (fun iv _ => L.length - (intOf iv).toNat)
   case atStart => exact ⟨0, _, _, Nat.zero_le _, rfl, HNEQ.out, HINV.out⟩
   case round =>
    obtain ⟨k, out, u, hk, rfl, heq, hinv⟩ := hrel
    have HE := zvq heq
    have HI := zvq hinv
    obtain ⟨p, q, rfl⟩ := hinv.set.slice
    clear heq hinv
    have x0 : wr.cell? ⟨w.heap.size + 1 + 1, 0, none⟩ = some (.int .i64 n) := zvp HI.out.box 0
    have x1 : wr.cell? ⟨w.heap.size + 1 + 1, 1, none⟩ = some (.slice p out.length q) := zvp HI.out.box 1
    by_cases hlt : k < L.length
    ·have hc := HI.out.txt k hlt
     have hi1 : (0 : Int) ≤ (k : Int) := by omega
     have hi2 : (k : Int) < (L.length : Int) := by omega
     have HLX := zvq (HPL.out _ (List.getElem_mem hlt))
     have HST := zvq (fun (y : V.Itv) hy => zjl (n := n) (out := out) (y := y) hlt hy)
     have HNO := zvq (fun hy => zj7 (n := n) (out := out) hlt hy)
     generalize L[k] = x at *
     go_wp2_with fail
     refine (ziy n x wr (HM.out.below HI.out.below) HLX.out).mono ?_
     rintro e w2 ⟨y, b, rfl, hor, hb2⟩
     have HOR := zvq hor
     have HI2 := zvq (HI.out.later hb2)
     clear hor hb2 hc x0 x1
     have x0 : w2.cell? ⟨w.heap.size + 1 + 1, 0, none⟩ = some (.int .i64 n) := zvp HI2.out.box 0
     have x1 : w2.cell? ⟨w.heap.size + 1 + 1, 1, none⟩ = some (.slice p out.length q) := zvp HI2.out.box 1
     unfold itvV
     rcases b with _ | _
     ·have HR : Hid (V.altP n s = none) := zvq (by
        rcases HOR.out with ⟨_, h⟩ | ⟨h, _⟩
        · rw [HE.out, HNO.out h]
        · cases h)
      have HBY := zvq ((zvt w2.heap.size w2).alloc (zvs _) (.cells (itvC y) 87))
      go_wp2_with (first | (refine zi rfl 32 _ _ rfl w.heap.size #[.int .i64 0, .slice none 0 0] _ (HI2.out.later HBY.out).res rfl #[.int .i64 0, .slice none 0 0] rfl rfl (by kernel_rfl) (zt _ _ _ _) ?_; intro W5 hp5; have z0 : W5.cell? ⟨w.heap.size, 0, none⟩ = some (.int .i64 0) := zvp hp5.here 0; have z1 : W5.cell? ⟨w.heap.size, 1, none⟩ = some (.slice none 0 0) := zvp hp5.here 1) | fail)
      have HBF := zvq (hp5.below (HI2.out.later HBY.out).below (zvs _))
      clear hp5
      exact bodyPost_ret (v := .tuple #[.agg #[.int .i64 0, .slice none 0 0], .bool false]) (by simp [results, Tryz.results72, go_sem, z0, z1]) rfl (by rw [HR.out]; exact yh.no HBF.out)
     ·have HC : Hid (V.jp n x = some y) := zvq (by
        rcases HOR.out with ⟨h, _⟩ | ⟨_, h⟩
        · cases h
        · exact h)
      have HOK := zvq (V.zkd HN.out HC.out)
      have hbY : Below w2.heap.size w2 ((w2.alloc (.cells (itvC y) 87)).alloc (.cells (itvC y) 87)) := ((zvt _ _).alloc (zvs _) _).alloc (by simp) _
      have HY : Hid (((w2.alloc (.cells (itvC y) 87)).alloc (.cells (itvC y) 87)).heap[w2.heap.size + 1]? = some (.cells (itvC y) 87 (0, 0))) := zvq (by rw [heap_alloc, if_pos (by simp)])
      have HI4 := zvq (HI2.out.later hbY)
      have HZ4 : Hid (((w2.alloc (.cells (itvC y) 87)).alloc (.cells (itvC y) 87)).heap.size = w2.heap.size + 2) := zvq (by simp)
      have hb3 : Below w2.heap.size w2 (w2.alloc (.cells (itvC y) 87)) := (zvt _ _).alloc (zvs _) _
      have y0 : (w2.alloc (.cells (itvC y) 87)).cell? ⟨w.heap.size + 1 + 1, 0, none⟩ = some (.int .i64 n) := za hb3 x0
      have y1 : (w2.alloc (.cells (itvC y) 87)).cell? ⟨w.heap.size + 1 + 1, 1, none⟩ = some (.slice p out.length q) := za hb3 x1
      clear hb3 x0 x1
      unfold itvC at y0 y1
      have HS2 : Hid (w.heap.size + 2 < w2.heap.size) := zvq ((Array.getElem?_eq_some_iff.1 HI2.out.box).1)
      clear hbY
      go_wp2_with fail
      refine (ziv n n (.slice p out.length q) (.slice (some ⟨w2.heap.size + 1, 0, none⟩) 1 1) out [y] ((w2.alloc (.cells (itvC y) 87)).alloc (.cells (itvC y) 87)) (HM.out.below HI4.out.below) HI4.out.set (zjh HY.out) (zaf HI4.out.one.ok) (zaf HOK.out) (by have := HI4.out.one.one; unfold maxLen; omega) (by unfold maxLen; simp)).mono ?_
      rintro e w5 ⟨u5, rfl, hu5, how5, hb5⟩
      have HOP := zvq (V.opP_few V.andF HI4.out.one.few (V.One.few ⟨HOK.out, by simp⟩) (by omega))
      rw [HOP.out] at hu5 ⊢
      simp only at hu5 ⊢
      exact zww
    ·obtain rfl : k = L.length := by omega
     have HR : Hid (V.altP n s = some out) := zvq (by rw [HE.out, List.drop_length]; rfl)
     go_wp2_with (first | (refine zi rfl 32 _ _ rfl w.heap.size #[.int .i64 0, .slice none 0 0] _ HI.out.res rfl #[.int .i64 n, .slice p out.length q] rfl rfl (by kernel_rfl) (zt _ _ _ _) ?_; intro W5 hp5; have z0 : W5.cell? ⟨w.heap.size, 0, none⟩ = some (.int .i64 n) := zvp hp5.here 0; have z1 : W5.cell? ⟨w.heap.size, 1, none⟩ = some (.slice p out.length q) := zvp hp5.here 1) | fail)
     have HBF := zvq (hp5.below HI.out.below (zvs _))
     have HIV := zvq (hp5.itvs HI.out.set (fun c hc => (HI.out.own c hc).2.2))
     clear hp5
     exact bodyPost_ret (v := .tuple #[.agg #[.int .i64 n, .slice p out.length q], .bool true]) (by simp [results, Tryz.results72, go_sem, z0, z1]) rfl (yh.yes HR.out HBF.out HIV.out (fun c hc => (HI.out.own c hc).1))
end Go.Proofs.YtiloljoancdcbaaGreatDoor
