import Derived.Test.YtcfbkcapbbhmpaaGreatDoorC39x19
import Derived.Test.YtcfbkcapbbhmpaaGreatDoorC39x21
import Derived.Test.YtcfbkcapbbhmpaaGreatDoorC39x12
import Derived.Test.YtcfbkcapbbhmpaaGreatDoorC39x14
set_option linter.all false
set_option maxRecDepth 100000
set_option maxHeartbeats 6400000
namespace Go.Proofs.YtcfbkcapbbhmpaaGreatDoor
open Go.RowKit
theorem zrl (n m : Int) (va vb : Value) (a b : List V.Itv) (w : World) (hm : zg w) (hva : Itvs w va a) (hvb : Itvs w vb b) (hsa : Lens a) (hsb : Lens b) (hla : a.length ≤ maxLen) (hlb : b.length ≤ maxLen) :
  Calls Tryz.prog 111 #[setV n va, setV m vb] w (ju (V.opP V.orF n a m b) w) := by
 have HVA := zwe hva
 have HVB := zwe hvb
 obtain ⟨aa, ac, rfl⟩ := hva.slice
 obtain ⟨ba, bc, rfl⟩ := hvb.slice
 have HSA := zwe hsa
 have HSB := zwe hsb
 have HLA := zwe hla
 have HLB := zwe hlb
 have H3 := zwe (xr w (.cells #[.int .i64 n, .slice aa a.length ac] 45) (.cells #[.int .i64 m, .slice ba b.length bc] 45) (.cells #[.int .i64 0, .slice none 0 0] 45))
 have hb0 : Below w.heap.size w (((w.alloc (.cells #[.int .i64 n, .slice aa a.length ac] 45)).alloc (.cells #[.int .i64 m, .slice ba b.length bc] 45)).alloc (.cells #[.int .i64 0, .slice none 0 0] 45)) := (((zwh _ _).alloc (zwg _) _).alloc (by simp) _).alloc (by simp; omega) _
 have HB0 := zwe hb0
 have HM0 := zwe (hm.below hb0)
 clear hva hvb hsa hsb hla hlb hm hb0
 unfold setV
 go_enter Tryz.func111, Tryz.ntmps111
 go_wp2_with fail
 generalize ((w.alloc (.cells #[.int .i64 n, .slice aa a.length ac] 45)).alloc (.cells #[.int .i64 m, .slice ba b.length bc] 45)).alloc (.cells #[.int .i64 0, .slice none 0 0] 45) = w0 at *
 refine (zm4 n m (.slice aa a.length ac) (.slice ba b.length bc) a b 142 V.orF w0 HM0.out (HVA.out.below HB0.out) (HVB.out.below HB0.out) HSA.out HSB.out HLA.out HLB.out (enters_of Tryz.func142 (by kernel_rfl) rfl) (fun x y W => zv6 x y W)).mono ?_
 rintro e w1 ⟨u, rfl, hu, how, hb1⟩
 obtain ⟨p3, q3, rfl⟩ := hu.slice
 have HU := zwe hu
 have HOW := zwe how
 have HK := zwe ((hb1.block _ (show w.heap.size + 1 + 1 < w0.heap.size by have := H3.out.2.2.2; omega)).trans H3.out.2.2.1)
 have hsz : w0.heap.size = w.heap.size + 3 := H3.out.2.2.2
 have HB1 := zwf HB0 hb1
 clear hu how hb1
 obtain ⟨r, hr⟩ : ∃ r, r = V.opP V.orF n a m b := ⟨_, rfl⟩
 rw [← hr] at HU HOW ⊢
 have HR := zwe hr
 clear hr
 obtain ⟨k1, l1, c1⟩ := r
 unfold setV
 go_wp2_with (first | (refine zi rfl 45 _ _ rfl (w.heap.size + 1 + 1) #[.int .i64 0, .slice none 0 0] _ HK.out rfl #[.int .i64 k1, .slice p3 l1.length q3] rfl rfl (by kernel_rfl) (zt _ _ _ _) ?_; intro W2 hp2; have z0 : W2.cell? ⟨w.heap.size + 1 + 1, 0, none⟩ = some (.int .i64 k1) := zwd hp2.here 0; have z1 : W2.cell? ⟨w.heap.size + 1 + 1, 1, none⟩ = some (.slice p3 l1.length q3) := zwd hp2.here 1) | fail)
 have HIV : Hid (Itvs W2 (.slice p3 l1.length q3) l1) := zwe (hp2.itvs HU.out (fun c hc => by have := HOW.out c hc; omega))
 have HBF := zwe (hp2.below HB1.out (by omega))
 clear hp2
 exact bodyPost_ret (v := .tuple #[.agg #[.int .i64 k1, .slice p3 l1.length q3], .int .i64 c1]) (by simp [results, Tryz.results111, go_sem, z0, z1]) rfl (by rw [← HR.out]; exact ⟨_, rfl, HIV.out, (fun c hc => by have := HOW.out c hc; omega), HBF.out⟩)
theorem holdF_or : ks 1 = V.orF := by funext a b; cases a <;> cases b <;> rfl
theorem zvn : ks 2 = V.andF := by funext a b; cases a <;> cases b <;> rfl
theorem zzo {P : Prop} (h : P := by
 clear hp2
 exact bodyPost_ret (v := .tuple #[.agg #[.int .i64 0, .slice none 0 0], .int .i64 1]) (by simp [results, Tryz.results86, go_sem, z0, z1]) rfl (by rw [HR.out]; exact ju.zero HBF.out _)) : P := h
theorem zfj (o n m : Int) (va vb : Value) (a b : List V.Itv) (w : World) (hm : zg w) (hva : Itvs w va a) (hvb : Itvs w vb b) (hsa : Lens a) (hsb : Lens b) (hla : a.length ≤ maxLen) (hlb : b.length ≤ maxLen) :
  Calls Tryz.prog 86 #[.int .i64 o, setV n va, setV m vb] w (ju (V.opP (ks o) n a m b) w) := by
 have HVA := zwe hva
 have HVB := zwe hvb
 obtain ⟨aa, ac, rfl⟩ := hva.slice
 obtain ⟨ba, bc, rfl⟩ := hvb.slice
 have HSA := zwe hsa
 have HSB := zwe hsb
 have HLA := zwe hla
 have HLB := zwe hlb
 have HF : Hid (V.opP (ks o) n a m b = if V.chkP n a m b = 0 then V.limP n (V.opL n (ks o) a b) else (0, [], V.chkP n a m b)) := zwe rfl
 have HCH : Hid (V.chkP n a m b = if V.okR n a && V.okR m b then (if n = m then 0 else 14) else 1) := zwe rfl
 have H3 := zwe (xr w (.cells #[.int .i64 n, .slice aa a.length ac] 45) (.cells #[.int .i64 m, .slice ba b.length bc] 45) (.cells #[.int .i64 0, .slice none 0 0] 45))
 have hb0 : Below w.heap.size w (((w.alloc (.cells #[.int .i64 n, .slice aa a.length ac] 45)).alloc (.cells #[.int .i64 m, .slice ba b.length bc] 45)).alloc (.cells #[.int .i64 0, .slice none 0 0] 45)) := (((zwh _ _).alloc (zwg _) _).alloc (by simp) _).alloc (by simp; omega) _
 have HB0 := zwe hb0
 have HM0 := zwe (hm.below hb0)
 clear hva hvb hsa hsb hla hlb hm hb0
 unfold setV
 go_enter Tryz.func86, Tryz.ntmps86
 go_wp2_with fail
 generalize (((w.alloc (.cells #[.int .i64 n, .slice aa a.length ac] 45)).alloc (.cells #[.int .i64 m, .slice ba b.length bc] 45)).alloc (.cells #[.int .i64 0, .slice none 0 0] 45)) = w0 at *
 have KA := H3.out.1
 have KB := H3.out.2.1
 have KC := H3.out.2.2.1
 refine (zb9 n (.slice aa a.length ac) a w0 HM0.out (HVA.out.below HB0.out) HSA.out HLA.out).mono ?_
 rintro e w1 ⟨rfl, hb1⟩
 have K0 := (hb1.block _ (Array.getElem?_eq_some_iff.1 KA).1).trans KA
 have K1 := (hb1.block _ (Array.getElem?_eq_some_iff.1 KB).1).trans KB
 have K2 := (hb1.block _ (Array.getElem?_eq_some_iff.1 KC).1).trans KC
 have HK := zwe (And.intro K0 (And.intro K1 K2))
 have HB1 := zwf HB0 hb1
 have HM1 := zwe (HM0.out.below hb1)
 have hc0 : w1.cell? ⟨w.heap.size, 0, none⟩ = some (.int .i64 n) := zwd K0 0
 have hc1 : w1.cell? ⟨w.heap.size, 1, none⟩ = some (.slice aa a.length ac) := zwd K0 1
 have hd0 : w1.cell? ⟨w.heap.size + 1, 0, none⟩ = some (.int .i64 m) := zwd K1 0
 have hd1 : w1.cell? ⟨w.heap.size + 1, 1, none⟩ = some (.slice ba b.length bc) := zwd K1 1
 clear hb1 K0 K1 K2 KA KB KC
 rcases hok : V.okR n a with _ | _
 ·have HCZ : V.chkP n a m b = 1 := by rw [HCH.out, hok]; rfl
  have HR : Hid (V.opP (ks o) n a m b = (0, [], 1)) := zwe (by rw [HF.out, HCZ]; rfl)
  clear hok HCZ
  go_wp2_with (first | (refine zi rfl 45 _ _ rfl (w.heap.size + 1 + 1) #[.int .i64 0, .slice none 0 0] _ HK.out.2.2 rfl #[.int .i64 0, .slice none 0 0] rfl rfl (by kernel_rfl) (zt _ _ _ _) ?_; intro W2 hp2; have z0 : W2.cell? ⟨w.heap.size + 1 + 1, 0, none⟩ = some (.int .i64 0) := zwd hp2.here 0; have z1 : W2.cell? ⟨w.heap.size + 1 + 1, 1, none⟩ = some (.slice none 0 0) := zwd hp2.here 1) | fail)
  have HBF := zwe (hp2.below HB1.out (by omega))
  exact zzo
 ·have HOK := zwe hok
  clear hok
  go_wp2_with fail
  refine (zb9 m (.slice ba b.length bc) b w1 HM1.out (HVB.out.below HB1.out) HSB.out HLB.out).mono ?_
  rintro e w2 ⟨rfl, hb2⟩
  have K0 := (hb2.block _ (Array.getElem?_eq_some_iff.1 HK.out.1).1).trans HK.out.1
  have K1 := (hb2.block _ (Array.getElem?_eq_some_iff.1 HK.out.2.1).1).trans HK.out.2.1
  have K2 := (hb2.block _ (Array.getElem?_eq_some_iff.1 HK.out.2.2).1).trans HK.out.2.2
  have HK2 := zwe K2
  have HB2 := zwf HB1 hb2
  have HM2 := zwe (HM1.out.below hb2)
  clear hc0 hc1 hd0 hd1
  have hc0 : w2.cell? ⟨w.heap.size, 0, none⟩ = some (.int .i64 n) := zwd K0 0
  have hc1 : w2.cell? ⟨w.heap.size, 1, none⟩ = some (.slice aa a.length ac) := zwd K0 1
  have hd0 : w2.cell? ⟨w.heap.size + 1, 0, none⟩ = some (.int .i64 m) := zwd K1 0
  have hd1 : w2.cell? ⟨w.heap.size + 1, 1, none⟩ = some (.slice ba b.length bc) := zwd K1 1
  clear hb2 K0 K1 K2
  rcases hok2 : V.okR m b with _ | _
  ·have HCZ : V.chkP n a m b = 1 := by rw [HCH.out, HOK.out, hok2]; rfl
   have HR : Hid (V.opP (ks o) n a m b = (0, [], 1)) := zwe (by rw [HF.out, HCZ]; rfl)
   clear hok2 HCZ
   go_wp2_with (first | (refine zi rfl 45 _ _ rfl (w.heap.size + 1 + 1) #[.int .i64 0, .slice none 0 0] _ HK2.out rfl #[.int .i64 0, .slice none 0 0] rfl rfl (by kernel_rfl) (zt _ _ _ _) ?_; intro W2 hp2; have z0 : W2.cell? ⟨w.heap.size + 1 + 1, 0, none⟩ = some (.int .i64 0) := zwd hp2.here 0; have z1 : W2.cell? ⟨w.heap.size + 1 + 1, 1, none⟩ = some (.slice none 0 0) := zwd hp2.here 1) | fail)
   have HBF := zwe (hp2.below HB2.out (by omega))
   exact zzo
  ·have HOK2 := zwe hok2
   clear hok2
   by_cases hnm : n = m
   ·subst hnm
    have HOA := zwe (V.zab HOK.out)
    have HOB := zwe (V.zab HOK2.out)
    have HLEN := zwe (V.zuh (ks o) HOA.out HOB.out)
    have HR : Hid (V.opP (ks o) n a n b = V.limP n (V.opL n (ks o) a b)) := zwe (by rw [HF.out, if_pos (V.zpy HOA.out HOB.out)])
    go_wp2_with fail
    refine (zm5 o n (.slice aa a.length ac) (.slice ba b.length bc) a b w2 HM2.out HOA.out.sch (HVA.out.below HB2.out) (HVB.out.below HB2.out) HOA.out.bnd HOB.out.bnd (by have := HOA.out.len; omega) (by have := HOB.out.len; omega)).mono ?_
    rintro e w3 ⟨u, rfl, hu, how, hb3⟩
    rw [V.opR_opL (ks o) HOA.out HOB.out] at hu
    obtain ⟨ua, uc, rfl⟩ := hu.slice
    have HU := zwe hu
    have HOW := zwe how
    have HB3 := zwf HB2 hb3
    have HK3 := zwe ((hb3.block _ (Array.getElem?_eq_some_iff.1 HK2.out).1).trans HK2.out)
    have hsz2 : w.heap.size + 1 + 1 < w2.heap.size := (Array.getElem?_eq_some_iff.1 HK2.out).1
    have HSZ2 := zwe hsz2
    have kc0 := za hb3 hc0
    clear hu how hb3 hc0 hc1 hd0 hd1
    by_cases h32 : 32 < (V.opL n (ks o) a b).length
    ·have HR2 : Hid (V.opP (ks o) n a n b = (0, [], 3)) := zwe (by rw [HR.out]; unfold V.limP; rw [if_neg (by omega)])
     go_wp2_with (first | (refine zi rfl 45 _ _ rfl (w.heap.size + 1 + 1) #[.int .i64 0, .slice none 0 0] _ HK3.out rfl #[.int .i64 0, .slice none 0 0] rfl rfl (by kernel_rfl) (zt _ _ _ _) ?_; intro W2 hp2; have z0 : W2.cell? ⟨w.heap.size + 1 + 1, 0, none⟩ = some (.int .i64 0) := zwd hp2.here 0; have z1 : W2.cell? ⟨w.heap.size + 1 + 1, 1, none⟩ = some (.slice none 0 0) := zwd hp2.here 1) | fail)
     have HBF := zwe (hp2.below HB3.out (by omega))
     clear hp2
     exact bodyPost_ret (v := .tuple #[.agg #[.int .i64 0, .slice none 0 0], .int .i64 3]) (by simp [results, Tryz.results86, go_sem, z0, z1]) rfl (by rw [HR2.out]; exact ju.zero HBF.out _)
    ·have HR2 : Hid (V.opP (ks o) n a n b = (n, V.opL n (ks o) a b, 0)) := zwe (by rw [HR.out]; unfold V.limP; rw [if_pos (by omega)])
     go_wp2_with (first | (refine zi rfl 45 _ _ rfl (w.heap.size + 1 + 1) #[.int .i64 0, .slice none 0 0] _ HK3.out rfl #[.int .i64 n, .slice ua (V.opL n (ks o) a b).length uc] rfl rfl (by kernel_rfl) (zt _ _ _ _) ?_; intro W2 hp2; have z0 : W2.cell? ⟨w.heap.size + 1 + 1, 0, none⟩ = some (.int .i64 n) := zwd hp2.here 0; have z1 : W2.cell? ⟨w.heap.size + 1 + 1, 1, none⟩ = some (.slice ua (V.opL n (ks o) a b).length uc) := zwd hp2.here 1) | fail)
     have HIV : Hid (Itvs W2 (.slice ua (V.opL n (ks o) a b).length uc) (V.opL n (ks o) a b)) := zwe (hp2.itvs HU.out (fun c hc => by have := HOW.out c hc; have := HSZ2.out; omega))
     have HBF := zwe (hp2.below HB3.out (by omega))
     clear hp2
     exact bodyPost_ret (v := .tuple #[.agg #[.int .i64 n, .slice ua (V.opL n (ks o) a b).length uc], .int .i64 0]) (by simp [results, Tryz.results86, go_sem, z0, z1]) rfl (by rw [HR2.out]; exact ⟨_, rfl, HIV.out, (fun c hc => by have := HOW.out c hc; have := HSZ2.out; omega), HBF.out⟩)
   ·have HCZ : V.chkP n a m b = 14 := by rw [HCH.out, HOK.out, HOK2.out]; simp [hnm]
    have HR : Hid (V.opP (ks o) n a m b = (0, [], 14)) := zwe (by rw [HF.out, HCZ]; rfl)
    have hq : (n != m) = true := by simpa using hnm
    clear hnm HCZ
    go_wp2_with (first | (refine zi rfl 45 _ _ rfl (w.heap.size + 1 + 1) #[.int .i64 0, .slice none 0 0] _ HK2.out rfl #[.int .i64 0, .slice none 0 0] rfl rfl (by kernel_rfl) (zt _ _ _ _) ?_; intro W2 hp2; have z0 : W2.cell? ⟨w.heap.size + 1 + 1, 0, none⟩ = some (.int .i64 0) := zwd hp2.here 0; have z1 : W2.cell? ⟨w.heap.size + 1 + 1, 1, none⟩ = some (.slice none 0 0) := zwd hp2.here 1) | fail)
    have HBF := zwe (hp2.below HB2.out (by omega))
    clear hp2
    exact bodyPost_ret (v := .tuple #[.agg #[.int .i64 0, .slice none 0 0], .int .i64 14]) (by simp [results, Tryz.results86, go_sem, z0, z1]) rfl (by rw [HR.out]; exact ju.zero HBF.out _)
theorem zia (n m : Int) (va vb : Value) (a b : List V.Itv) (w : World) (hm : zg w) (hva : Itvs w va a) (hvb : Itvs w vb b) (hsa : Lens a) (hsb : Lens b) (hla : a.length ≤ maxLen) (hlb : b.length ≤ maxLen) :
  Calls Tryz.prog 58 #[setV n va, setV m vb] w (ju (V.opP V.orF n a m b) w) := by
 have HVA := zwe hva
 have HVB := zwe hvb
 obtain ⟨aa, ac, rfl⟩ := hva.slice
 obtain ⟨ba, bc, rfl⟩ := hvb.slice
 have HSA := zwe hsa
 have HSB := zwe hsb
 have HLA := zwe hla
 have HLB := zwe hlb
 have H3 := zwe (xr w (.cells #[.int .i64 n, .slice aa a.length ac] 45) (.cells #[.int .i64 m, .slice ba b.length bc] 45) (.cells #[.int .i64 0, .slice none 0 0] 45))
 have hb0 : Below w.heap.size w (((w.alloc (.cells #[.int .i64 n, .slice aa a.length ac] 45)).alloc (.cells #[.int .i64 m, .slice ba b.length bc] 45)).alloc (.cells #[.int .i64 0, .slice none 0 0] 45)) := (((zwh _ _).alloc (zwg _) _).alloc (by simp) _).alloc (by simp; omega) _
 have HB0 := zwe hb0
 have HM0 := zwe (hm.below hb0)
 clear hva hvb hsa hsb hla hlb hm hb0
 unfold setV
 go_enter Tryz.func58, Tryz.ntmps58
 go_wp2_with fail
 generalize (((w.alloc (.cells #[.int .i64 n, .slice aa a.length ac] 45)).alloc (.cells #[.int .i64 m, .slice ba b.length bc] 45)).alloc (.cells #[.int .i64 0, .slice none 0 0] 45)) = w0 at *
 refine (zfj 1 n m (.slice aa a.length ac) (.slice ba b.length bc) a b w0 HM0.out (HVA.out.below HB0.out) (HVB.out.below HB0.out) HSA.out HSB.out HLA.out HLB.out).mono ?_
 rw [holdF_or]
 rintro e w1 ⟨u, rfl, hu, how, hb1⟩
 obtain ⟨p3, q3, rfl⟩ := hu.slice
 have HU := zwe hu
 have HOW := zwe how
 have HK := zwe ((hb1.block _ (show w.heap.size + 1 + 1 < w0.heap.size by have := H3.out.2.2.2; omega)).trans H3.out.2.2.1)
 have hsz : w.heap.size + 3 ≤ w0.heap.size := by have := H3.out.2.2.2; omega
 have HB1 := zwf HB0 hb1
 clear hu how hb1
 obtain ⟨r, hr⟩ : ∃ r, r = V.opP V.orF n a m b := ⟨_, rfl⟩
 rw [← hr] at HU HOW ⊢
 have HR := zwe hr
 clear hr
 obtain ⟨k1, l1, c1⟩ := r
 unfold setV
 go_wp2_with (first | (refine zi rfl 45 _ _ rfl (w.heap.size + 1 + 1) #[.int .i64 0, .slice none 0 0] _ HK.out rfl #[.int .i64 k1, .slice p3 l1.length q3] rfl rfl (by kernel_rfl) (zt _ _ _ _) ?_; intro W2 hp2; have z0 : W2.cell? ⟨w.heap.size + 1 + 1, 0, none⟩ = some (.int .i64 k1) := zwd hp2.here 0; have z1 : W2.cell? ⟨w.heap.size + 1 + 1, 1, none⟩ = some (.slice p3 l1.length q3) := zwd hp2.here 1) | fail)
 have HIV : Hid (Itvs W2 (.slice p3 l1.length q3) l1) := zwe (hp2.itvs HU.out (fun c hc => by have := HOW.out c hc; omega))
 have HBF := zwe (hp2.below HB1.out (by omega))
 clear hp2
 exact bodyPost_ret (v := .tuple #[.agg #[.int .i64 k1, .slice p3 l1.length q3], .int .i64 c1]) (by simp [results, Tryz.results58, go_sem, z0, z1]) rfl (by rw [← HR.out]; exact ⟨_, rfl, HIV.out, (fun c hc => by have := HOW.out c hc; omega), HBF.out⟩)
theorem zja (n m : Int) (va vb : Value) (a b : List V.Itv) (w : World) (hm : zg w) (hva : Itvs w va a) (hvb : Itvs w vb b) (hsa : Lens a) (hsb : Lens b) (hla : a.length ≤ maxLen) (hlb : b.length ≤ maxLen) :
  Calls Tryz.prog 85 #[setV n va, setV m vb] w (ju (V.opP V.andF n a m b) w) := by
 have HVA := zwe hva
 have HVB := zwe hvb
 obtain ⟨aa, ac, rfl⟩ := hva.slice
 obtain ⟨ba, bc, rfl⟩ := hvb.slice
 have HSA := zwe hsa
 have HSB := zwe hsb
 have HLA := zwe hla
 have HLB := zwe hlb
 have H3 := zwe (xr w (.cells #[.int .i64 n, .slice aa a.length ac] 45) (.cells #[.int .i64 m, .slice ba b.length bc] 45) (.cells #[.int .i64 0, .slice none 0 0] 45))
 have hb0 : Below w.heap.size w (((w.alloc (.cells #[.int .i64 n, .slice aa a.length ac] 45)).alloc (.cells #[.int .i64 m, .slice ba b.length bc] 45)).alloc (.cells #[.int .i64 0, .slice none 0 0] 45)) := (((zwh _ _).alloc (zwg _) _).alloc (by simp) _).alloc (by simp; omega) _
 have HB0 := zwe hb0
 have HM0 := zwe (hm.below hb0)
 clear hva hvb hsa hsb hla hlb hm hb0
 unfold setV
 go_enter Tryz.func85, Tryz.ntmps85
 go_wp2_with fail
 generalize (((w.alloc (.cells #[.int .i64 n, .slice aa a.length ac] 45)).alloc (.cells #[.int .i64 m, .slice ba b.length bc] 45)).alloc (.cells #[.int .i64 0, .slice none 0 0] 45)) = w0 at *
 refine (zfj 2 n m (.slice aa a.length ac) (.slice ba b.length bc) a b w0 HM0.out (HVA.out.below HB0.out) (HVB.out.below HB0.out) HSA.out HSB.out HLA.out HLB.out).mono ?_
 rw [zvn]
 rintro e w1 ⟨u, rfl, hu, how, hb1⟩
 obtain ⟨p3, q3, rfl⟩ := hu.slice
 have HU := zwe hu
 have HOW := zwe how
 have HK := zwe ((hb1.block _ (show w.heap.size + 1 + 1 < w0.heap.size by have := H3.out.2.2.2; omega)).trans H3.out.2.2.1)
 have hsz : w.heap.size + 3 ≤ w0.heap.size := by have := H3.out.2.2.2; omega
 have HB1 := zwf HB0 hb1
 clear hu how hb1
 obtain ⟨r, hr⟩ : ∃ r, r = V.opP V.andF n a m b := ⟨_, rfl⟩
 rw [← hr] at HU HOW ⊢
 have HR := zwe hr
 clear hr
 obtain ⟨k1, l1, c1⟩ := r
 unfold setV
 go_wp2_with (first | (refine zi rfl 45 _ _ rfl (w.heap.size + 1 + 1) #[.int .i64 0, .slice none 0 0] _ HK.out rfl #[.int .i64 k1, .slice p3 l1.length q3] rfl rfl (by kernel_rfl) (zt _ _ _ _) ?_; intro W2 hp2; have z0 : W2.cell? ⟨w.heap.size + 1 + 1, 0, none⟩ = some (.int .i64 k1) := zwd hp2.here 0; have z1 : W2.cell? ⟨w.heap.size + 1 + 1, 1, none⟩ = some (.slice p3 l1.length q3) := zwd hp2.here 1) | fail)
 have HIV : Hid (Itvs W2 (.slice p3 l1.length q3) l1) := zwe (hp2.itvs HU.out (fun c hc => by have := HOW.out c hc; omega))
 have HBF := zwe (hp2.below HB1.out (by omega))
 clear hp2
 exact bodyPost_ret (v := .tuple #[.agg #[.int .i64 k1, .slice p3 l1.length q3], .int .i64 c1]) (by simp [results, Tryz.results85, go_sem, z0, z1]) rfl (by rw [← HR.out]; exact ⟨_, rfl, HIV.out, (fun c hc => by have := HOW.out c hc; omega), HBF.out⟩)
open Go.RowKit
theorem ux {n : Int} {l : List V.Itv} (h : V.Ok n l) : Lens l := fun x hx => by
 have hb := h.bnd x hx
 unfold V.zj at hb
 rw [Bool.and_eq_true] at hb
 have h1 := (vt hb.1).2
 have h2 := (vt hb.2).2
 unfold maxLen
 omega
theorem zgq (n : Int) (s : V.Bs) (w : World) (hm : zg w) (hn : V.scheme n = true) (hs : s.length ≤ 100000) :
  Calls Tryz.prog 57 #[.int .i64 n, .string ⟨s.toArray⟩] w (yn n (V.altP n s) w) := by
 have HN := zwe hn
 have HM := zwe hm
 have HLS := zwe hs
 have HF : Hid (V.altP n s = if s = V.zc3 then some [] else if s = [42] then some [V.noI] else V.xo n [V.noI] (V.zd 32 s)) := zwe rfl
 have HSZ : Hid ((ByteArray.mk s.toArray).size ≤ 100000) := zwe (by simpa [ByteArray.size] using hs)
 have HSD : Hid ((ByteArray.mk s.toArray).data.toList = s) := zwe rfl
 have hb0 : Below w.heap.size w (w.alloc (.cells #[.int .i64 0, .slice none 0 0] 45)) := (zwh _ w).alloc (zwg _) _
 have K0 : Hid ((w.alloc (.cells #[.int .i64 0, .slice none 0 0] 45)).heap[w.heap.size]? = some (.cells #[.int .i64 0, .slice none 0 0] 45 (0, 0))) := zwe (by rw [heap_alloc, if_pos rfl])
 have HB0 := zwe hb0
 clear hb0 hm hs hn
 generalize (ByteArray.mk s.toArray) = S at *
 obtain ⟨W0, hW0⟩ : ∃ W0, W0 = (w.alloc (.cells #[.int .i64 0, .slice none 0 0] 45)).alloc (.cells #[.string ⟨#[]⟩, .int .i64 0, .string ⟨#[]⟩, .int .i64 0] 82) := ⟨_, rfl⟩
 obtain ⟨W1, hW1⟩ : ∃ W1, W1 = W0.alloc (.cells #[.int .i64 n, .slice (some ⟨w.heap.size + 1, 0, none⟩) 1 1] 45) := ⟨_, rfl⟩
 have hz0 : W0.heap.size = w.heap.size + 2 := by rw [hW0]; simp
 have hI : W0.heap[w.heap.size + 1]? = some (.cells (itvC V.noI) 82 (0, 0)) := by rw [hW0, heap_alloc, if_pos (by simp)]; rfl
 have hb1 : Below W0.heap.size W0 W1 := by rw [hW1]; exact (zwh _ _).alloc (zwg _) _
 have hB1 : Below w.heap.size w W1 := by rw [hW1, hW0]; exact ((HB0.out.alloc (by simp) _).alloc (by simp; omega) _)
 have hR1 : W1.heap[w.heap.size]? = some (.cells #[.int .i64 0, .slice none 0 0] 45 (0, 0)) := by rw [hW1, heap_alloc, if_neg (by omega), hW0, heap_alloc, if_neg (by simp)]; exact K0.out
 have hX1 : W1.heap[w.heap.size + 2]? = some (.cells #[.int .i64 n, .slice (some ⟨w.heap.size + 1, 0, none⟩) 1 1] 45 (0, 0)) := by rw [hW1, heap_alloc, if_pos (by omega)]
 have hz1 : W1.heap.size = w.heap.size + 3 := by rw [hW1]; simp; omega
 have hS1 : Itvs W1 (.slice (some ⟨w.heap.size + 1, 0, none⟩) 1 1) [V.noI] := (zjw hI).below hb1
 have HW1 : Hid (((w.alloc (.cells #[.int .i64 0, .slice none 0 0] 45)).alloc (.cells #[.string ⟨#[]⟩, .int .i64 0, .string ⟨#[]⟩, .int .i64 0] 82)).alloc (.cells #[.int .i64 n, .slice (some ⟨w.heap.size + 1, 0, none⟩) 1 1] 45) = W1) := zwe (by rw [hW1, hW0])
 have HB1 := zwe hB1
 have HR1 := zwe hR1
 have HX1 := zwe hX1
 have HZ1 := zwe hz1
 have HS1 := zwe hS1
 clear hW0 hW1 hz0 hI hb1 hB1 hR1 hX1 hz1 hS1
 by_cases h1 : s = V.zc3
 ·have HT : (S.toList == [110, 111, 110, 101]) = true := by rw [ByteArray.toList_eq, HSD.out, h1]; rfl
  have HR : Hid (V.altP n s = some []) := zwe (by rw [HF.out, if_pos h1])
  clear h1
  go_enter Tryz.func57, Tryz.ntmps57
  go_wp2_with (first
    | (refine zan rfl 43 _ _ rfl (w.heap.size + 1 + 1) 1 #[.int .i64 n, .slice (some ⟨w.heap.size + 1, 0, none⟩) 1 1] _ (by rw [HW1.out]; exact HX1.out) (by simp) rfl (.slice none 0 0) rfl zd5 rfl ?_; rw [HW1.out]; intro W5 hp5; have x0 : W5.cell? ⟨w.heap.size + 1 + 1, 0, none⟩ = some (.int .i64 n) := zwd hp5.here 0; have x1 : W5.cell? ⟨w.heap.size + 1 + 1, 1, none⟩ = some (.slice none 0 0) := zwd hp5.here 1; have HK5 := zwe (hp5.other HR1.out (by omega)); have HB5 := zwe (hp5.below HB1.out (by omega)); clear hp5)
    | (refine zi rfl 45 _ _ rfl w.heap.size #[.int .i64 0, .slice none 0 0] _ HK5.out rfl #[.int .i64 n, .slice none 0 0] rfl rfl (by kernel_rfl) (zt _ _ _ _) ?_; intro W2 hp2; have z0 : W2.cell? ⟨w.heap.size, 0, none⟩ = some (.int .i64 n) := zwd hp2.here 0; have z1 : W2.cell? ⟨w.heap.size, 1, none⟩ = some (.slice none 0 0) := zwd hp2.here 1)
    | fail)
  have HBF := zwe (hp2.below HB5.out (zwg _))
  clear hp2
  exact bodyPost_ret (v := .tuple #[.agg #[.int .i64 n, .slice none 0 0], .bool true]) (by simp [results, Tryz.results57, go_sem, z0, z1]) rfl (yn.yes HR.out HBF.out (Itvs.nil _) (fun c hc => by cases hc))
 ·have HT : (S.toList == [110, 111, 110, 101]) = false := by rw [zwi, ByteArray.toList_eq, HSD.out]; exact h1
  have HF1 : Hid (V.altP n s = if s = [42] then some [V.noI] else V.xo n [V.noI] (V.zd 32 s)) := zwe (by rw [HF.out, if_neg h1])
  clear h1
  go_enter Tryz.func57, Tryz.ntmps57
  by_cases h2 : s = [42]
  ·have HT2 : (S.toList == [42]) = true := by rw [ByteArray.toList_eq, HSD.out, h2]; rfl
   have HR : Hid (V.altP n s = some [V.noI]) := zwe (by rw [HF1.out, if_pos h2])
   clear h2
   go_wp2_with (first | (refine zi rfl 45 _ _ rfl w.heap.size #[.int .i64 0, .slice none 0 0] _ (by rw [HW1.out]; exact HR1.out) rfl #[.int .i64 n, .slice (some ⟨w.heap.size + 1, 0, none⟩) 1 1] rfl rfl (by kernel_rfl) (zt _ _ _ _) ?_; rw [HW1.out]; intro W2 hp2; have z0 : W2.cell? ⟨w.heap.size, 0, none⟩ = some (.int .i64 n) := zwd hp2.here 0; have z1 : W2.cell? ⟨w.heap.size, 1, none⟩ = some (.slice (some ⟨w.heap.size + 1, 0, none⟩) 1 1) := zwd hp2.here 1) | fail)
   have HBF := zwe (hp2.below HB1.out (zwg _))
   have HIV := zwe (hp2.itvs HS1.out (fun c hc => by simp [Value.ownBlock] at hc; omega))
   clear hp2
   exact bodyPost_ret (v := .tuple #[.agg #[.int .i64 n, .slice (some ⟨w.heap.size + 1, 0, none⟩) 1 1], .bool true]) (by simp [results, Tryz.results57, go_sem, z0, z1]) rfl (yn.yes HR.out HBF.out HIV.out (fun c hc => by simp [Value.ownBlock] at hc; omega))
  ·have HT2 : (S.toList == [42]) = false := by rw [zwi, ByteArray.toList_eq, HSD.out]; exact h2
   have HF2 : Hid (V.altP n s = V.xo n [V.noI] (V.zd 32 s)) := zwe (by rw [HF1.out, if_neg h2])
   have HPL : Hid (∀ x ∈ V.zd 32 s, x.length ≤ 100000) := zwe (fun x hx => Nat.le_trans (kd 32 s x hx) HLS.out)
   have HLL : Hid ((V.zd 32 s).length ≤ 100001) := zwe (Nat.le_trans (jn 32 s) (by have := HLS.out; omega))
   clear h2
   go_wp2_with fail
   rw [HW1.out]
   refine (kp S 32 W1 (HM.out.below HB1.out) (by have := HSZ.out; omega)).mono ?_
   rintro e W2 ⟨rfl, hW2⟩
   rw [HSD.out] at hW2 ⊢
   have hb2 : Below W1.heap.size W1 W2 := by rw [hW2]; exact (zwh _ _).alloc (zwg _) _
   have hINV : AltInv n w w.heap.size (w.heap.size + 2) W1.heap.size (V.zd 32 s) [V.noI] (.slice (some ⟨w.heap.size + 1, 0, none⟩) 1 1) W2 := by
    exact zzk
   have HINV := zwe hINV
   have hz1 : W1.heap.size = w.heap.size + 3 := HZ1.out
   have hz2 : W2.heap.size = w.heap.size + 4 := by rw [hW2]; simp; omega
   have hll : (V.zd 32 s).length ≤ 100001 := HLL.out
   clear hb2 hINV hW2
   rw [hz1] at HINV ⊢
   clear hz1
   have HZ2 := zwe hz2
   clear hz2
   have HNEQ : Hid (V.altP n s = V.xo n [V.noI] ((V.zd 32 s).drop 0)) := zwe HF2.out
   generalize V.zd 32 s = L at *
   go_wp2_with fail
   go_loopw [8] (fun iv wx => ∃ (k : Nat) (out : List V.Itv) (u : Value), k ≤ L.length /\ iv = .int .i64 k /\ V.altP n s = V.xo n out (L.drop k) /\ AltInv n w w.heap.size (w.heap.size + 2) (w.heap.size + 3) L out u wx) (fun iv _ => L.length - (intOf iv).toNat)
   case atStart => exact ⟨0, _, _, Nat.zero_le _, rfl, HNEQ.out, HINV.out⟩
   case round =>
    obtain ⟨k, out, u, hk, rfl, heq, hinv⟩ := hrel
    have HE := zwe heq
    have HI := zwe hinv
    obtain ⟨p, q, rfl⟩ := hinv.set.slice
    clear heq hinv
    have x0 : wr.cell? ⟨w.heap.size + 1 + 1, 0, none⟩ = some (.int .i64 n) := zwd HI.out.box 0
    have x1 : wr.cell? ⟨w.heap.size + 1 + 1, 1, none⟩ = some (.slice p out.length q) := zwd HI.out.box 1
    by_cases hlt : k < L.length
    ·have hc := HI.out.txt k hlt
     have hi1 : (0 : Int) ≤ (k : Int) := by omega
     have hi2 : (k : Int) < (L.length : Int) := by omega
     have HLX := zwe (HPL.out _ (List.getElem_mem hlt))
     have HST := zwe (fun (y : V.Itv) hy => zj1 (n := n) (out := out) (y := y) hlt hy)
     have HNO := zwe (fun hy => zkq (n := n) (out := out) hlt hy)
     generalize L[k] = x at *
     go_wp2_with fail
     refine (zjc n x wr (HM.out.below HI.out.below) HLX.out).mono ?_
     rintro e w2 ⟨y, b, rfl, hor, hb2⟩
     have HOR := zwe hor
     have HI2 := zwe (HI.out.later hb2)
     clear hor hb2 hc x0 x1
     have x0 : w2.cell? ⟨w.heap.size + 1 + 1, 0, none⟩ = some (.int .i64 n) := zwd HI2.out.box 0
     have x1 : w2.cell? ⟨w.heap.size + 1 + 1, 1, none⟩ = some (.slice p out.length q) := zwd HI2.out.box 1
     unfold itvV
     rcases b with _ | _
     ·have HR : Hid (V.altP n s = none) := zwe (by
        rcases HOR.out with ⟨_, h⟩ | ⟨h, _⟩
        · rw [HE.out, HNO.out h]
        · cases h)
      have HBY := zwe ((zwh w2.heap.size w2).alloc (zwg _) (.cells (itvC y) 82))
      go_wp2_with (first | (refine zi rfl 45 _ _ rfl w.heap.size #[.int .i64 0, .slice none 0 0] _ (HI2.out.later HBY.out).res rfl #[.int .i64 0, .slice none 0 0] rfl rfl (by kernel_rfl) (zt _ _ _ _) ?_; intro W5 hp5; have z0 : W5.cell? ⟨w.heap.size, 0, none⟩ = some (.int .i64 0) := zwd hp5.here 0; have z1 : W5.cell? ⟨w.heap.size, 1, none⟩ = some (.slice none 0 0) := zwd hp5.here 1) | fail)
      have HBF := zwe (hp5.below (HI2.out.later HBY.out).below (zwg _))
      clear hp5
      exact bodyPost_ret (v := .tuple #[.agg #[.int .i64 0, .slice none 0 0], .bool false]) (by simp [results, Tryz.results57, go_sem, z0, z1]) rfl (by rw [HR.out]; exact yn.no HBF.out)
     ·have HC : Hid (V.jr n x = some y) := zwe (by
        rcases HOR.out with ⟨h, _⟩ | ⟨_, h⟩
        · cases h
        · exact h)
      have HOK := zwe (V.zkw HN.out HC.out)
      have hbY : Below w2.heap.size w2 ((w2.alloc (.cells (itvC y) 82)).alloc (.cells (itvC y) 82)) := ((zwh _ _).alloc (zwg _) _).alloc (by simp) _
      have HY : Hid (((w2.alloc (.cells (itvC y) 82)).alloc (.cells (itvC y) 82)).heap[w2.heap.size + 1]? = some (.cells (itvC y) 82 (0, 0))) := zwe (by rw [heap_alloc, if_pos (by simp)])
      have HI4 := zwe (HI2.out.later hbY)
      have HZ4 : Hid (((w2.alloc (.cells (itvC y) 82)).alloc (.cells (itvC y) 82)).heap.size = w2.heap.size + 2) := zwe (by simp)
      have hb3 : Below w2.heap.size w2 (w2.alloc (.cells (itvC y) 82)) := (zwh _ _).alloc (zwg _) _
      have y0 : (w2.alloc (.cells (itvC y) 82)).cell? ⟨w.heap.size + 1 + 1, 0, none⟩ = some (.int .i64 n) := za hb3 x0
      have y1 : (w2.alloc (.cells (itvC y) 82)).cell? ⟨w.heap.size + 1 + 1, 1, none⟩ = some (.slice p out.length q) := za hb3 x1
      clear hb3 x0 x1
      unfold itvC at y0 y1
      have HS2 : Hid (w.heap.size + 2 < w2.heap.size) := zwe ((Array.getElem?_eq_some_iff.1 HI2.out.box).1)
      clear hbY
      go_wp2_with fail
      refine (zja n n (.slice p out.length q) (.slice (some ⟨w2.heap.size + 1, 0, none⟩) 1 1) out [y] ((w2.alloc (.cells (itvC y) 82)).alloc (.cells (itvC y) 82)) (HM.out.below HI4.out.below) HI4.out.set (zjw HY.out) (ux HI4.out.one.ok) (ux HOK.out) (by have := HI4.out.one.one; unfold maxLen; omega) (by unfold maxLen; simp)).mono ?_
      rintro e w5 ⟨u5, rfl, hu5, how5, hb5⟩
      have HOP := zwe (V.opP_few V.andF HI4.out.one.few (V.One.few ⟨HOK.out, by simp⟩) (by omega))
      rw [HOP.out] at hu5 ⊢
      simp only at hu5 ⊢
      exact zxi
    ·obtain rfl : k = L.length := by omega
     have HR : Hid (V.altP n s = some out) := zwe (by rw [HE.out, List.drop_length]; rfl)
     go_wp2_with (first | (refine zi rfl 45 _ _ rfl w.heap.size #[.int .i64 0, .slice none 0 0] _ HI.out.res rfl #[.int .i64 n, .slice p out.length q] rfl rfl (by kernel_rfl) (zt _ _ _ _) ?_; intro W5 hp5; have z0 : W5.cell? ⟨w.heap.size, 0, none⟩ = some (.int .i64 n) := zwd hp5.here 0; have z1 : W5.cell? ⟨w.heap.size, 1, none⟩ = some (.slice p out.length q) := zwd hp5.here 1) | fail)
     have HBF := zwe (hp5.below HI.out.below (zwg _))
     have HIV := zwe (hp5.itvs HI.out.set (fun c hc => (HI.out.own c hc).2.2))
     clear hp5
     exact bodyPost_ret (v := .tuple #[.agg #[.int .i64 n, .slice p out.length q], .bool true]) (by simp [results, Tryz.results57, go_sem, z0, z1]) rfl (yn.yes HR.out HBF.out HIV.out (fun c hc => (HI.out.own c hc).1))
namespace V
def parP (n : Int) (s : Bs) : Int × List Itv × Int := match xw n s with | (some l, c) => (n, l, c) | (none, c) => (0, [], c)
theorem zib {n : Int} {s : Bs} (h : scheme n = false) : parP n s = (0, [], 14) := by unfold parP xw; rw [h]; rfl
theorem zn1 {n : Int} {s : Bs} (h : scheme n = true) (hl : ¬ s.length ≤ 8192) : parP n s = (0, [], 3) := by unfold parP xw; rw [if_pos h, if_neg hl]
theorem zns {n : Int} {s : Bs} (h : scheme n = true) (hl : s.length ≤ 8192) (ha : ya n (Lib.split s orT) = none) : parP n s = (0, [], 2) := by unfold parP xw; rw [if_pos h, if_pos hl, ha]
theorem zkr {n : Int} {s : Bs} {xs : List (List Itv)} (h : scheme n = true) (hl : s.length ≤ 8192) (ha : ya n (Lib.split s orT) = some xs) (hu : jb n [] xs = none) : parP n s = (0, [], 3) := by
 unfold parP xw; rw [if_pos h, if_pos hl, ha]; simp only [hu]
theorem zuo {n : Int} {s : Bs} {xs : List (List Itv)} {l : List Itv} (h : scheme n = true) (hl : s.length ≤ 8192) (ha : ya n (Lib.split s orT) = some xs) (hu : jb n [] xs = some l) : parP n s = (n, l, 0) := by
 unfold parP xw; rw [if_pos h, if_pos hl, ha]; simp only [hu]
theorem zv2 {n : Int} {s : Bs} {l : List Itv} (h : xw n s = (some l, 0)) : parP n s = (n, l, 0) := by unfold parP; rw [h]
def zbx (n : Int) (P : List Bs) (k : Nat) (xs : List (List Itv)) : Prop := ya n P = match ya n (P.drop k) with | none => none | some ys => some (xs ++ ys)
theorem zh7 (n : Int) (P : List Bs) : zbx n P 0 [] := by
 unfold zbx
 rw [List.drop_zero]
 cases ya n P <;> rfl
theorem zik {n : Int} {P : List Bs} {k : Nat} {xs : List (List Itv)} (h : zbx n P k xs) (hk : k < P.length) (ha : altP n P[k] = none) : ya n P = none := by
 unfold zbx at h
 rw [h, List.drop_eq_getElem_cons hk, ya, ha]
theorem zif {n : Int} {P : List Bs} {k : Nat} {xs : List (List Itv)} {x : List Itv} (h : zbx n P k xs) (hk : k < P.length) (ha : altP n P[k] = some x) : zbx n P (k + 1) (xs ++ [x]) := by
 unfold zbx at h ⊢
 rw [h, List.drop_eq_getElem_cons hk, ya, ha]
 cases ya n (P.drop (k + 1)) with
 | none => rfl
 | some ys => simp
theorem zj3 {n : Int} {P : List Bs} {xs : List (List Itv)} (h : zbx n P P.length xs) : ya n P = some xs := by
 unfold zbx at h
 rw [h, List.drop_length]
 simp [ya]
theorem zmm {n : Int} {acc : List Itv} {xs : List (List Itv)} {k : Nat} (hk : k < xs.length) : jb n acc (xs.drop k) = if (opL n orF acc xs[k]).length ≤ 32 then jb n (opL n orF acc xs[k]) (xs.drop (k + 1)) else none := by
 rw [List.drop_eq_getElem_cons hk, jb]
end V
theorem ziz (s : ByteArray) (w : World) (hm : zg w) (hs : s.size < 4294967281) :
  Calls Tryz.prog 54 #[.string s, .string ⟨#[32, 124, 124, 32]⟩] w fun e w' =>
   e = .returned (.slice (some ⟨w.heap.size, 0, none⟩) (Lib.split s.data.toList V.orT).length (Lib.split s.data.toList V.orT).length) /\ w' = w.alloc (.cells (strCells (Lib.split s.data.toList V.orT)) 9) := by
 obtain ⟨m, hm⟩ := hm
 have hsp : (Lib.splitB ⟨#[32, 124, 124, 32]⟩ 0 (Lib.countB s ⟨#[32, 124, 124, 32]⟩) s).map (·.data.toList) = Lib.split s.data.toList V.orT := by
  rw [Lib.splitB_data]; rfl
 have hlen := Lib.splitB_all ⟨#[32, 124, 124, 32]⟩ (by decide) 0 _ s rfl
 have hl : (Lib.split s.data.toList V.orT).length = Lib.countB s ⟨#[32, 124, 124, 32]⟩ + 1 := by rw [← hsp, List.length_map, hlen]
 have hcs : strCells (Lib.split s.data.toList V.orT) = ((Lib.splitB ⟨#[32, 124, 124, 32]⟩ 0 (Lib.countB s ⟨#[32, 124, 124, 32]⟩) s).map Value.string).toArray := by
  unfold strCells
  rw [← hsp, List.map_map]
  congr 1
 refine (Tryz.strings_Split s ⟨#[32, 124, 124, 32]⟩ m w hs hm (by decide)).mono ?_
 rintro e w' ⟨rfl, rfl⟩
 rw [hl, hcs]
 exact ⟨rfl, rfl⟩
theorem zhu (sep : V.Bs) : ∀ (k : Nat) (s x : V.Bs), x ∈ Lib.splitK sep 0 k s -> x.length ≤ s.length
 | 0, s, x, h => by rw [Lib.splitK, List.mem_singleton] at h; rw [h]; exact zwg _
 | k + 1, s, x, h => by
  rw [Lib.splitK] at h
  split at h
  ·rw [List.mem_singleton] at h; rw [h]; exact zwg _
  ·rcases List.mem_cons.1 h with rfl | h
   ·rw [List.length_take]; omega
   ·have := zhu sep k _ x h
    rw [List.length_drop] at this
    omega
theorem zl3 (sep : V.Bs) : ∀ (k : Nat) (s : V.Bs), (Lib.splitK sep 0 k s).length ≤ k + 1
 | 0, s => by rw [Lib.splitK]; simp
 | k + 1, s => by
  rw [Lib.splitK]
  split
  ·simp
  ·have := zl3 sep k (s.drop ((Lib.index s sep).toNat + sep.length))
   rw [List.length_cons]
   omega
theorem zh9 (s : V.Bs) : (Lib.split s V.orT).length ≤ s.length + 2 := by
 unfold Lib.split
 have h1 := zl3 V.orT (Lib.count s V.orT) s
 have h2 := Lib.count_le s V.orT
 omega
theorem zd4 {α : Type} {enc : α -> List Value} {k : Nat} {T : TypeId} {ops : Array Oper} {rest : List Oper} {o : Oper} {a : Act} {w : World} {Q : Exit -> Act -> World -> Prop} (hk : ∀ x, (enc x).length = k) (hk0 : 0 < k) (h1c : ∀ x, ∀ u ∈ enc x, u.oneCell' = true) {bytes : Nat} (hi : xq T k bytes) (hby : bytes ≤ 1000) (hgd : o.guard = none) (s x : Operand) (S : TypeId)
  (ho : o.op = .call { callee := .builtin .append, args := #[s, x], argTypes := #[S, S] }) (hu : Tryz.prog.underlying S = some (.slice T))
  (N : Nat) (v : Value) (l : List α) (hs : a.eval s = v) (hown : GRow T k enc w N v l) (b : Nat) (c : α) (hx : a.eval x = .slice (some ⟨b, 0, none⟩) 1 1) (hr : ∀ j u, (enc c)[j]? = some u -> w.cell? ⟨b, j, none⟩ = some u) (hl : l.length ≤ 1000000) (hN : N ≤ w.heap.size)
  (h : ∀ v' w', GRow T k enc w' N v' (l ++ [c]) -> w.grownBy w' v.ownBlock -> (v'.ownBlock = v.ownBlock ∨ v'.ownBlock = some w.heap.size) -> wpList Tryz.prog ops Q rest (a.put o.dst v') w') : wpList Tryz.prog ops Q (o :: rest) a w := by
 obtain ⟨ie, z, hie, hz, h1, h2, h3⟩ := hi
 refine wpList_append_own_at w hgd s x S ho N T ie z k bytes hu hie hz h1 h2 h3 hk0 v l.length (l.flatMap enc) hs hown ⟨b, 0, none⟩ 1 1 (enc c) hx (by rw [hk]; omega) ?_ (h1c c) (by unfold maxLen; omega) ?_ hN ?_
 ·exact z1o
 ·exact z0v
 ·intro v' w' ho' hg _ hob
  refine h v' w' ?_ hg hob
  exact z0l
theorem zuc : xq 45 2 32 := by
 have h : (match Tryz.prog.info? 45 with | some i => i.size == 2 && (i.bytes == 32 && (match i.zero with | some z => z.cells.size == 2 | none => false)) | none => false) = true := by kernel_rfl
 unfold xq
 cases hq : Tryz.prog.info? 45 with
 | none => rw [hq] at h; cases h
 | some i =>
  exact zw1
structure Sl where
 a : Option Addr
 n : Nat
 c : Nat
def Sl.v (s : Sl) : Value := .slice s.a s.n s.c
def slE (n : Int) (s : Sl) : List Value := [.int .i64 n, s.v]
theorem zjs (n : Int) (s : Sl) : (slE n s).length = 2 := rfl
theorem zuy (n : Int) (s : Sl) : ∀ u ∈ slE n s, u.oneCell' = true := by
 intro u hu
 simp [slE] at hu
 rcases hu with rfl | rfl <;> rfl
theorem Itvs.lt {w : World} {u : Value} {l : List V.Itv} (h : Itvs w u l) (hl : l ≠ []) {c : Nat} (hc : u.ownBlock = some c) : c < w.heap.size := by
 exact z05
theorem Itvs.grown {w w' : World} {u : Value} {l : List V.Itv} {row : Option Nat} (h : Itvs w u l) (hg : w.grownBy w' row) (hs : l ≠ [] -> ∀ c, u.ownBlock = some c -> row ≠ some c) : Itvs w' u l := by
 obtain ⟨a, cap, rfl, hx⟩ := h
 refine ⟨a, cap, rfl, fun j hj => ?_⟩
 obtain ⟨b, off, rfl, hlt, h0, h1, h2, h3⟩ := hx j hj
 have hne : l ≠ [] := fun e => by rw [e] at hj; simp at hj
 have hb : row ≠ some b := hs hne b rfl
 have hk := fun o v (g : w.cell? ⟨b, o, none⟩ = some v) => hg.cell g (fun e => hb e.symm)
 exact ⟨b, off, rfl, Nat.lt_of_lt_of_le hlt hg.size, hk _ _ h0, hk _ _ h1, hk _ _ h2, hk _ _ h3⟩
structure SetRow (n : Int) (N : Nat) (w : World) (v : Value) (us : List Sl) (xs : List (List V.Itv)) : Prop where
 row : GRow 45 2 (slE n) w N v us
 len : us.length = xs.length
 each : ∀ j (h : j < us.length) (h' : j < xs.length), Itvs w us[j].v xs[j] /\ (xs[j] ≠ [] -> ∀ c, us[j].v.ownBlock = some c -> v.ownBlock ≠ some c)
theorem SetRow.nil (n : Int) (N : Nat) (w : World) : SetRow n N w (.slice none 0 0) [] [] := ⟨GRow.nil _ _, rfl, fun j h => by simp at h⟩
theorem SetRow.later {n : Int} {N : Nat} {w w' : World} {v : Value} {us : List Sl} {xs : List (List V.Itv)} (h : SetRow n N w v us xs) (hb : Below w.heap.size w w') : SetRow n N w' v us xs :=
 ⟨GRow.below h.row hb, h.len, fun j hj hj' => ⟨(h.each j hj hj').1.below hb, (h.each j hj hj').2⟩⟩
theorem SetRow.add {n : Int} {N : Nat} {w w' : World} {v v' : Value} {us : List Sl} {xs : List (List V.Itv)} {u : Sl} {x : List V.Itv} (h : SetRow n N w v us xs) (hr : GRow 45 2 (slE n) w' N v' (us ++ [u])) (hg : w.grownBy w' v.ownBlock) (ho : v'.ownBlock = v.ownBlock ∨ v'.ownBlock = some w.heap.size)
  (hu : Itvs w u.v x) (hs : x ≠ [] -> ∀ c, u.v.ownBlock = some c -> v.ownBlock ≠ some c) : SetRow n N w' v' (us ++ [u]) (xs ++ [x]) := by
 have one : ∀ (q : Value) (y : List V.Itv), Itvs w q y -> (y ≠ [] -> ∀ c, q.ownBlock = some c -> v.ownBlock ≠ some c) -> Itvs w' q y /\ (y ≠ [] -> ∀ c, q.ownBlock = some c -> v'.ownBlock ≠ some c) := fun q y hq hn => by
  exact z0o
 refine ⟨hr, by rw [List.length_append, List.length_append, h.len]; rfl, fun j hj hj' => ?_⟩
 by_cases e : j < us.length
 ·have e2 : j < xs.length := by rw [← h.len]; exact e
  exact z1w
 ·have ej : j = us.length := by rw [List.length_append, List.length_singleton] at hj; omega
  subst ej
  have e1 : (us ++ [u])[us.length] = u := by simp
  have e2 : (xs ++ [x])[us.length]'hj' = x := by simp [h.len]
  rw [e1, e2]
  exact one _ _ hu hs
theorem ztf (v : Value) (l : List V.Itv) (w : World) (hv : Itvs w v l) (hl : l.length ≤ 100000) :
  Calls Tryz.prog 112 #[v] w fun e w' => ∃ u, e = .returned u /\ Itvs w' u l /\ (∀ c, u.ownBlock = some c -> w.heap.size ≤ c) /\ Below w.heap.size w w' := by
 have q24 : ∀ (w : World) (a : Option Addr) (n c n' c' : Nat), (binOp .eql 43 (.slice a n c) (.slice none n' c')).run Tryz.prog w = .ok (.bool a.isNone) w := fun w a n c n' c' => Lib.run_eql_slice_nil w _ _ a n c n' c' Tryz.underlying43
 have HV := zwe hv
 obtain ⟨a, cap, rfl, hat⟩ := hv
 rcases a with _ | ad
 ·have hn : l = [] := by
   cases l with
   | nil => rfl
   | cons c r =>
    obtain ⟨b, off, e, _⟩ := hat 0 (by simp)
    cases e
  clear hat
  subst hn
  go_enter Tryz.func112, Tryz.ntmps112
  go_wp2
  go_ret
  exact ⟨_, rfl, Itvs.nil _, (fun c hc => by cases hc), zwh _ _⟩
 ·have HNEWS : Hid (∀ W, Below w.heap.size w W -> ∀ j u, (l.flatMap itvE)[j]? = some u -> W.cell? (ad.add j) = some u) := zwe (by
    intro W hB j u hju
    have hlen := (List.getElem?_eq_some_iff.1 hju).1
    rw [zc4 ws] at hlen
    have hq : j / 4 < l.length := by omega
    have hsum : j = j / 4 * 4 + j % 4 := by omega
    obtain ⟨b, off, e, hlt, h0, h1, h2, h3⟩ := hat (j / 4) hq
    cases e
    rw [hsum, zgj ws (j / 4) hq (j % 4) (by omega)] at hju
    rw [Addr.add_mid]
    have h4 : j % 4 = 0 ∨ j % 4 = 1 ∨ j % 4 = 2 ∨ j % 4 = 3 := by omega
    have hk := fun o v (g : w.cell? ⟨b, o, none⟩ = some v) => (hB.cell (p := ⟨b, o, none⟩) hlt).trans g
    rcases h4 with e | e | e | e <;> rw [e] at hju <;> rw [show off + j = off + j / 4 * 4 + j % 4 by omega, e, ← hju]
    · exact hk _ _ h0
    · exact hk _ _ h1
    · exact hk _ _ h2
    · exact hk _ _ h3)
  have HONE : Hid (∀ u ∈ l.flatMap itvE, u.oneCell' = true) := zwe (by
    intro u hu
    obtain ⟨c, hc, huc⟩ := List.mem_flatMap.1 hu
    exact zcn c u huc)
  have HLEN := zwe (zc4 ws l)
  clear hat
  obtain ⟨ie, z, hi, hz, h1, h2, h3⟩ := zey
  go_enter Tryz.func112, Tryz.ntmps112
  go_wp2_with (at_builtin; refine wpList_append_own _ rfl _ _ 43 rfl w.heap.size 82 ie z 4 48 Tryz.underlying43 hi hz h1 h2 h3 (by decide) _ 0 [] rfl (World.ownsRow_made w #[] 0 (zwg _) (Nat.zero_le _) rfl) ad l.length cap (l.flatMap itvE) rfl HLEN.out (HNEWS.out _ ((zwh _ w).alloc (zwg _) _)) HONE.out (by unfold maxLen; omega) (by omega) (by simp) ?_)
  intro v' w1 hown hgrow _
  go_wp2
  go_ret
  have hrow : zgf w1 w.heap.size v' l := by
   unfold zgf GRow
   simpa using hown
  refine ⟨v', rfl, hrow.itvs, GRow.block hrow, ?_⟩
  exact ((zwh _ w).alloc (zwg _) _).grown hgrow (by simp) (by intro k hk; simp [Value.ownBlock] at hk; omega)
open Go.RowKit
theorem uu : (Tryz.prog.info? 47).map (·.size) = some 4 := by kernel_rfl
theorem qa : (Tryz.prog.info? 29).map (·.size) = some 4 := by kernel_rfl
theorem qr {ops : Array Oper} {rest : List Oper} {o : Oper} {a : Act} {w : World} {Q : Exit -> Act -> World -> Prop} (hgd : o.guard = none) {T : TypeId} (hT : (Tryz.prog.info? T).map (·.size) = some 4) (x y : Operand) (ho : o.op = .store T x y)
  (g : Nat) (old : Array Value) (t : TypeId) (hg : w.heap[g]? = some (.cells old t (0, 0))) (hx : a.eval x = .pointer (some ⟨g, 0, none⟩)) (c0 c1 c2 c3 : Value) (h1 : c0.oneCell' = true /\ c1.oneCell' = true /\ c2.oneCell' = true /\ c3.oneCell' = true) (hy : a.eval y = .agg #[c0, c1, c2, c3]) (h4 : old.size = 4)
  (h : wpList Tryz.prog ops Q rest (a.put o.dst undef) (w.setRow g #[c0, c1, c2, c3])) : wpList Tryz.prog ops Q (o :: rest) a w :=
 wpList_store_row hgd _ x y ho g _ hx hy t old hg (by rw [hT]; rfl) (by rw [h4]; rfl) (by simp [h1.1, h1.2.1, h1.2.2.1, h1.2.2.2]) h
theorem zh3 {ops : Array Oper} {o : Oper} {a : Act} {w : World} {K : Act -> World -> Prop} {Q : Exit -> Act -> World -> Prop} {E : Prop} (hgd : o.guard = none) {T : TypeId} (hT : (Tryz.prog.info? T).map (·.size) = some 4) (x y : Operand) (ho : o.op = .store T x y)
  (g : Nat) (old : Array Value) (t : TypeId) (hg : w.heap[g]? = some (.cells old t (0, 0))) (hx : a.eval x = .pointer (some ⟨g, 0, none⟩)) (c0 c1 c2 c3 : Value) (h1 : c0.oneCell' = true /\ c1.oneCell' = true /\ c2.oneCell' = true /\ c3.oneCell' = true) (hy : a.eval y = .agg #[c0, c1, c2, c3]) (h4 : old.size = 4)
  (h : K (a.put o.dst undef) (w.setRow g #[c0, c1, c2, c3])) :
  if Region.wanted o (yielded ops a.tmps) = true then Oper.wp Tryz.prog o a w K Q else E := by
 rw [if_pos (by simp [Region.wanted, hgd])]
 exact wp_store_row _ x y ho g _ hx hy t old hg (by rw [hT]; rfl) (by rw [h4]; rfl) (by simp [h1.1, h1.2.1, h1.2.2.1, h1.2.2.2]) h
theorem zcw {T : TypeId} {fs : Array Field} (hu : Tryz.prog.underlying T = some (.struct fs)) (hT : (Tryz.prog.info? T).map (·.size) = some 4) {w : World} {g : Nat} {t : TypeId} {c0 c1 c2 c3 : Value} (hg : w.heap[g]? = some (.cells #[c0, c1, c2, c3] t (0, 0))) : (loadVar T ⟨g, 0, none⟩).run Tryz.prog w = .ok (.agg #[c0, c1, c2, c3]) w :=
 run_loadVar_row _ _ _ _ _ (0, 0) _ hg hu rfl (by rw [hT]; rfl)
theorem xk {w : World} {g : Nat} {t : TypeId} {c0 c1 c2 c3 : Value} (hg : w.heap[g]? = some (.cells #[c0, c1, c2, c3] t (0, 0))) : w.cell? ⟨g, 0, none⟩ = some c0 /\ w.cell? ⟨g, 1, none⟩ = some c1 /\ w.cell? ⟨g, 2, none⟩ = some c2 /\ w.cell? ⟨g, 3, none⟩ = some c3 := by
 refine ⟨?_, ?_, ?_, ?_⟩ <;> (rw [cell_of_row w g _ _ _ _ hg]; rfl)
theorem qu {w W : World} (h : Below w.heap.size w W) (g : Nat) (cs : Array Value) (hg : w.heap.size ≤ g) (hlt : g < W.heap.size) : Below w.heap.size w (W.setRow g cs) :=
 h.trans (zil (qj W g cs) hg (by omega))
theorem Itvs.row {w w' : World} {u : Value} {l : List V.Itv} {g : Nat} (h : Itvs w u l) (hg : w.grownBy w' (some g)) (hne : ∀ c, u.ownBlock = some c -> c ≠ g) : Itvs w' u l :=
 h.grown hg (fun _ c hc e => hne c hc (Option.some.inj e).symm)
abbrev Fs := V.Aff × Sl
def fE (p : Fs) : List Value := [.int .i64 p.1.sch, .string ⟨p.1.name.toArray⟩, .int .i64 p.1.rs, p.2.v]
theorem zee (p : Fs) : (fE p).length = 4 := rfl
theorem zf1 (p : Fs) : ∀ u ∈ fE p, u.oneCell' = true := by
 intro u hu
 simp [fE] at hu
 rcases hu with rfl | rfl | rfl | rfl <;> rfl
theorem zla : xq 47 4 56 := by
 have h : (match Tryz.prog.info? 47 with | some i => i.size == 4 && (i.bytes == 56 && (match i.zero with | some z => z.cells.size == 4 | none => false)) | none => false) = true := by kernel_rfl
 unfold xq
 cases hq : Tryz.prog.info? 47 with
 | none => rw [hq] at h; cases h
 | some i =>
  exact zw1
def FOk (w : World) (v : Value) (p : Fs) : Prop := AffWf p.1 /\ p.2.n = p.1.its.length /\ Itvs w p.2.v p.1.its /\ (p.1.its ≠ [] -> ∀ c, p.2.v.ownBlock = some c -> v.ownBlock ≠ some c)
structure FRow (N : Nat) (w : World) (v : Value) (us : List Fs) : Prop where
 row : GRow 47 4 fE w N v us
 each : ∀ p ∈ us, FOk w v p
theorem FRow.nil (N : Nat) (w : World) : FRow N w (.slice none 0 0) [] := ⟨GRow.nil _ _, fun p hp => by simp at hp⟩
theorem FRow.later {N : Nat} {w w' : World} {v : Value} {us : List Fs} (h : FRow N w v us) (hb : Below w.heap.size w w') : FRow N w' v us :=
 ⟨GRow.below h.row hb, fun p hp => ⟨(h.each p hp).1, (h.each p hp).2.1, (h.each p hp).2.2.1.below hb, (h.each p hp).2.2.2⟩⟩
theorem FRow.weaken {N M : Nat} {w : World} {v : Value} {us : List Fs} (h : FRow N w v us) (hle : M ≤ N) : FRow M w v us := ⟨GRow.weaken h.row hle, h.each⟩
theorem FRow.kept {N : Nat} {w w' : World} {v : Value} {us : List Fs} {g : Nat} (h : FRow N w v us) (hg : w.grownBy w' (some g)) (hr : v.ownBlock ≠ some g) (he : ∀ p ∈ us, ∀ c, p.2.v.ownBlock = some c -> c ≠ g) : FRow N w' v us := by
 refine ⟨?_, fun p hp => ⟨(h.each p hp).1, (h.each p hp).2.1, (h.each p hp).2.2.1.row hg (he p hp), (h.each p hp).2.2.2⟩⟩
 obtain ⟨hx, hq⟩ := h.row
 refine ⟨hx, ?_⟩
 rcases hq with hq | ⟨b, cap, cur, rfl, hb, hgg, rest⟩
 ·exact .inl hq
 ·refine .inr ⟨b, cap, cur, rfl, hb, ?_, rest⟩
  rw [hg.block b (Array.getElem?_eq_some_iff.1 hgg).1 (fun e => hr (by rw [← e]; rfl))]
  exact hgg
theorem FRow.add {N : Nat} {w w' : World} {v v' : Value} {us : List Fs} {p : Fs} (h : FRow N w v us) (hr : GRow 47 4 fE w' N v' (us ++ [p])) (hg : w.grownBy w' v.ownBlock) (ho : v'.ownBlock = v.ownBlock ∨ v'.ownBlock = some w.heap.size)
  (hp : FOk w v p) : FRow N w' v' (us ++ [p]) := by
 have one : ∀ q, FOk w v q -> FOk w' v' q := fun q hq => by
  refine ⟨hq.1, hq.2.1, hq.2.2.1.grown hg hq.2.2.2, fun hy c hc => ?_⟩
  rcases ho with e | e
  ·rw [e]; exact hq.2.2.2 hy c hc
  ·rw [e]
   intro g
   have := hq.2.2.1.lt hy hc
   cases g
   omega
 refine ⟨hr, fun q hq => ?_⟩
 rcases List.mem_append.1 hq with hq | hq
 ·exact one q (h.each q hq)
 ·rw [List.mem_singleton.1 hq]; exact one p hp
theorem FRow.affs {N : Nat} {w : World} {v : Value} {us : List Fs} (h : FRow N w v us) : Affs w v (us.map (·.1)) := by
 obtain ⟨a, cap, rfl⟩ := GRow.slice h.row
 refine ⟨a, cap, by simp, fun j hj => ?_⟩
 have hj' : j < us.length := by simpa using hj
 obtain ⟨g, cap2, e, hN, hg, hc⟩ := GRow.at zee h.row j hj'
 cases e
 obtain ⟨hw, hn, hi, _⟩ := h.each us[j] (List.getElem_mem hj')
 have e1 : (us.map (·.1))[j] = us[j].1 := by simp
 rw [e1]
 have hv : us[j].2.v = .slice us[j].2.a us[j].1.its.length us[j].2.c := by unfold Sl.v; rw [hn]
 refine ⟨hw, g, 0, us[j].2.a, us[j].2.c, rfl, hg, ?_⟩
 have k := fun i u (q : (fE us[j])[i]? = some u) => hc i u q
 refine ⟨?_, ?_, ?_, ?_, by rw [← hv]; exact hi⟩
 ·have := k 0 _ rfl; simpa using this
 ·have := k 1 _ rfl; simpa using this
 ·have := k 2 _ rfl; simpa using this
 ·have := k 3 _ rfl; rw [← hv]; simpa using this
theorem FRow.slice {N : Nat} {w : World} {v : Value} {us : List Fs} (h : FRow N w v us) : ∃ a cap, v = .slice a us.length cap := GRow.slice h.row
structure VInv (V0 : World) (N0 O : Nat) (i r s : Value) (v : Value) (us : List Fs) (W : World) : Prop where
 row : FRow O W v us
 inv : W.heap[O]? = some (.cells #[i, r, s, v] 29 (0, 0))
 zero : W.heap[N0]? = some (.cells #[.string ⟨#[]⟩, .int .i64 0, .int .i64 0, .slice none 0 0] 29 (0, 0))
 own : ∀ p ∈ us, ∀ c, p.2.v.ownBlock = some c -> O < c
 old : Below O V0 W
 base : N0 + 1 ≤ O
namespace VInv
variable {V0 : World} {N0 O : Nat} {i r s : Value} {v : Value} {us : List Fs} {W W' : World}
theorem lt (h : VInv V0 N0 O i r s v us W) : O < W.heap.size := (Array.getElem?_eq_some_iff.1 h.inv).1
theorem call (h : VInv V0 N0 O i r s v us W) (hb : Below W.heap.size W W') : VInv V0 N0 O i r s v us W' := by
 have hlt := h.lt
 exact ⟨h.row.later hb, (hb.block O hlt).trans h.inv, (hb.block _ (by have := h.base; omega)).trans h.zero, h.own, h.old.trans (hb.mono (by omega)), h.base⟩
theorem rowNe (h : VInv V0 N0 O i r s v us W) {g : Nat} {cs : Array Value} {t : TypeId} {fr : Nat × Nat} (hg : W.heap[g]? = some (.cells cs t fr)) (ht : t ≠ 47) : v.ownBlock ≠ some g := fun hb => by
 obtain ⟨_, hq⟩ := h.row.row
 rcases hq with ⟨rfl, _⟩ | ⟨b, cap, cur, rfl, _, hgg, _⟩
 ·cases hb
 ·simp [Value.ownBlock] at hb
  subst hb
  rw [hgg] at hg
  cases hg
  exact ht rfl
theorem append (h : VInv V0 N0 O i r s v us W) {v' : Value} {p : Fs} (hr : FRow O W' v' (us ++ [p])) (hg : W.grownBy W' v.ownBlock) (hp : ∀ c, p.2.v.ownBlock = some c -> O < c) : VInv V0 N0 O i r s v' (us ++ [p]) (W'.setCell ⟨O, 3, none⟩ v') := by
 have hblk := GRow.block h.row.row
 have hl : ∀ k, k < W.heap.size -> v.ownBlock ≠ some k -> W'.heap[k]? = W.heap[k]? := fun k hk hb => hg.block k hk (fun e => hb e.symm)
 have hi : W'.heap[O]? = _ := (hl O (Array.getElem?_eq_some_iff.1 h.inv).1 (h.rowNe h.inv (by decide))).trans h.inv
 have hz : W'.heap[N0]? = _ := (hl _ (Array.getElem?_eq_some_iff.1 h.zero).1 (h.rowNe h.zero (by decide))).trans h.zero
 have hg2 := yd W' O 3 v'
 have hl2 : ∀ k, k < W'.heap.size -> k ≠ O -> (W'.setCell ⟨O, 3, none⟩ v').heap[k]? = W'.heap[k]? := fun k hk hb => hg2.block k hk (fun e => by cases e; exact hb rfl)
 have hown : ∀ q ∈ us ++ [p], ∀ c, q.2.v.ownBlock = some c -> O < c := fun q hq c hc => by
  rcases List.mem_append.1 hq with hq | hq
  ·exact h.own q hq c hc
  ·rw [List.mem_singleton.1 hq] at hc; exact hp c hc
 have hrn : v'.ownBlock ≠ some O := fun hb => by
  obtain ⟨_, hq⟩ := hr.row
  rcases hq with ⟨e, _⟩ | ⟨b, cap, cur, e, _, hgg, _⟩
  ·rw [e] at hb; cases hb
  ·rw [e] at hb
   simp [Value.ownBlock] at hb
   subst hb
   rw [hgg] at hi
   cases hi
 refine ⟨hr.kept hg2 hrn (fun q hq c hc => by have := hown q hq c hc; omega), ?_, ?_, hown, ?_, h.base⟩
 ·rw [zba _ _ hi]; rfl
 ·rw [hl2 _ (Array.getElem?_eq_some_iff.1 hz).1 (by have := h.base; omega)]; exact hz
 ·have hsz := h.lt
  have hbs := h.base
  refine (h.old.trans ⟨hg.os, hg.tape, hg.output, hg.size, fun k hk => hl k (by omega) (fun e => by have := hblk k e; omega)⟩).trans ⟨hg2.os, hg2.tape, hg2.output, hg2.size, fun k hk => hl2 k (by have := hg.size; omega) (by omega)⟩
theorem invKept (h : VInv V0 N0 O i r s v us W) (hg : W.grownBy W' v.ownBlock) : W'.heap[O]? = some (.cells #[i, r, s, v] 29 (0, 0)) :=
 (hg.block O (Array.getElem?_eq_some_iff.1 h.inv).1 (fun e => h.rowNe h.inv (by decide) e.symm)).trans h.inv
end VInv
theorem zah : (Tryz.prog.info? 27).map (·.size) = some 1 := by kernel_rfl
end Go.Proofs.YtcfbkcapbbhmpaaGreatDoor
