/-
  Walks: the reference of layer 7: the operations. (Printed by gen_MQ.py.)
-/
import Derived.Test.YtpjjkbdkgaehkaaGreatDoorMP
import Derived.Test.YtpjjkbdkgaehkaaGreatDoorMJ
import Derived.Test.YtpjjkbdkgaehkaaGreatDoorMO
namespace Go.Proofs.YtpjjkbdkgaehkaaGreatDoor
open Go.RowKit

theorem holdF_or : holdF 1 = V.orF := by funext a b; cases a <;> cases b <;> rfl
theorem holdF_and : holdF 2 = V.andF := by funext a b; cases a <;> cases b <;> rfl
set_option maxRecDepth 100000 in
set_option maxHeartbeats 1600000 in
theorem rrChecked_any (o n m : Int) (va vb : Value) (a b : List V.Itv) (w : World) (hm : MaxOk w) (hva : Itvs w va a) (hvb : Itvs w vb b) (hsa : Lens a) (hsb : Lens b) (hla : a.length ≤ maxLen) (hlb : b.length ≤ maxLen) :
    Calls Tryz.prog 67 #[.int .i64 o, setV n va, setV m vb] w (SetPost (V.opP (holdF o) n a m b) w) := by
  have HVA := Lib.hid hva
  have HVB := Lib.hid hvb
  obtain ⟨aa, ac, rfl⟩ := hva.slice
  obtain ⟨ba, bc, rfl⟩ := hvb.slice
  have HSA := Lib.hid hsa
  have HSB := Lib.hid hsb
  have HLA := Lib.hid hla
  have HLB := Lib.hid hlb
  have HF : Hid (V.opP (holdF o) n a m b = if V.chkP n a m b = 0 then V.limP n (V.opL n (holdF o) a b) else (0, [], V.chkP n a m b)) := Lib.hid rfl
  have HCH : Hid (V.chkP n a m b = if V.okR n a && V.okR m b then (if n = m then 0 else 14) else 1) := Lib.hid rfl
  have H3 := Lib.hid (three_heap w (.cells #[.int .i64 n, .slice aa a.length ac] 39) (.cells #[.int .i64 m, .slice ba b.length bc] 39) (.cells #[.int .i64 0, .slice none 0 0] 39))
  have hb0 : Below w.heap.size w (((w.alloc (.cells #[.int .i64 n, .slice aa a.length ac] 39)).alloc (.cells #[.int .i64 m, .slice ba b.length bc] 39)).alloc (.cells #[.int .i64 0, .slice none 0 0] 39)) := (((Below.refl _ _).alloc (Nat.le_refl _) _).alloc (by simp) _).alloc (by simp; omega) _
  have HB0 := Lib.hid hb0
  have HM0 := Lib.hid (hm.below hb0)
  clear hva hvb hsa hsb hla hlb hm hb0
  unfold setV
  go_enter Tryz.func67, Tryz.ntmps67
  go_wp2_with fail
  generalize (((w.alloc (.cells #[.int .i64 n, .slice aa a.length ac] 39)).alloc (.cells #[.int .i64 m, .slice ba b.length bc] 39)).alloc (.cells #[.int .i64 0, .slice none 0 0] 39)) = w0 at *
  have KA := H3.out.1
  have KB := H3.out.2.1
  have KC := H3.out.2.2.1
  refine (rrValid_any n (.slice aa a.length ac) a w0 HM0.out (HVA.out.below HB0.out) HSA.out HLA.out).mono ?_
  rintro e w1 ⟨rfl, hb1⟩
  have K0 := (hb1.block _ (Array.getElem?_eq_some_iff.1 KA).1).trans KA
  have K1 := (hb1.block _ (Array.getElem?_eq_some_iff.1 KB).1).trans KB
  have K2 := (hb1.block _ (Array.getElem?_eq_some_iff.1 KC).1).trans KC
  have HK := Lib.hid (And.intro K0 (And.intro K1 K2))
  have HB1 := Lib.hid (HB0.out.trans (hb1.mono HB0.out.size))
  have HM1 := Lib.hid (HM0.out.below hb1)
  have hc0 : w1.cell? ⟨w.heap.size, 0, none⟩ = some (.int .i64 n) := Lib.cell_of_heap K0 0
  have hc1 : w1.cell? ⟨w.heap.size, 1, none⟩ = some (.slice aa a.length ac) := Lib.cell_of_heap K0 1
  have hd0 : w1.cell? ⟨w.heap.size + 1, 0, none⟩ = some (.int .i64 m) := Lib.cell_of_heap K1 0
  have hd1 : w1.cell? ⟨w.heap.size + 1, 1, none⟩ = some (.slice ba b.length bc) := Lib.cell_of_heap K1 1
  clear hb1 K0 K1 K2 KA KB KC
  rcases hok : V.okR n a with _ | _
  · have HCZ : V.chkP n a m b = 1 := by rw [HCH.out, hok]; rfl
    have HR : Hid (V.opP (holdF o) n a m b = (0, [], 1)) := Lib.hid (by rw [HF.out, HCZ]; rfl)
    clear hok HCZ
    go_wp2_with (first | (refine wl_putRow rfl 39 _ _ rfl (w.heap.size + 1 + 1) #[.int .i64 0, .slice none 0 0] _ HK.out.2.2 rfl #[.int .i64 0, .slice none 0 0] rfl rfl (by kernel_rfl) (setC_all _ _ _ _) ?_; intro W2 hp2; have z0 : W2.cell? ⟨w.heap.size + 1 + 1, 0, none⟩ = some (.int .i64 0) := Lib.cell_of_heap hp2.here 0; have z1 : W2.cell? ⟨w.heap.size + 1 + 1, 1, none⟩ = some (.slice none 0 0) := Lib.cell_of_heap hp2.here 1) | fail)
    have HBF := Lib.hid (hp2.below HB1.out (by omega))
    clear hp2
    exact bodyPost_ret (v := .tuple #[.agg #[.int .i64 0, .slice none 0 0], .int .i64 1]) (by simp [results, Tryz.results67, go_sem, z0, z1]) rfl (by rw [HR.out]; exact SetPost.zero HBF.out _)
  · have HOK := Lib.hid hok
    clear hok
    go_wp2_with fail
    refine (rrValid_any m (.slice ba b.length bc) b w1 HM1.out (HVB.out.below HB1.out) HSB.out HLB.out).mono ?_
    rintro e w2 ⟨rfl, hb2⟩
    have K0 := (hb2.block _ (Array.getElem?_eq_some_iff.1 HK.out.1).1).trans HK.out.1
    have K1 := (hb2.block _ (Array.getElem?_eq_some_iff.1 HK.out.2.1).1).trans HK.out.2.1
    have K2 := (hb2.block _ (Array.getElem?_eq_some_iff.1 HK.out.2.2).1).trans HK.out.2.2
    have HK2 := Lib.hid K2
    have HB2 := Lib.hid (HB1.out.trans (hb2.mono HB1.out.size))
    have HM2 := Lib.hid (HM1.out.below hb2)
    clear hc0 hc1 hd0 hd1
    have hc0 : w2.cell? ⟨w.heap.size, 0, none⟩ = some (.int .i64 n) := Lib.cell_of_heap K0 0
    have hc1 : w2.cell? ⟨w.heap.size, 1, none⟩ = some (.slice aa a.length ac) := Lib.cell_of_heap K0 1
    have hd0 : w2.cell? ⟨w.heap.size + 1, 0, none⟩ = some (.int .i64 m) := Lib.cell_of_heap K1 0
    have hd1 : w2.cell? ⟨w.heap.size + 1, 1, none⟩ = some (.slice ba b.length bc) := Lib.cell_of_heap K1 1
    clear hb2 K0 K1 K2
    rcases hok2 : V.okR m b with _ | _
    · have HCZ : V.chkP n a m b = 1 := by rw [HCH.out, HOK.out, hok2]; rfl
      have HR : Hid (V.opP (holdF o) n a m b = (0, [], 1)) := Lib.hid (by rw [HF.out, HCZ]; rfl)
      clear hok2 HCZ
      go_wp2_with (first | (refine wl_putRow rfl 39 _ _ rfl (w.heap.size + 1 + 1) #[.int .i64 0, .slice none 0 0] _ HK2.out rfl #[.int .i64 0, .slice none 0 0] rfl rfl (by kernel_rfl) (setC_all _ _ _ _) ?_; intro W2 hp2; have z0 : W2.cell? ⟨w.heap.size + 1 + 1, 0, none⟩ = some (.int .i64 0) := Lib.cell_of_heap hp2.here 0; have z1 : W2.cell? ⟨w.heap.size + 1 + 1, 1, none⟩ = some (.slice none 0 0) := Lib.cell_of_heap hp2.here 1) | fail)
      have HBF := Lib.hid (hp2.below HB2.out (by omega))
      clear hp2
      exact bodyPost_ret (v := .tuple #[.agg #[.int .i64 0, .slice none 0 0], .int .i64 1]) (by simp [results, Tryz.results67, go_sem, z0, z1]) rfl (by rw [HR.out]; exact SetPost.zero HBF.out _)
    · have HOK2 := Lib.hid hok2
      clear hok2
      by_cases hnm : n = m
      · subst hnm
        have HOA := Lib.hid (V.ok_of HOK.out)
        have HOB := Lib.hid (V.ok_of HOK2.out)
        have HLEN := Lib.hid (V.opL_len (holdF o) HOA.out HOB.out)
        have HR : Hid (V.opP (holdF o) n a n b = V.limP n (V.opL n (holdF o) a b)) := Lib.hid (by rw [HF.out, if_pos (V.chk_of HOA.out HOB.out)])
        go_wp2_with fail
        refine (rrCombine_any o n (.slice aa a.length ac) (.slice ba b.length bc) a b w2 HM2.out HOA.out.sch (HVA.out.below HB2.out) (HVB.out.below HB2.out) HOA.out.bnd HOB.out.bnd (by have := HOA.out.len; omega) (by have := HOB.out.len; omega)).mono ?_
        rintro e w3 ⟨u, rfl, hu, how, hb3⟩
        rw [V.opR_opL (holdF o) HOA.out HOB.out] at hu
        obtain ⟨ua, uc, rfl⟩ := hu.slice
        have HU := Lib.hid hu
        have HOW := Lib.hid how
        have HB3 := Lib.hid (HB2.out.trans (hb3.mono HB2.out.size))
        have HK3 := Lib.hid ((hb3.block _ (Array.getElem?_eq_some_iff.1 HK2.out).1).trans HK2.out)
        have hsz2 : w.heap.size + 1 + 1 < w2.heap.size := (Array.getElem?_eq_some_iff.1 HK2.out).1
        have HSZ2 := Lib.hid hsz2
        have kc0 := below_keep hb3 hc0
        clear hu how hb3 hc0 hc1 hd0 hd1
        by_cases h32 : 32 < (V.opL n (holdF o) a b).length
        · have HR2 : Hid (V.opP (holdF o) n a n b = (0, [], 3)) := Lib.hid (by rw [HR.out]; unfold V.limP; rw [if_neg (by omega)])
          go_wp2_with (first | (refine wl_putRow rfl 39 _ _ rfl (w.heap.size + 1 + 1) #[.int .i64 0, .slice none 0 0] _ HK3.out rfl #[.int .i64 0, .slice none 0 0] rfl rfl (by kernel_rfl) (setC_all _ _ _ _) ?_; intro W2 hp2; have z0 : W2.cell? ⟨w.heap.size + 1 + 1, 0, none⟩ = some (.int .i64 0) := Lib.cell_of_heap hp2.here 0; have z1 : W2.cell? ⟨w.heap.size + 1 + 1, 1, none⟩ = some (.slice none 0 0) := Lib.cell_of_heap hp2.here 1) | fail)
          have HBF := Lib.hid (hp2.below HB3.out (by omega))
          clear hp2
          exact bodyPost_ret (v := .tuple #[.agg #[.int .i64 0, .slice none 0 0], .int .i64 3]) (by simp [results, Tryz.results67, go_sem, z0, z1]) rfl (by rw [HR2.out]; exact SetPost.zero HBF.out _)
        · have HR2 : Hid (V.opP (holdF o) n a n b = (n, V.opL n (holdF o) a b, 0)) := Lib.hid (by rw [HR.out]; unfold V.limP; rw [if_pos (by omega)])
          go_wp2_with (first | (refine wl_putRow rfl 39 _ _ rfl (w.heap.size + 1 + 1) #[.int .i64 0, .slice none 0 0] _ HK3.out rfl #[.int .i64 n, .slice ua (V.opL n (holdF o) a b).length uc] rfl rfl (by kernel_rfl) (setC_all _ _ _ _) ?_; intro W2 hp2; have z0 : W2.cell? ⟨w.heap.size + 1 + 1, 0, none⟩ = some (.int .i64 n) := Lib.cell_of_heap hp2.here 0; have z1 : W2.cell? ⟨w.heap.size + 1 + 1, 1, none⟩ = some (.slice ua (V.opL n (holdF o) a b).length uc) := Lib.cell_of_heap hp2.here 1) | fail)
          have HIV : Hid (Itvs W2 (.slice ua (V.opL n (holdF o) a b).length uc) (V.opL n (holdF o) a b)) := Lib.hid (hp2.itvs HU.out (fun c hc => by have := HOW.out c hc; have := HSZ2.out; omega))
          have HBF := Lib.hid (hp2.below HB3.out (by omega))
          clear hp2
          exact bodyPost_ret (v := .tuple #[.agg #[.int .i64 n, .slice ua (V.opL n (holdF o) a b).length uc], .int .i64 0]) (by simp [results, Tryz.results67, go_sem, z0, z1]) rfl (by rw [HR2.out]; exact ⟨_, rfl, HIV.out, (fun c hc => by have := HOW.out c hc; have := HSZ2.out; omega), HBF.out⟩)
      · have HCZ : V.chkP n a m b = 14 := by rw [HCH.out, HOK.out, HOK2.out]; simp [hnm]
        have HR : Hid (V.opP (holdF o) n a m b = (0, [], 14)) := Lib.hid (by rw [HF.out, HCZ]; rfl)
        have hq : (n != m) = true := by simpa using hnm
        clear hnm HCZ
        go_wp2_with (first | (refine wl_putRow rfl 39 _ _ rfl (w.heap.size + 1 + 1) #[.int .i64 0, .slice none 0 0] _ HK2.out rfl #[.int .i64 0, .slice none 0 0] rfl rfl (by kernel_rfl) (setC_all _ _ _ _) ?_; intro W2 hp2; have z0 : W2.cell? ⟨w.heap.size + 1 + 1, 0, none⟩ = some (.int .i64 0) := Lib.cell_of_heap hp2.here 0; have z1 : W2.cell? ⟨w.heap.size + 1 + 1, 1, none⟩ = some (.slice none 0 0) := Lib.cell_of_heap hp2.here 1) | fail)
        have HBF := Lib.hid (hp2.below HB2.out (by omega))
        clear hp2
        exact bodyPost_ret (v := .tuple #[.agg #[.int .i64 0, .slice none 0 0], .int .i64 14]) (by simp [results, Tryz.results67, go_sem, z0, z1]) rfl (by rw [HR.out]; exact SetPost.zero HBF.out _)

set_option maxRecDepth 100000 in
set_option maxHeartbeats 800000 in
theorem rrUnion_any (n m : Int) (va vb : Value) (a b : List V.Itv) (w : World) (hm : MaxOk w) (hva : Itvs w va a) (hvb : Itvs w vb b) (hsa : Lens a) (hsb : Lens b) (hla : a.length ≤ maxLen) (hlb : b.length ≤ maxLen) :
    Calls Tryz.prog 41 #[setV n va, setV m vb] w (SetPost (V.opP V.orF n a m b) w) := by
  have HVA := Lib.hid hva
  have HVB := Lib.hid hvb
  obtain ⟨aa, ac, rfl⟩ := hva.slice
  obtain ⟨ba, bc, rfl⟩ := hvb.slice
  have HSA := Lib.hid hsa
  have HSB := Lib.hid hsb
  have HLA := Lib.hid hla
  have HLB := Lib.hid hlb
  have H3 := Lib.hid (three_heap w (.cells #[.int .i64 n, .slice aa a.length ac] 39) (.cells #[.int .i64 m, .slice ba b.length bc] 39) (.cells #[.int .i64 0, .slice none 0 0] 39))
  have hb0 : Below w.heap.size w (((w.alloc (.cells #[.int .i64 n, .slice aa a.length ac] 39)).alloc (.cells #[.int .i64 m, .slice ba b.length bc] 39)).alloc (.cells #[.int .i64 0, .slice none 0 0] 39)) := (((Below.refl _ _).alloc (Nat.le_refl _) _).alloc (by simp) _).alloc (by simp; omega) _
  have HB0 := Lib.hid hb0
  have HM0 := Lib.hid (hm.below hb0)
  clear hva hvb hsa hsb hla hlb hm hb0
  unfold setV
  go_enter Tryz.func41, Tryz.ntmps41
  go_wp2_with fail
  generalize (((w.alloc (.cells #[.int .i64 n, .slice aa a.length ac] 39)).alloc (.cells #[.int .i64 m, .slice ba b.length bc] 39)).alloc (.cells #[.int .i64 0, .slice none 0 0] 39)) = w0 at *
  refine (rrChecked_any 1 n m (.slice aa a.length ac) (.slice ba b.length bc) a b w0 HM0.out (HVA.out.below HB0.out) (HVB.out.below HB0.out) HSA.out HSB.out HLA.out HLB.out).mono ?_
  rw [holdF_or]
  rintro e w1 ⟨u, rfl, hu, how, hb1⟩
  obtain ⟨p3, q3, rfl⟩ := hu.slice
  have HU := Lib.hid hu
  have HOW := Lib.hid how
  have HK := Lib.hid ((hb1.block _ (show w.heap.size + 1 + 1 < w0.heap.size by have := H3.out.2.2.2; omega)).trans H3.out.2.2.1)
  have hsz : w.heap.size + 3 ≤ w0.heap.size := by have := H3.out.2.2.2; omega
  have HB1 := Lib.hid (HB0.out.trans (hb1.mono HB0.out.size))
  clear hu how hb1
  obtain ⟨r, hr⟩ : ∃ r, r = V.opP V.orF n a m b := ⟨_, rfl⟩
  rw [← hr] at HU HOW ⊢
  have HR := Lib.hid hr
  clear hr
  obtain ⟨k1, l1, c1⟩ := r
  unfold setV
  go_wp2_with (first | (refine wl_putRow rfl 39 _ _ rfl (w.heap.size + 1 + 1) #[.int .i64 0, .slice none 0 0] _ HK.out rfl #[.int .i64 k1, .slice p3 l1.length q3] rfl rfl (by kernel_rfl) (setC_all _ _ _ _) ?_; intro W2 hp2; have z0 : W2.cell? ⟨w.heap.size + 1 + 1, 0, none⟩ = some (.int .i64 k1) := Lib.cell_of_heap hp2.here 0; have z1 : W2.cell? ⟨w.heap.size + 1 + 1, 1, none⟩ = some (.slice p3 l1.length q3) := Lib.cell_of_heap hp2.here 1) | fail)
  have HIV : Hid (Itvs W2 (.slice p3 l1.length q3) l1) := Lib.hid (hp2.itvs HU.out (fun c hc => by have := HOW.out c hc; omega))
  have HBF := Lib.hid (hp2.below HB1.out (by omega))
  clear hp2
  exact bodyPost_ret (v := .tuple #[.agg #[.int .i64 k1, .slice p3 l1.length q3], .int .i64 c1]) (by simp [results, Tryz.results41, go_sem, z0, z1]) rfl (by rw [← HR.out]; exact ⟨_, rfl, HIV.out, (fun c hc => by have := HOW.out c hc; omega), HBF.out⟩)

set_option maxRecDepth 100000 in
set_option maxHeartbeats 800000 in
theorem rrIntersect_any (n m : Int) (va vb : Value) (a b : List V.Itv) (w : World) (hm : MaxOk w) (hva : Itvs w va a) (hvb : Itvs w vb b) (hsa : Lens a) (hsb : Lens b) (hla : a.length ≤ maxLen) (hlb : b.length ≤ maxLen) :
    Calls Tryz.prog 66 #[setV n va, setV m vb] w (SetPost (V.opP V.andF n a m b) w) := by
  have HVA := Lib.hid hva
  have HVB := Lib.hid hvb
  obtain ⟨aa, ac, rfl⟩ := hva.slice
  obtain ⟨ba, bc, rfl⟩ := hvb.slice
  have HSA := Lib.hid hsa
  have HSB := Lib.hid hsb
  have HLA := Lib.hid hla
  have HLB := Lib.hid hlb
  have H3 := Lib.hid (three_heap w (.cells #[.int .i64 n, .slice aa a.length ac] 39) (.cells #[.int .i64 m, .slice ba b.length bc] 39) (.cells #[.int .i64 0, .slice none 0 0] 39))
  have hb0 : Below w.heap.size w (((w.alloc (.cells #[.int .i64 n, .slice aa a.length ac] 39)).alloc (.cells #[.int .i64 m, .slice ba b.length bc] 39)).alloc (.cells #[.int .i64 0, .slice none 0 0] 39)) := (((Below.refl _ _).alloc (Nat.le_refl _) _).alloc (by simp) _).alloc (by simp; omega) _
  have HB0 := Lib.hid hb0
  have HM0 := Lib.hid (hm.below hb0)
  clear hva hvb hsa hsb hla hlb hm hb0
  unfold setV
  go_enter Tryz.func66, Tryz.ntmps66
  go_wp2_with fail
  generalize (((w.alloc (.cells #[.int .i64 n, .slice aa a.length ac] 39)).alloc (.cells #[.int .i64 m, .slice ba b.length bc] 39)).alloc (.cells #[.int .i64 0, .slice none 0 0] 39)) = w0 at *
  refine (rrChecked_any 2 n m (.slice aa a.length ac) (.slice ba b.length bc) a b w0 HM0.out (HVA.out.below HB0.out) (HVB.out.below HB0.out) HSA.out HSB.out HLA.out HLB.out).mono ?_
  rw [holdF_and]
  rintro e w1 ⟨u, rfl, hu, how, hb1⟩
  obtain ⟨p3, q3, rfl⟩ := hu.slice
  have HU := Lib.hid hu
  have HOW := Lib.hid how
  have HK := Lib.hid ((hb1.block _ (show w.heap.size + 1 + 1 < w0.heap.size by have := H3.out.2.2.2; omega)).trans H3.out.2.2.1)
  have hsz : w.heap.size + 3 ≤ w0.heap.size := by have := H3.out.2.2.2; omega
  have HB1 := Lib.hid (HB0.out.trans (hb1.mono HB0.out.size))
  clear hu how hb1
  obtain ⟨r, hr⟩ : ∃ r, r = V.opP V.andF n a m b := ⟨_, rfl⟩
  rw [← hr] at HU HOW ⊢
  have HR := Lib.hid hr
  clear hr
  obtain ⟨k1, l1, c1⟩ := r
  unfold setV
  go_wp2_with (first | (refine wl_putRow rfl 39 _ _ rfl (w.heap.size + 1 + 1) #[.int .i64 0, .slice none 0 0] _ HK.out rfl #[.int .i64 k1, .slice p3 l1.length q3] rfl rfl (by kernel_rfl) (setC_all _ _ _ _) ?_; intro W2 hp2; have z0 : W2.cell? ⟨w.heap.size + 1 + 1, 0, none⟩ = some (.int .i64 k1) := Lib.cell_of_heap hp2.here 0; have z1 : W2.cell? ⟨w.heap.size + 1 + 1, 1, none⟩ = some (.slice p3 l1.length q3) := Lib.cell_of_heap hp2.here 1) | fail)
  have HIV : Hid (Itvs W2 (.slice p3 l1.length q3) l1) := Lib.hid (hp2.itvs HU.out (fun c hc => by have := HOW.out c hc; omega))
  have HBF := Lib.hid (hp2.below HB1.out (by omega))
  clear hp2
  exact bodyPost_ret (v := .tuple #[.agg #[.int .i64 k1, .slice p3 l1.length q3], .int .i64 c1]) (by simp [results, Tryz.results66, go_sem, z0, z1]) rfl (by rw [← HR.out]; exact ⟨_, rfl, HIV.out, (fun c hc => by have := HOW.out c hc; omega), HBF.out⟩)

set_option maxRecDepth 100000 in
set_option maxHeartbeats 800000 in
theorem rrAll_any (n : Int) (w : World) : Calls Tryz.prog 16 #[.int .i64 n] w (SetPost (allP n) w) := by
  have HF : Hid (allP n = if V.scheme n then (n, [V.noI], 0) else (0, [], 14)) := Lib.hid rfl
  have K0 : Hid ((w.alloc (.cells #[.int .i64 0, .slice none 0 0] 39)).heap[w.heap.size]? = some (.cells #[.int .i64 0, .slice none 0 0] 39 (0, 0))) := Lib.hid (by rw [heap_alloc, if_pos rfl])
  have HB0 := Lib.hid ((Below.refl w.heap.size w).alloc (Nat.le_refl _) (.cells #[.int .i64 0, .slice none 0 0] 39))
  have hsz : w.heap.size < (w.alloc (.cells #[.int .i64 0, .slice none 0 0] 39)).heap.size := by simp
  go_enter Tryz.func16, Tryz.ntmps16
  go_wp2_with fail
  generalize w.alloc (.cells #[.int .i64 0, .slice none 0 0] 39) = w0 at *
  refine (rscheme_any n w0).mono ?_
  rintro e w' ⟨rfl, rfl⟩
  rcases hs : V.scheme n with _ | _
  · have HR : Hid (allP n = (0, [], 14)) := Lib.hid (by rw [HF.out, hs]; rfl)
    clear hs
    go_wp2_with (first | (refine wl_putRow rfl 39 _ _ rfl w.heap.size #[.int .i64 0, .slice none 0 0] _ K0.out rfl #[.int .i64 0, .slice none 0 0] rfl rfl (by kernel_rfl) (setC_all _ _ _ _) ?_; intro W2 hp2; have z0 : W2.cell? ⟨w.heap.size, 0, none⟩ = some (.int .i64 0) := Lib.cell_of_heap hp2.here 0; have z1 : W2.cell? ⟨w.heap.size, 1, none⟩ = some (.slice none 0 0) := Lib.cell_of_heap hp2.here 1) | fail)
    have HBF := Lib.hid (hp2.below HB0.out (Nat.le_refl _))
    clear hp2
    exact bodyPost_ret (v := .tuple #[.agg #[.int .i64 0, .slice none 0 0], .int .i64 14]) (by simp [results, Tryz.results16, go_sem, z0, z1]) rfl (by rw [HR.out]; exact SetPost.zero HBF.out _)
  · have HR : Hid (allP n = (n, [V.noI], 0)) := Lib.hid (by rw [HF.out, hs]; rfl)
    have hb1 : Below w0.heap.size w0 (w0.alloc (.cells #[.string ⟨#[]⟩, .int .i64 0, .string ⟨#[]⟩, .int .i64 0] 80)) := (Below.refl _ _).alloc (Nat.le_refl _) _
    have K1 := Lib.hid ((hb1.block _ (Array.getElem?_eq_some_iff.1 K0.out).1).trans K0.out)
    have HB1 := Lib.hid (HB0.out.trans (hb1.mono HB0.out.size))
    have HI := Lib.hid (itvs_one w0)
    clear hs hb1
    go_wp2_with (first | (refine wl_putRow rfl 39 _ _ rfl w.heap.size #[.int .i64 0, .slice none 0 0] _ K1.out rfl #[.int .i64 n, .slice (some ⟨w0.heap.size, 0, none⟩) 1 1] rfl rfl (by kernel_rfl) (setC_all _ _ _ _) ?_; intro W2 hp2; have z0 : W2.cell? ⟨w.heap.size, 0, none⟩ = some (.int .i64 n) := Lib.cell_of_heap hp2.here 0; have z1 : W2.cell? ⟨w.heap.size, 1, none⟩ = some (.slice (some ⟨w0.heap.size, 0, none⟩) 1 1) := Lib.cell_of_heap hp2.here 1) | fail)
    have HBF := Lib.hid (hp2.below HB1.out (Nat.le_refl _))
    have HIV := Lib.hid (hp2.itvs HI.out (fun c hc => by simp [Value.ownBlock] at hc; omega))
    clear hp2
    exact bodyPost_ret (v := .tuple #[.agg #[.int .i64 n, .slice (some ⟨w0.heap.size, 0, none⟩) 1 1], .int .i64 0]) (by simp [results, Tryz.results16, go_sem, z0, z1]) rfl (by rw [HR.out]; exact ⟨_, rfl, HIV.out, (fun c hc => by simp [Value.ownBlock] at hc; omega), HBF.out⟩)
end Go.Proofs.YtpjjkbdkgaehkaaGreatDoor
