/-
  Walks: Union, Intersect, Minus, Complement, Subset, All, None of package ranges.
-/
import Derived.Test.YtolojkkhmamddaaGreatDoorMH
namespace Go.Proofs.YtolojkkhmamddaaGreatDoor
open Go.RowKit


set_option maxRecDepth 100000 in
set_option maxHeartbeats 800000 in
theorem rgUnion_any (n m : Int) (va vb : Value) (a b : List V.Itv) (w : World) (hm : MaxOk w) (hva : Itvs w va a) (hvb : Itvs w vb b) (hsa : Lens a) (hsb : Lens b) (hla : a.length ≤ maxLen) (hlb : b.length ≤ maxLen) :
    Calls Tryz.prog 12 #[setV n va, setV m vb] w (SetPost (V.opP V.orF n a m b) w) := by
  have HVA := Lib.hid hva
  have HVB := Lib.hid hvb
  obtain ⟨aa, ac, rfl⟩ := hva.slice
  obtain ⟨ba, bc, rfl⟩ := hvb.slice
  have HSA := Lib.hid hsa
  have HSB := Lib.hid hsb
  have HLA := Lib.hid hla
  have HLB := Lib.hid hlb
  have H3 := Lib.hid (three_heap w (.cells #[.int .i64 n, .slice aa a.length ac] 25) (.cells #[.int .i64 m, .slice ba b.length bc] 25) (.cells #[.int .i64 0, .slice none 0 0] 25))
  have hb0 : Below w.heap.size w (((w.alloc (.cells #[.int .i64 n, .slice aa a.length ac] 25)).alloc (.cells #[.int .i64 m, .slice ba b.length bc] 25)).alloc (.cells #[.int .i64 0, .slice none 0 0] 25)) := (((Below.refl _ _).alloc (Nat.le_refl _) _).alloc (by simp) _).alloc (by simp; omega) _
  have HB0 := Lib.hid hb0
  have HM0 := Lib.hid (hm.below hb0)
  clear hva hvb hsa hsb hla hlb hm hb0
  unfold setV
  go_enter Tryz.func12, Tryz.ntmps12
  go_wp2_with fail
  generalize ((w.alloc (.cells #[.int .i64 n, .slice aa a.length ac] 25)).alloc (.cells #[.int .i64 m, .slice ba b.length bc] 25)).alloc (.cells #[.int .i64 0, .slice none 0 0] 25) = w0 at *
  refine (rgOperate_any n m (.slice aa a.length ac) (.slice ba b.length bc) a b 44 V.orF w0 HM0.out (HVA.out.below HB0.out) (HVB.out.below HB0.out) HSA.out HSB.out HLA.out HLB.out (enters_of Tryz.func44 (by kernel_rfl) rfl) (fun x y W => rgUnion_f x y W)).mono ?_
  rintro e w1 ⟨u, rfl, hu, how, hb1⟩
  obtain ⟨p3, q3, rfl⟩ := hu.slice
  have HU := Lib.hid hu
  have HOW := Lib.hid how
  have HK := Lib.hid ((hb1.block _ (show w.heap.size + 1 + 1 < w0.heap.size by have := H3.out.2.2.2; omega)).trans H3.out.2.2.1)
  have hsz : w0.heap.size = w.heap.size + 3 := H3.out.2.2.2
  have HB1 := Lib.hid (HB0.out.trans (hb1.mono HB0.out.size))
  clear hu how hb1
  obtain ⟨r, hr⟩ : ∃ r, r = V.opP V.orF n a m b := ⟨_, rfl⟩
  rw [← hr] at HU HOW ⊢
  have HR := Lib.hid hr
  clear hr
  obtain ⟨k1, l1, c1⟩ := r
  unfold setV
  go_wp2_with (first | (refine wl_putRow rfl 25 _ _ rfl (w.heap.size + 1 + 1) #[.int .i64 0, .slice none 0 0] _ HK.out rfl #[.int .i64 k1, .slice p3 l1.length q3] rfl rfl (by kernel_rfl) (setC_all _ _ _ _) ?_; intro W2 hp2; have z0 : W2.cell? ⟨w.heap.size + 1 + 1, 0, none⟩ = some (.int .i64 k1) := Lib.cell_of_heap hp2.here 0; have z1 : W2.cell? ⟨w.heap.size + 1 + 1, 1, none⟩ = some (.slice p3 l1.length q3) := Lib.cell_of_heap hp2.here 1) | fail)
  have HIV : Hid (Itvs W2 (.slice p3 l1.length q3) l1) := Lib.hid (hp2.itvs HU.out (fun c hc => by have := HOW.out c hc; omega))
  have HBF := Lib.hid (hp2.below HB1.out (by omega))
  clear hp2
  exact bodyPost_ret (v := .tuple #[.agg #[.int .i64 k1, .slice p3 l1.length q3], .int .i64 c1]) (by simp [results, Tryz.results12, go_sem, z0, z1]) rfl (by rw [← HR.out]; exact ⟨_, rfl, HIV.out, (fun c hc => by have := HOW.out c hc; omega), HBF.out⟩)

set_option maxRecDepth 100000 in
set_option maxHeartbeats 800000 in
theorem rgIntersect_any (n m : Int) (va vb : Value) (a b : List V.Itv) (w : World) (hm : MaxOk w) (hva : Itvs w va a) (hvb : Itvs w vb b) (hsa : Lens a) (hsb : Lens b) (hla : a.length ≤ maxLen) (hlb : b.length ≤ maxLen) :
    Calls Tryz.prog 16 #[setV n va, setV m vb] w (SetPost (V.opP V.andF n a m b) w) := by
  have HVA := Lib.hid hva
  have HVB := Lib.hid hvb
  obtain ⟨aa, ac, rfl⟩ := hva.slice
  obtain ⟨ba, bc, rfl⟩ := hvb.slice
  have HSA := Lib.hid hsa
  have HSB := Lib.hid hsb
  have HLA := Lib.hid hla
  have HLB := Lib.hid hlb
  have H3 := Lib.hid (three_heap w (.cells #[.int .i64 n, .slice aa a.length ac] 25) (.cells #[.int .i64 m, .slice ba b.length bc] 25) (.cells #[.int .i64 0, .slice none 0 0] 25))
  have hb0 : Below w.heap.size w (((w.alloc (.cells #[.int .i64 n, .slice aa a.length ac] 25)).alloc (.cells #[.int .i64 m, .slice ba b.length bc] 25)).alloc (.cells #[.int .i64 0, .slice none 0 0] 25)) := (((Below.refl _ _).alloc (Nat.le_refl _) _).alloc (by simp) _).alloc (by simp; omega) _
  have HB0 := Lib.hid hb0
  have HM0 := Lib.hid (hm.below hb0)
  clear hva hvb hsa hsb hla hlb hm hb0
  unfold setV
  go_enter Tryz.func16, Tryz.ntmps16
  go_wp2_with fail
  generalize ((w.alloc (.cells #[.int .i64 n, .slice aa a.length ac] 25)).alloc (.cells #[.int .i64 m, .slice ba b.length bc] 25)).alloc (.cells #[.int .i64 0, .slice none 0 0] 25) = w0 at *
  refine (rgOperate_any n m (.slice aa a.length ac) (.slice ba b.length bc) a b 49 V.andF w0 HM0.out (HVA.out.below HB0.out) (HVB.out.below HB0.out) HSA.out HSB.out HLA.out HLB.out (enters_of Tryz.func49 (by kernel_rfl) rfl) (fun x y W => rgIntersect_f x y W)).mono ?_
  rintro e w1 ⟨u, rfl, hu, how, hb1⟩
  obtain ⟨p3, q3, rfl⟩ := hu.slice
  have HU := Lib.hid hu
  have HOW := Lib.hid how
  have HK := Lib.hid ((hb1.block _ (show w.heap.size + 1 + 1 < w0.heap.size by have := H3.out.2.2.2; omega)).trans H3.out.2.2.1)
  have hsz : w0.heap.size = w.heap.size + 3 := H3.out.2.2.2
  have HB1 := Lib.hid (HB0.out.trans (hb1.mono HB0.out.size))
  clear hu how hb1
  obtain ⟨r, hr⟩ : ∃ r, r = V.opP V.andF n a m b := ⟨_, rfl⟩
  rw [← hr] at HU HOW ⊢
  have HR := Lib.hid hr
  clear hr
  obtain ⟨k1, l1, c1⟩ := r
  unfold setV
  go_wp2_with (first | (refine wl_putRow rfl 25 _ _ rfl (w.heap.size + 1 + 1) #[.int .i64 0, .slice none 0 0] _ HK.out rfl #[.int .i64 k1, .slice p3 l1.length q3] rfl rfl (by kernel_rfl) (setC_all _ _ _ _) ?_; intro W2 hp2; have z0 : W2.cell? ⟨w.heap.size + 1 + 1, 0, none⟩ = some (.int .i64 k1) := Lib.cell_of_heap hp2.here 0; have z1 : W2.cell? ⟨w.heap.size + 1 + 1, 1, none⟩ = some (.slice p3 l1.length q3) := Lib.cell_of_heap hp2.here 1) | fail)
  have HIV : Hid (Itvs W2 (.slice p3 l1.length q3) l1) := Lib.hid (hp2.itvs HU.out (fun c hc => by have := HOW.out c hc; omega))
  have HBF := Lib.hid (hp2.below HB1.out (by omega))
  clear hp2
  exact bodyPost_ret (v := .tuple #[.agg #[.int .i64 k1, .slice p3 l1.length q3], .int .i64 c1]) (by simp [results, Tryz.results16, go_sem, z0, z1]) rfl (by rw [← HR.out]; exact ⟨_, rfl, HIV.out, (fun c hc => by have := HOW.out c hc; omega), HBF.out⟩)

set_option maxRecDepth 100000 in
set_option maxHeartbeats 800000 in
theorem rgMinus_any (n m : Int) (va vb : Value) (a b : List V.Itv) (w : World) (hm : MaxOk w) (hva : Itvs w va a) (hvb : Itvs w vb b) (hsa : Lens a) (hsb : Lens b) (hla : a.length ≤ maxLen) (hlb : b.length ≤ maxLen) :
    Calls Tryz.prog 17 #[setV n va, setV m vb] w (SetPost (V.opP V.minusF n a m b) w) := by
  have HVA := Lib.hid hva
  have HVB := Lib.hid hvb
  obtain ⟨aa, ac, rfl⟩ := hva.slice
  obtain ⟨ba, bc, rfl⟩ := hvb.slice
  have HSA := Lib.hid hsa
  have HSB := Lib.hid hsb
  have HLA := Lib.hid hla
  have HLB := Lib.hid hlb
  have H3 := Lib.hid (three_heap w (.cells #[.int .i64 n, .slice aa a.length ac] 25) (.cells #[.int .i64 m, .slice ba b.length bc] 25) (.cells #[.int .i64 0, .slice none 0 0] 25))
  have hb0 : Below w.heap.size w (((w.alloc (.cells #[.int .i64 n, .slice aa a.length ac] 25)).alloc (.cells #[.int .i64 m, .slice ba b.length bc] 25)).alloc (.cells #[.int .i64 0, .slice none 0 0] 25)) := (((Below.refl _ _).alloc (Nat.le_refl _) _).alloc (by simp) _).alloc (by simp; omega) _
  have HB0 := Lib.hid hb0
  have HM0 := Lib.hid (hm.below hb0)
  clear hva hvb hsa hsb hla hlb hm hb0
  unfold setV
  go_enter Tryz.func17, Tryz.ntmps17
  go_wp2_with fail
  generalize ((w.alloc (.cells #[.int .i64 n, .slice aa a.length ac] 25)).alloc (.cells #[.int .i64 m, .slice ba b.length bc] 25)).alloc (.cells #[.int .i64 0, .slice none 0 0] 25) = w0 at *
  refine (rgOperate_any n m (.slice aa a.length ac) (.slice ba b.length bc) a b 42 V.minusF w0 HM0.out (HVA.out.below HB0.out) (HVB.out.below HB0.out) HSA.out HSB.out HLA.out HLB.out (enters_of Tryz.func42 (by kernel_rfl) rfl) (fun x y W => rgMinus_f x y W)).mono ?_
  rintro e w1 ⟨u, rfl, hu, how, hb1⟩
  obtain ⟨p3, q3, rfl⟩ := hu.slice
  have HU := Lib.hid hu
  have HOW := Lib.hid how
  have HK := Lib.hid ((hb1.block _ (show w.heap.size + 1 + 1 < w0.heap.size by have := H3.out.2.2.2; omega)).trans H3.out.2.2.1)
  have hsz : w0.heap.size = w.heap.size + 3 := H3.out.2.2.2
  have HB1 := Lib.hid (HB0.out.trans (hb1.mono HB0.out.size))
  clear hu how hb1
  obtain ⟨r, hr⟩ : ∃ r, r = V.opP V.minusF n a m b := ⟨_, rfl⟩
  rw [← hr] at HU HOW ⊢
  have HR := Lib.hid hr
  clear hr
  obtain ⟨k1, l1, c1⟩ := r
  unfold setV
  go_wp2_with (first | (refine wl_putRow rfl 25 _ _ rfl (w.heap.size + 1 + 1) #[.int .i64 0, .slice none 0 0] _ HK.out rfl #[.int .i64 k1, .slice p3 l1.length q3] rfl rfl (by kernel_rfl) (setC_all _ _ _ _) ?_; intro W2 hp2; have z0 : W2.cell? ⟨w.heap.size + 1 + 1, 0, none⟩ = some (.int .i64 k1) := Lib.cell_of_heap hp2.here 0; have z1 : W2.cell? ⟨w.heap.size + 1 + 1, 1, none⟩ = some (.slice p3 l1.length q3) := Lib.cell_of_heap hp2.here 1) | fail)
  have HIV : Hid (Itvs W2 (.slice p3 l1.length q3) l1) := Lib.hid (hp2.itvs HU.out (fun c hc => by have := HOW.out c hc; omega))
  have HBF := Lib.hid (hp2.below HB1.out (by omega))
  clear hp2
  exact bodyPost_ret (v := .tuple #[.agg #[.int .i64 k1, .slice p3 l1.length q3], .int .i64 c1]) (by simp [results, Tryz.results17, go_sem, z0, z1]) rfl (by rw [← HR.out]; exact ⟨_, rfl, HIV.out, (fun c hc => by have := HOW.out c hc; omega), HBF.out⟩)

set_option maxRecDepth 100000 in
set_option maxHeartbeats 1600000 in
theorem rgComplement_any (n : Int) (va : Value) (a : List V.Itv) (w : World) (hm : MaxOk w) (hva : Itvs w va a) (hsa : Lens a) (hla : a.length ≤ maxLen) :
    Calls Tryz.prog 18 #[setV n va] w (SetPost (V.compP n a) w) := by
  have HVA := Lib.hid hva
  obtain ⟨aa, ac, rfl⟩ := hva.slice
  have HSA := Lib.hid hsa
  have HLA := Lib.hid hla
  have HF : Hid (V.compP n a = if V.okR n a then V.limP n (V.opL n V.notF a []) else (0, [], 1)) := Lib.hid rfl
  obtain ⟨hb0, hc0, _, hz0⟩ := two_alloc w #[.int .i64 n, .slice aa a.length ac] #[.int .i64 0, .slice none 0 0] 25 25
  have K0 : ((w.alloc (.cells #[.int .i64 n, .slice aa a.length ac] 25)).alloc (.cells #[.int .i64 0, .slice none 0 0] 25)).heap[w.heap.size]? = some (.cells #[.int .i64 n, .slice aa a.length ac] 25 (0, 0)) := by rw [heap_alloc, if_neg (by simp), heap_alloc, if_pos rfl]
  have K1 : ((w.alloc (.cells #[.int .i64 n, .slice aa a.length ac] 25)).alloc (.cells #[.int .i64 0, .slice none 0 0] 25)).heap[w.heap.size + 1]? = some (.cells #[.int .i64 0, .slice none 0 0] 25 (0, 0)) := by rw [heap_alloc, if_pos (by simp)]
  have H3 := Lib.hid (And.intro K0 (And.intro K1 hz0))
  have HB0 := Lib.hid hb0
  have HM0 := Lib.hid (hm.below hb0)
  clear hva hsa hla hm hb0 hc0 hz0 K0 K1
  unfold setV
  go_enter Tryz.func18, Tryz.ntmps18
  go_wp2_with fail
  generalize (w.alloc (.cells #[.int .i64 n, .slice aa a.length ac] 25)).alloc (.cells #[.int .i64 0, .slice none 0 0] 25) = w0 at *
  refine (rgValid_any n (.slice aa a.length ac) a w0 HM0.out (HVA.out.below HB0.out) HSA.out HLA.out).mono ?_
  rintro e w1 ⟨rfl, hb1⟩
  have hsz := H3.out.2.2
  have K0 := (hb1.block _ (show w.heap.size < w0.heap.size by omega)).trans H3.out.1
  have K1 := (hb1.block _ (show w.heap.size + 1 < w0.heap.size by omega)).trans H3.out.2.1
  have HK := Lib.hid (And.intro K0 K1)
  have HB1 := Lib.hid (HB0.out.trans (hb1.mono HB0.out.size))
  have HM1 := Lib.hid (HM0.out.below hb1)
  have hc0 : w1.cell? ⟨w.heap.size, 0, none⟩ = some (.int .i64 n) := Lib.cell_of_heap K0 0
  have hc1 : w1.cell? ⟨w.heap.size, 1, none⟩ = some (.slice aa a.length ac) := Lib.cell_of_heap K0 1
  have hsz1 : w.heap.size + 1 < w1.heap.size := (Array.getElem?_eq_some_iff.1 K1).1
  clear hb1 K0 K1
  rcases hok : V.okR n a with _ | _
  · have HR : Hid (V.compP n a = (0, [], 1)) := Lib.hid (by rw [HF.out, hok]; rfl)
    clear hok
    go_wp2_with (first | (refine wl_putRow rfl 25 _ _ rfl (w.heap.size + 1) #[.int .i64 0, .slice none 0 0] _ HK.out.2 rfl #[.int .i64 0, .slice none 0 0] rfl rfl (by kernel_rfl) (setC_all _ _ _ _) ?_; intro W2 hp2; have z0 : W2.cell? ⟨w.heap.size + 1, 0, none⟩ = some (.int .i64 0) := Lib.cell_of_heap hp2.here 0; have z1 : W2.cell? ⟨w.heap.size + 1, 1, none⟩ = some (.slice none 0 0) := Lib.cell_of_heap hp2.here 1) | fail)
    have HBF := Lib.hid (hp2.below HB1.out (by omega))
    clear hp2
    exact bodyPost_ret (v := .tuple #[.agg #[.int .i64 0, .slice none 0 0], .int .i64 1]) (by simp [results, Tryz.results18, go_sem, z0, z1]) rfl (by rw [HR.out]; exact SetPost.zero HBF.out _)
  · have HR : Hid (V.compP n a = V.limP n (V.opL n V.notF a [])) := Lib.hid (by rw [HF.out, hok]; rfl)
    have HOA := Lib.hid (V.ok_of hok)
    have HNI := Lib.hid (V.ok_nil (V.ok_of hok).sch)
    have HLEN := Lib.hid (V.opL_len V.notF HOA.out HNI.out)
    clear hok
    go_wp2_with fail
    refine (rgCombine_any n a [] (.slice aa a.length ac) (.slice none 0 0) 51 V.notF w1 HM1.out HOA.out HNI.out (HVA.out.below HB1.out) (Itvs.nil _) (enters_of Tryz.func51 (by kernel_rfl) rfl) (fun x y W => rgComplement_f x y W)).mono ?_
    rintro e w2 ⟨u, rfl, hu, how, hb2⟩
    obtain ⟨ua, uc, rfl⟩ := hu.slice
    have HU := Lib.hid hu
    have HOW := Lib.hid how
    have HB2 := Lib.hid (HB1.out.trans (hb2.mono HB1.out.size))
    have HK2 := Lib.hid ((hb2.block _ hsz1).trans HK.out.2)
    clear hu how hb2 hc0 hc1
    unfold setV
    go_wp2_with fail
    refine (rgLimited_any n (.slice ua (V.opL n V.notF a []).length uc) _ w2 HU.out (by have := HLEN.out; omega)).mono ?_
    rintro e w3 ⟨u3, rfl, hu3, hb3⟩
    have HU3 := Lib.hid hu3
    have hsl : ∃ p q r, u3 = .slice p q r := by
      rcases hu3 with ⟨rfl, _⟩ | ⟨rfl, _⟩
      · exact ⟨_, _, _, rfl⟩
      · exact ⟨_, _, _, rfl⟩
    obtain ⟨p3, q3, r3, rfl⟩ := hsl
    have HB3 := Lib.hid (HB2.out.trans (hb3.mono HB2.out.size))
    have HK3 := Lib.hid ((hb3.block _ (Array.getElem?_eq_some_iff.1 HK2.out).1).trans HK2.out)
    have HU4 := Lib.hid (HU.out.below hb3)
    clear hu3 hb3
    obtain ⟨r, hr⟩ : ∃ r, r = V.limP n (V.opL n V.notF a []) := ⟨_, rfl⟩
    rw [← hr] at HU3 HR ⊢
    clear hr
    obtain ⟨k1, l1, c1⟩ := r
    unfold setV
    go_wp2_with (first | (refine wl_putRow rfl 25 _ _ rfl (w.heap.size + 1) #[.int .i64 0, .slice none 0 0] _ HK3.out rfl #[.int .i64 k1, .slice p3 q3 r3] rfl rfl (by kernel_rfl) (setC_all _ _ _ _) ?_; intro W2 hp2; have z0 : W2.cell? ⟨w.heap.size + 1, 0, none⟩ = some (.int .i64 k1) := Lib.cell_of_heap hp2.here 0; have z1 : W2.cell? ⟨w.heap.size + 1, 1, none⟩ = some (.slice p3 q3 r3) := Lib.cell_of_heap hp2.here 1) | fail)
    have HOF : Hid (∀ c, (Value.slice p3 q3 r3).ownBlock = some c → w1.heap.size ≤ c) := Lib.hid (fun c hc => by
      rcases HU3.out with ⟨e, _⟩ | ⟨e, _⟩
      · rw [e] at hc; exact HOW.out c hc
      · rw [e] at hc; cases hc)
    have HIV : Hid (Itvs W2 (.slice p3 q3 r3) l1) := Lib.hid (hp2.itvs (by
      rcases HU3.out with ⟨e, e2⟩ | ⟨e, e2⟩
      · rw [e, e2]; exact HU4.out
      · rw [e, e2]; exact Itvs.nil _) (fun c hc => by have := HOF.out c hc; omega))
    have HBF := Lib.hid (hp2.below HB3.out (by omega))
    clear hp2
    exact bodyPost_ret (v := .tuple #[.agg #[.int .i64 k1, .slice p3 q3 r3], .int .i64 c1]) (by simp [results, Tryz.results18, go_sem, z0, z1]) rfl (by rw [HR.out]; exact ⟨_, rfl, HIV.out, (fun c hc => by have := HOF.out c hc; omega), HBF.out⟩)

theorem field_set (n : Int) (a : Option Addr) (l c : Nat) (w : World) : (Instr.field 25 (.agg #[.int .i64 n, .slice a l c]) 1).run Tryz.prog w = .ok (.slice a l c) w := by kernel_rfl
def SubPost (r : Bool × Int) (w : World) (e : Ending) (w' : World) : Prop := e = .returned (.tuple #[.bool r.1, .int .i64 r.2]) ∧ Below w.heap.size w w'
set_option maxRecDepth 100000 in
set_option maxHeartbeats 1600000 in
theorem rgSubset_any (n m : Int) (va vb : Value) (a b : List V.Itv) (w : World) (hm : MaxOk w) (hva : Itvs w va a) (hvb : Itvs w vb b) (hsa : Lens a) (hsb : Lens b) (hla : a.length ≤ maxLen) (hlb : b.length ≤ maxLen) :
    Calls Tryz.prog 11 #[setV n va, setV m vb] w (SubPost (V.subP n a m b) w) := by
  have HVA := Lib.hid hva
  have HVB := Lib.hid hvb
  obtain ⟨aa, ac, rfl⟩ := hva.slice
  obtain ⟨ba, bc, rfl⟩ := hvb.slice
  have HSA := Lib.hid hsa
  have HSB := Lib.hid hsb
  have HLA := Lib.hid hla
  have HLB := Lib.hid hlb
  have HF : Hid (V.subP n a m b = if V.chkP n a m b = 0 then (V.subL n a b, 0) else (false, V.chkP n a m b)) := Lib.hid rfl
  obtain ⟨hb0, hc0, _, hz0⟩ := two_alloc w #[.int .i64 n, .slice aa a.length ac] #[.int .i64 m, .slice ba b.length bc] 25 25
  have c0 : ((w.alloc (.cells #[.int .i64 n, .slice aa a.length ac] 25)).alloc (.cells #[.int .i64 m, .slice ba b.length bc] 25)).cell? ⟨w.heap.size, 0, none⟩ = some (.int .i64 n) := by simp [cell_alloc]
  have c1 : ((w.alloc (.cells #[.int .i64 n, .slice aa a.length ac] 25)).alloc (.cells #[.int .i64 m, .slice ba b.length bc] 25)).cell? ⟨w.heap.size, 1, none⟩ = some (.slice aa a.length ac) := by simp [cell_alloc]
  have d0 : ((w.alloc (.cells #[.int .i64 n, .slice aa a.length ac] 25)).alloc (.cells #[.int .i64 m, .slice ba b.length bc] 25)).cell? ⟨w.heap.size + 1, 0, none⟩ = some (.int .i64 m) := by rw [hc0]; rfl
  have d1 : ((w.alloc (.cells #[.int .i64 n, .slice aa a.length ac] 25)).alloc (.cells #[.int .i64 m, .slice ba b.length bc] 25)).cell? ⟨w.heap.size + 1, 1, none⟩ = some (.slice ba b.length bc) := by rw [hc0]; rfl
  have HB0 := Lib.hid hb0
  have HM0 := Lib.hid (hm.below hb0)
  clear hva hvb hsa hsb hla hlb hm hc0 hb0 hz0
  unfold setV
  go_enter Tryz.func11, Tryz.ntmps11
  go_wp2_with fail
  generalize (w.alloc (.cells #[.int .i64 n, .slice aa a.length ac] 25)).alloc (.cells #[.int .i64 m, .slice ba b.length bc] 25) = w0 at *
  refine (rgCheck_any n m (.slice aa a.length ac) (.slice ba b.length bc) a b w0 HM0.out (HVA.out.below HB0.out) (HVB.out.below HB0.out) HSA.out HSB.out HLA.out HLB.out).mono ?_
  rintro e w1 ⟨rfl, hb1⟩
  have k0 := below_keep hb1 c0
  have k1 := below_keep hb1 c1
  have k2 := below_keep hb1 d0
  have k3 := below_keep hb1 d1
  have HB1 := Lib.hid (HB0.out.trans (hb1.mono HB0.out.size))
  have HM1 := Lib.hid (HM0.out.below hb1)
  clear hb1 c0 c1 d0 d1
  by_cases hz : V.chkP n a m b = 0
  · obtain ⟨oka, okb, rfl⟩ := V.chk_zero hz
    have HOA := Lib.hid oka
    have HOB := Lib.hid okb
    have HR : Hid (V.subP n a n b = (decide ((V.opL n V.minusF a b).length = 0), 0)) := Lib.hid (by rw [HF.out, if_pos hz]; rfl)
    rw [hz]
    clear oka okb hz
    go_wp2_with fail
    refine (rgCombine_any n a b (.slice aa a.length ac) (.slice ba b.length bc) 42 V.minusF w1 HM1.out HOA.out HOB.out (HVA.out.below HB1.out) (HVB.out.below HB1.out) (enters_of Tryz.func42 (by kernel_rfl) rfl) (fun x y W => rgMinus_f x y W)).mono ?_
    rintro e w2 ⟨u, rfl, hu, how, hb2⟩
    obtain ⟨ua, uc, rfl⟩ := hu.slice
    have HB2 := Lib.hid (HB1.out.trans (hb2.mono HB1.out.size))
    clear hu how hb2 k0 k1 k2 k3
    unfold setV
    have hfld := field_set n ua (V.opL n V.minusF a b).length uc w2
    by_cases h0 : (V.opL n V.minusF a b).length = 0
    · have HR2 : Hid (V.subP n a n b = (true, 0)) := Lib.hid (by rw [HR.out, decide_eq_true h0])
      have hq : (((V.opL n V.minusF a b).length : Int) == 0) = true := by rw [h0]; rfl
      clear h0
      go_wp2
      go_ret2
      exact (by rw [HR2.out]; exact ⟨rfl, HB2.out⟩)
    · have HR2 : Hid (V.subP n a n b = (false, 0)) := Lib.hid (by rw [HR.out, decide_eq_false h0])
      have hq : (((V.opL n V.minusF a b).length : Int) == 0) = false := by rw [beq_eq_false_iff_ne]; omega
      clear h0
      go_wp2
      go_ret2
      exact (by rw [HR2.out]; exact ⟨rfl, HB2.out⟩)
  · have HR : Hid (V.subP n a m b = (false, V.chkP n a m b)) := Lib.hid (by rw [HF.out, if_neg hz])
    have hq : (V.chkP n a m b != 0) = true := by simpa using hz
    clear hz
    generalize V.chkP n a m b = z at *
    go_wp2
    go_ret2
    exact (by rw [HR.out]; exact ⟨rfl, HB1.out⟩)

def allP (n : Int) : Int × List V.Itv × Int := if V.scheme n then (n, [V.noI], 0) else (0, [], 14)
def noneP (n : Int) : Int × List V.Itv × Int := if V.scheme n then (n, [], 0) else (0, [], 14)
theorem itvs_one (w : World) : Itvs (w.alloc (.cells #[.string ⟨#[]⟩, .int .i64 0, .string ⟨#[]⟩, .int .i64 0] 64)) (.slice (some ⟨w.heap.size, 0, none⟩) 1 1) [V.noI] := by
  refine ⟨some ⟨w.heap.size, 0, none⟩, 1, rfl, fun j hj => ?_⟩
  obtain rfl : j = 0 := by simpa using hj
  exact ⟨w.heap.size, 0, rfl, by simp, by simp [cell_alloc, V.noI], by simp [cell_alloc, V.noI], by simp [cell_alloc, V.noI], by simp [cell_alloc, V.noI]⟩
set_option maxRecDepth 100000 in
set_option maxHeartbeats 800000 in
theorem rgAll_any (n : Int) (w : World) : Calls Tryz.prog 20 #[.int .i64 n] w (SetPost (allP n) w) := by
  have HF : Hid (allP n = if V.scheme n then (n, [V.noI], 0) else (0, [], 14)) := Lib.hid rfl
  have K0 : Hid ((w.alloc (.cells #[.int .i64 0, .slice none 0 0] 25)).heap[w.heap.size]? = some (.cells #[.int .i64 0, .slice none 0 0] 25 (0, 0))) := Lib.hid (by rw [heap_alloc, if_pos rfl])
  have HB0 := Lib.hid ((Below.refl w.heap.size w).alloc (Nat.le_refl _) (.cells #[.int .i64 0, .slice none 0 0] 25))
  have hsz : w.heap.size < (w.alloc (.cells #[.int .i64 0, .slice none 0 0] 25)).heap.size := by simp
  go_enter Tryz.func20, Tryz.ntmps20
  go_wp2_with fail
  generalize w.alloc (.cells #[.int .i64 0, .slice none 0 0] 25) = w0 at *
  refine (rgScheme_any n w0).mono ?_
  rintro e w' ⟨rfl, rfl⟩
  rcases hs : V.scheme n with _ | _
  · have HR : Hid (allP n = (0, [], 14)) := Lib.hid (by rw [HF.out, hs]; rfl)
    clear hs
    go_wp2_with (first | (refine wl_putRow rfl 25 _ _ rfl w.heap.size #[.int .i64 0, .slice none 0 0] _ K0.out rfl #[.int .i64 0, .slice none 0 0] rfl rfl (by kernel_rfl) (setC_all _ _ _ _) ?_; intro W2 hp2; have z0 : W2.cell? ⟨w.heap.size, 0, none⟩ = some (.int .i64 0) := Lib.cell_of_heap hp2.here 0; have z1 : W2.cell? ⟨w.heap.size, 1, none⟩ = some (.slice none 0 0) := Lib.cell_of_heap hp2.here 1) | fail)
    have HBF := Lib.hid (hp2.below HB0.out (Nat.le_refl _))
    clear hp2
    exact bodyPost_ret (v := .tuple #[.agg #[.int .i64 0, .slice none 0 0], .int .i64 14]) (by simp [results, Tryz.results20, go_sem, z0, z1]) rfl (by rw [HR.out]; exact SetPost.zero HBF.out _)
  · have HR : Hid (allP n = (n, [V.noI], 0)) := Lib.hid (by rw [HF.out, hs]; rfl)
    have hb1 : Below w'.heap.size w' (w'.alloc (.cells #[.string ⟨#[]⟩, .int .i64 0, .string ⟨#[]⟩, .int .i64 0] 64)) := (Below.refl _ _).alloc (Nat.le_refl _) _
    have K1 := Lib.hid ((hb1.block _ (Array.getElem?_eq_some_iff.1 K0.out).1).trans K0.out)
    have HB1 := Lib.hid (HB0.out.trans (hb1.mono HB0.out.size))
    have HI := Lib.hid (itvs_one w')
    clear hs hb1
    go_wp2_with (first | (refine wl_putRow rfl 25 _ _ rfl w.heap.size #[.int .i64 0, .slice none 0 0] _ K1.out rfl #[.int .i64 n, .slice (some ⟨w'.heap.size, 0, none⟩) 1 1] rfl rfl (by kernel_rfl) (setC_all _ _ _ _) ?_; intro W2 hp2; have z0 : W2.cell? ⟨w.heap.size, 0, none⟩ = some (.int .i64 n) := Lib.cell_of_heap hp2.here 0; have z1 : W2.cell? ⟨w.heap.size, 1, none⟩ = some (.slice (some ⟨w'.heap.size, 0, none⟩) 1 1) := Lib.cell_of_heap hp2.here 1) | fail)
    have HBF := Lib.hid (hp2.below HB1.out (Nat.le_refl _))
    have HIV := Lib.hid (hp2.itvs HI.out (fun c hc => by simp [Value.ownBlock] at hc; omega))
    clear hp2
    exact bodyPost_ret (v := .tuple #[.agg #[.int .i64 n, .slice (some ⟨w'.heap.size, 0, none⟩) 1 1], .int .i64 0]) (by simp [results, Tryz.results20, go_sem, z0, z1]) rfl (by rw [HR.out]; exact ⟨_, rfl, HIV.out, (fun c hc => by simp [Value.ownBlock] at hc; omega), HBF.out⟩)
set_option maxRecDepth 100000 in
set_option maxHeartbeats 800000 in
theorem rgNone_any (n : Int) (w : World) : Calls Tryz.prog 22 #[.int .i64 n] w (SetPost (noneP n) w) := by
  have HF : Hid (noneP n = if V.scheme n then (n, [], 0) else (0, [], 14)) := Lib.hid rfl
  have K0 : Hid ((w.alloc (.cells #[.int .i64 0, .slice none 0 0] 25)).heap[w.heap.size]? = some (.cells #[.int .i64 0, .slice none 0 0] 25 (0, 0))) := Lib.hid (by rw [heap_alloc, if_pos rfl])
  have HB0 := Lib.hid ((Below.refl w.heap.size w).alloc (Nat.le_refl _) (.cells #[.int .i64 0, .slice none 0 0] 25))
  go_enter Tryz.func22, Tryz.ntmps22
  go_wp2_with fail
  generalize w.alloc (.cells #[.int .i64 0, .slice none 0 0] 25) = w0 at *
  refine (rgScheme_any n w0).mono ?_
  rintro e w' ⟨rfl, rfl⟩
  rcases hs : V.scheme n with _ | _
  · have HR : Hid (noneP n = (0, [], 14)) := Lib.hid (by rw [HF.out, hs]; rfl)
    clear hs
    go_wp2_with (first | (refine wl_putRow rfl 25 _ _ rfl w.heap.size #[.int .i64 0, .slice none 0 0] _ K0.out rfl #[.int .i64 0, .slice none 0 0] rfl rfl (by kernel_rfl) (setC_all _ _ _ _) ?_; intro W2 hp2; have z0 : W2.cell? ⟨w.heap.size, 0, none⟩ = some (.int .i64 0) := Lib.cell_of_heap hp2.here 0; have z1 : W2.cell? ⟨w.heap.size, 1, none⟩ = some (.slice none 0 0) := Lib.cell_of_heap hp2.here 1) | fail)
    have HBF := Lib.hid (hp2.below HB0.out (Nat.le_refl _))
    clear hp2
    exact bodyPost_ret (v := .tuple #[.agg #[.int .i64 0, .slice none 0 0], .int .i64 14]) (by simp [results, Tryz.results22, go_sem, z0, z1]) rfl (by rw [HR.out]; exact SetPost.zero HBF.out _)
  · have HR : Hid (noneP n = (n, [], 0)) := Lib.hid (by rw [HF.out, hs]; rfl)
    clear hs
    go_wp2_with (first | (refine wl_putRow rfl 25 _ _ rfl w.heap.size #[.int .i64 0, .slice none 0 0] _ K0.out rfl #[.int .i64 n, .slice none 0 0] rfl rfl (by kernel_rfl) (setC_all _ _ _ _) ?_; intro W2 hp2; have z0 : W2.cell? ⟨w.heap.size, 0, none⟩ = some (.int .i64 n) := Lib.cell_of_heap hp2.here 0; have z1 : W2.cell? ⟨w.heap.size, 1, none⟩ = some (.slice none 0 0) := Lib.cell_of_heap hp2.here 1) | fail)
    have HBF := Lib.hid (hp2.below HB0.out (Nat.le_refl _))
    clear hp2
    exact bodyPost_ret (v := .tuple #[.agg #[.int .i64 n, .slice none 0 0], .int .i64 0]) (by simp [results, Tryz.results22, go_sem, z0, z1]) rfl (by rw [HR.out]; exact ⟨_, rfl, Itvs.nil _, (fun c hc => by cases hc), HBF.out⟩)
end Go.Proofs.YtolojkkhmamddaaGreatDoor
