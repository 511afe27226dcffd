/-
  Lemmas for the law.
-/
import Derived.Test.YtbikeahmldobkaaGreatDoorC50x34
import Derived.Test.YtbikeahmldobkaaGreatDoorC50x37
import Derived.Test.YtbikeahmldobkaaGreatDoorC50x19
import Derived.Test.YtbikeahmldobkaaGreatDoorC50x35
set_option linter.all false
set_option maxRecDepth 100000
set_option maxHeartbeats 6400000
namespace Go.Proofs.YtbikeahmldobkaaGreatDoor
open Go.RowKit
theorem holdF_or : kq 1 = V.orF := by funext a b; cases a <;> cases b <;> rfl
theorem zvi : kq 2 = V.andF := by funext a b; cases a <;> cases b <;> rfl
theorem zyg {P : Prop} (h : P := by
 clear hp2
 exact bodyPost_ret (v := .tuple #[.agg #[.int .i64 0, .slice none 0 0], .int .i64 1]) (by simp [results, Tryz.results166, go_sem, z0, z1]) rfl (by rw [HR.out]; exact xz.zero HBF.out _)) : P := h
theorem zfd (o n m : Int) (va vb : Value) (a b : List V.Itv) (w : World) (hm : zj w) (hva : Itvs w va a) (g5 : Itvs w vb b) (h3 : Lens a) (h4 : Lens b) (h5 : a.length ≤ maxLen) (h6 : b.length ≤ maxLen) :
  Calls Tryz.prog 166 #[.int .i64 o, setV n va, setV m vb] w (xz (V.opP (kq o) n a m b) w) := by
 have h7 := zwg hva
 have h8 := zwg g5
 obtain ⟨aa, ac, rfl⟩ := hva.slice
 obtain ⟨ba, bc, rfl⟩ := g5.slice
 have j4 := zwg h3
 have j5 := zwg h4
 have j6 := zwg h5
 have j7 := zwg h6
 have HF : Hid (V.opP (kq o) n a m b = if V.chkP n a m b = 0 then V.limP n (V.opL n (kq o) a b) else (0, [], V.chkP n a m b)) := zwg rfl
 have g6 : Hid (V.chkP n a m b = if V.okR n a && V.okR m b then (if n = m then 0 else 14) else 1) := zwg rfl
 have H3 := zwg (zfi w (.cells #[.int .i64 n, .slice aa a.length ac] 68) (.cells #[.int .i64 m, .slice ba b.length bc] 68) (.cells #[.int .i64 0, .slice none 0 0] 68))
 have g7 : Below w.heap.size w (((w.alloc (.cells #[.int .i64 n, .slice aa a.length ac] 68)).alloc (.cells #[.int .i64 m, .slice ba b.length bc] 68)).alloc (.cells #[.int .i64 0, .slice none 0 0] 68)) := (((zwj _ _).alloc (zwi _) _).alloc (by simp) _).alloc (by simp; omega) _
 have HB0 := zwg g7
 have h9 := zwg (hm.below g7)
 clear hva g5 h3 h4 h5 h6 hm g7
 unfold setV
 go_enter Tryz.func166, Tryz.ntmps166
 go_wp2_with fail
 generalize (((w.alloc (.cells #[.int .i64 n, .slice aa a.length ac] 68)).alloc (.cells #[.int .i64 m, .slice ba b.length bc] 68)).alloc (.cells #[.int .i64 0, .slice none 0 0] 68)) = w0 at *
 have KA := H3.out.1
 have KB := H3.out.2.1
 have KC := H3.out.2.2.1
 refine (zbs n (.slice aa a.length ac) a w0 h9.out (h7.out.below HB0.out) j4.out j6.out).mono ?_
 rintro e w1 ⟨rfl, hb1⟩
 have K0 := (hb1.block _ (Array.getElem?_eq_some_iff.1 KA).1).trans KA
 have K1 := (hb1.block _ (Array.getElem?_eq_some_iff.1 KB).1).trans KB
 have K2 := (hb1.block _ (Array.getElem?_eq_some_iff.1 KC).1).trans KC
 have HK := zwg (And.intro K0 (And.intro K1 K2))
 have HB1 := zwh HB0 hb1
 have j0 := zwg (h9.out.below hb1)
 have hc0 : w1.cell? ⟨w.heap.size, 0, none⟩ = some (.int .i64 n) := zwf K0 0
 have hc1 : w1.cell? ⟨w.heap.size, 1, none⟩ = some (.slice aa a.length ac) := zwf K0 1
 have g8 : w1.cell? ⟨w.heap.size + 1, 0, none⟩ = some (.int .i64 m) := zwf K1 0
 have g9 : w1.cell? ⟨w.heap.size + 1, 1, none⟩ = some (.slice ba b.length bc) := zwf K1 1
 clear hb1 K0 K1 K2 KA KB KC
 rcases hok : V.okR n a with _ | _
 ·have g0 : V.chkP n a m b = 1 := by rw [g6.out, hok]; rfl
  have HR : Hid (V.opP (kq o) n a m b = (0, [], 1)) := zwg (by rw [HF.out, g0]; rfl)
  clear hok g0
  go_wp2_with (first | (refine zy rfl 68 _ _ rfl (w.heap.size + 1 + 1) #[.int .i64 0, .slice none 0 0] _ HK.out.2.2 rfl #[.int .i64 0, .slice none 0 0] rfl rfl (by kernel_rfl) (qz _ _ _ _) ?_; intro W2 hp2; have z0 : W2.cell? ⟨w.heap.size + 1 + 1, 0, none⟩ = some (.int .i64 0) := zwf hp2.here 0; have z1 : W2.cell? ⟨w.heap.size + 1 + 1, 1, none⟩ = some (.slice none 0 0) := zwf hp2.here 1) | fail)
  have HBF := zwg (hp2.below HB1.out (by omega))
  exact zyg
 ·have HOK := zwg hok
  clear hok
  go_wp2_with fail
  refine (zbs m (.slice ba b.length bc) b w1 j0.out (h8.out.below HB1.out) j5.out j7.out).mono ?_
  rintro e w2 ⟨rfl, hb2⟩
  have K0 := (hb2.block _ (Array.getElem?_eq_some_iff.1 HK.out.1).1).trans HK.out.1
  have K1 := (hb2.block _ (Array.getElem?_eq_some_iff.1 HK.out.2.1).1).trans HK.out.2.1
  have K2 := (hb2.block _ (Array.getElem?_eq_some_iff.1 HK.out.2.2).1).trans HK.out.2.2
  have g3 := zwg K2
  have HB2 := zwh HB1 hb2
  have j8 := zwg (j0.out.below hb2)
  clear hc0 hc1 g8 g9
  have hc0 : w2.cell? ⟨w.heap.size, 0, none⟩ = some (.int .i64 n) := zwf K0 0
  have hc1 : w2.cell? ⟨w.heap.size, 1, none⟩ = some (.slice aa a.length ac) := zwf K0 1
  have g8 : w2.cell? ⟨w.heap.size + 1, 0, none⟩ = some (.int .i64 m) := zwf K1 0
  have g9 : w2.cell? ⟨w.heap.size + 1, 1, none⟩ = some (.slice ba b.length bc) := zwf K1 1
  clear hb2 K0 K1 K2
  rcases g2 : V.okR m b with _ | _
  ·have g0 : V.chkP n a m b = 1 := by rw [g6.out, HOK.out, g2]; rfl
   have HR : Hid (V.opP (kq o) n a m b = (0, [], 1)) := zwg (by rw [HF.out, g0]; rfl)
   clear g2 g0
   go_wp2_with (first | (refine zy rfl 68 _ _ rfl (w.heap.size + 1 + 1) #[.int .i64 0, .slice none 0 0] _ g3.out rfl #[.int .i64 0, .slice none 0 0] rfl rfl (by kernel_rfl) (qz _ _ _ _) ?_; intro W2 hp2; have z0 : W2.cell? ⟨w.heap.size + 1 + 1, 0, none⟩ = some (.int .i64 0) := zwf hp2.here 0; have z1 : W2.cell? ⟨w.heap.size + 1 + 1, 1, none⟩ = some (.slice none 0 0) := zwf hp2.here 1) | fail)
   have HBF := zwg (hp2.below HB2.out (by omega))
   exact zyg
  ·have h0 := zwg g2
   clear g2
   by_cases hnm : n = m
   ·subst hnm
    have g1 := zwg (V.zg0 HOK.out)
    have g4 := zwg (V.zg0 h0.out)
    have j9 := zwg (V.opL_len (kq o) g1.out g4.out)
    have HR : Hid (V.opP (kq o) n a n b = V.limP n (V.opL n (kq o) a b)) := zwg (by rw [HF.out, if_pos (V.zso g1.out g4.out)])
    go_wp2_with fail
    refine (zll o n (.slice aa a.length ac) (.slice ba b.length bc) a b w2 j8.out g1.out.sch (h7.out.below HB2.out) (h8.out.below HB2.out) g1.out.bnd g4.out.bnd (by have := g1.out.len; omega) (by have := g4.out.len; omega)).mono ?_
    rintro e w3 ⟨u, rfl, hu, how, hb3⟩
    rw [V.opR_opL (kq o) g1.out g4.out] at hu
    obtain ⟨ua, uc, rfl⟩ := hu.slice
    have HU := zwg hu
    have j1 := zwg how
    have HB3 := zwh HB2 hb3
    have j2 := zwg ((hb3.block _ (Array.getElem?_eq_some_iff.1 g3.out).1).trans g3.out)
    have j3 : w.heap.size + 1 + 1 < w2.heap.size := (Array.getElem?_eq_some_iff.1 g3.out).1
    have h1 := zwg j3
    have kc0 := ze hb3 hc0
    clear hu how hb3 hc0 hc1 g8 g9
    by_cases h32 : 32 < (V.opL n (kq o) a b).length
    ·have h2 : Hid (V.opP (kq o) n a n b = (0, [], 3)) := zwg (by rw [HR.out]; unfold V.limP; rw [if_neg (by omega)])
     go_wp2_with (first | (refine zy rfl 68 _ _ rfl (w.heap.size + 1 + 1) #[.int .i64 0, .slice none 0 0] _ j2.out rfl #[.int .i64 0, .slice none 0 0] rfl rfl (by kernel_rfl) (qz _ _ _ _) ?_; intro W2 hp2; have z0 : W2.cell? ⟨w.heap.size + 1 + 1, 0, none⟩ = some (.int .i64 0) := zwf hp2.here 0; have z1 : W2.cell? ⟨w.heap.size + 1 + 1, 1, none⟩ = some (.slice none 0 0) := zwf hp2.here 1) | fail)
     have HBF := zwg (hp2.below HB3.out (by omega))
     clear hp2
     exact bodyPost_ret (v := .tuple #[.agg #[.int .i64 0, .slice none 0 0], .int .i64 3]) (by simp [results, Tryz.results166, go_sem, z0, z1]) rfl (by rw [h2.out]; exact xz.zero HBF.out _)
    ·have h2 : Hid (V.opP (kq o) n a n b = (n, V.opL n (kq o) a b, 0)) := zwg (by rw [HR.out]; unfold V.limP; rw [if_pos (by omega)])
     go_wp2_with (first | (refine zy rfl 68 _ _ rfl (w.heap.size + 1 + 1) #[.int .i64 0, .slice none 0 0] _ j2.out rfl #[.int .i64 n, .slice ua (V.opL n (kq o) a b).length uc] rfl rfl (by kernel_rfl) (qz _ _ _ _) ?_; intro W2 hp2; have z0 : W2.cell? ⟨w.heap.size + 1 + 1, 0, none⟩ = some (.int .i64 n) := zwf hp2.here 0; have z1 : W2.cell? ⟨w.heap.size + 1 + 1, 1, none⟩ = some (.slice ua (V.opL n (kq o) a b).length uc) := zwf hp2.here 1) | fail)
     have HIV : Hid (Itvs W2 (.slice ua (V.opL n (kq o) a b).length uc) (V.opL n (kq o) a b)) := zwg (hp2.itvs HU.out (fun c hc => by have := j1.out c hc; have := h1.out; omega))
     have HBF := zwg (hp2.below HB3.out (by omega))
     clear hp2
     exact bodyPost_ret (v := .tuple #[.agg #[.int .i64 n, .slice ua (V.opL n (kq o) a b).length uc], .int .i64 0]) (by simp [results, Tryz.results166, go_sem, z0, z1]) rfl (by rw [h2.out]; exact ⟨_, rfl, HIV.out, (fun c hc => by have := j1.out c hc; have := h1.out; omega), HBF.out⟩)
   ·have g0 : V.chkP n a m b = 14 := by rw [g6.out, HOK.out, h0.out]; simp [hnm]
    have HR : Hid (V.opP (kq o) n a m b = (0, [], 14)) := zwg (by rw [HF.out, g0]; rfl)
    have hq : (n != m) = true := by simpa using hnm
    clear hnm g0
    go_wp2_with (first | (refine zy rfl 68 _ _ rfl (w.heap.size + 1 + 1) #[.int .i64 0, .slice none 0 0] _ g3.out rfl #[.int .i64 0, .slice none 0 0] rfl rfl (by kernel_rfl) (qz _ _ _ _) ?_; intro W2 hp2; have z0 : W2.cell? ⟨w.heap.size + 1 + 1, 0, none⟩ = some (.int .i64 0) := zwf hp2.here 0; have z1 : W2.cell? ⟨w.heap.size + 1 + 1, 1, none⟩ = some (.slice none 0 0) := zwf hp2.here 1) | fail)
    have HBF := zwg (hp2.below HB2.out (by omega))
    clear hp2
    exact bodyPost_ret (v := .tuple #[.agg #[.int .i64 0, .slice none 0 0], .int .i64 14]) (by simp [results, Tryz.results166, go_sem, z0, z1]) rfl (by rw [HR.out]; exact xz.zero HBF.out _)
theorem zhn (n m : Int) (va vb : Value) (a b : List V.Itv) (w : World) (hm : zj w) (hva : Itvs w va a) (g0 : Itvs w vb b) (g3 : Lens a) (g4 : Lens b) (g5 : a.length ≤ maxLen) (g6 : b.length ≤ maxLen) :
  Calls Tryz.prog 133 #[setV n va, setV m vb] w (xz (V.opP V.orF n a m b) w) := by
 have g7 := zwg hva
 have g8 := zwg g0
 obtain ⟨aa, ac, rfl⟩ := hva.slice
 obtain ⟨ba, bc, rfl⟩ := g0.slice
 have g9 := zwg g3
 have h0 := zwg g4
 have h1 := zwg g5
 have h2 := zwg g6
 have H3 := zwg (zfi w (.cells #[.int .i64 n, .slice aa a.length ac] 68) (.cells #[.int .i64 m, .slice ba b.length bc] 68) (.cells #[.int .i64 0, .slice none 0 0] 68))
 have g1 : Below w.heap.size w (((w.alloc (.cells #[.int .i64 n, .slice aa a.length ac] 68)).alloc (.cells #[.int .i64 m, .slice ba b.length bc] 68)).alloc (.cells #[.int .i64 0, .slice none 0 0] 68)) := (((zwj _ _).alloc (zwi _) _).alloc (by simp) _).alloc (by simp; omega) _
 have HB0 := zwg g1
 have h3 := zwg (hm.below g1)
 clear hva g0 g3 g4 g5 g6 hm g1
 unfold setV
 go_enter Tryz.func133, Tryz.ntmps133
 go_wp2_with fail
 generalize (((w.alloc (.cells #[.int .i64 n, .slice aa a.length ac] 68)).alloc (.cells #[.int .i64 m, .slice ba b.length bc] 68)).alloc (.cells #[.int .i64 0, .slice none 0 0] 68)) = w0 at *
 refine (zfd 1 n m (.slice aa a.length ac) (.slice ba b.length bc) a b w0 h3.out (g7.out.below HB0.out) (g8.out.below HB0.out) g9.out h0.out h1.out h2.out).mono ?_
 rw [holdF_or]
 rintro e w1 ⟨u, rfl, hu, how, hb1⟩
 obtain ⟨p3, q3, rfl⟩ := hu.slice
 have HU := zwg hu
 have g2 := zwg how
 have HK := zwg ((hb1.block _ (show w.heap.size + 1 + 1 < w0.heap.size by have := H3.out.2.2.2; omega)).trans H3.out.2.2.1)
 have h4 : w.heap.size + 3 ≤ w0.heap.size := by have := H3.out.2.2.2; omega
 have HB1 := zwh HB0 hb1
 clear hu how hb1
 obtain ⟨r, hr⟩ : ∃ r, r = V.opP V.orF n a m b := ⟨_, rfl⟩
 rw [← hr] at HU g2 ⊢
 have HR := zwg hr
 clear hr
 obtain ⟨k1, l1, c1⟩ := r
 unfold setV
 go_wp2_with (first | (refine zy rfl 68 _ _ rfl (w.heap.size + 1 + 1) #[.int .i64 0, .slice none 0 0] _ HK.out rfl #[.int .i64 k1, .slice p3 l1.length q3] rfl rfl (by kernel_rfl) (qz _ _ _ _) ?_; intro W2 hp2; have z0 : W2.cell? ⟨w.heap.size + 1 + 1, 0, none⟩ = some (.int .i64 k1) := zwf hp2.here 0; have z1 : W2.cell? ⟨w.heap.size + 1 + 1, 1, none⟩ = some (.slice p3 l1.length q3) := zwf hp2.here 1) | fail)
 have HIV : Hid (Itvs W2 (.slice p3 l1.length q3) l1) := zwg (hp2.itvs HU.out (fun c hc => by have := g2.out c hc; omega))
 have HBF := zwg (hp2.below HB1.out (by omega))
 clear hp2
 exact bodyPost_ret (v := .tuple #[.agg #[.int .i64 k1, .slice p3 l1.length q3], .int .i64 c1]) (by simp [results, Tryz.results133, go_sem, z0, z1]) rfl (by rw [← HR.out]; exact ⟨_, rfl, HIV.out, (fun c hc => by have := g2.out c hc; omega), HBF.out⟩)
theorem zig (n m : Int) (va vb : Value) (a b : List V.Itv) (w : World) (hm : zj w) (hva : Itvs w va a) (g0 : Itvs w vb b) (g3 : Lens a) (g4 : Lens b) (g5 : a.length ≤ maxLen) (g6 : b.length ≤ maxLen) :
  Calls Tryz.prog 165 #[setV n va, setV m vb] w (xz (V.opP V.andF n a m b) w) := by
 have g7 := zwg hva
 have g8 := zwg g0
 obtain ⟨aa, ac, rfl⟩ := hva.slice
 obtain ⟨ba, bc, rfl⟩ := g0.slice
 have g9 := zwg g3
 have h0 := zwg g4
 have h1 := zwg g5
 have h2 := zwg g6
 have H3 := zwg (zfi w (.cells #[.int .i64 n, .slice aa a.length ac] 68) (.cells #[.int .i64 m, .slice ba b.length bc] 68) (.cells #[.int .i64 0, .slice none 0 0] 68))
 have g1 : Below w.heap.size w (((w.alloc (.cells #[.int .i64 n, .slice aa a.length ac] 68)).alloc (.cells #[.int .i64 m, .slice ba b.length bc] 68)).alloc (.cells #[.int .i64 0, .slice none 0 0] 68)) := (((zwj _ _).alloc (zwi _) _).alloc (by simp) _).alloc (by simp; omega) _
 have HB0 := zwg g1
 have h3 := zwg (hm.below g1)
 clear hva g0 g3 g4 g5 g6 hm g1
 unfold setV
 go_enter Tryz.func165, Tryz.ntmps165
 go_wp2_with fail
 generalize (((w.alloc (.cells #[.int .i64 n, .slice aa a.length ac] 68)).alloc (.cells #[.int .i64 m, .slice ba b.length bc] 68)).alloc (.cells #[.int .i64 0, .slice none 0 0] 68)) = w0 at *
 refine (zfd 2 n m (.slice aa a.length ac) (.slice ba b.length bc) a b w0 h3.out (g7.out.below HB0.out) (g8.out.below HB0.out) g9.out h0.out h1.out h2.out).mono ?_
 rw [zvi]
 rintro e w1 ⟨u, rfl, hu, how, hb1⟩
 obtain ⟨p3, q3, rfl⟩ := hu.slice
 have HU := zwg hu
 have g2 := zwg how
 have HK := zwg ((hb1.block _ (show w.heap.size + 1 + 1 < w0.heap.size by have := H3.out.2.2.2; omega)).trans H3.out.2.2.1)
 have h4 : w.heap.size + 3 ≤ w0.heap.size := by have := H3.out.2.2.2; omega
 have HB1 := zwh HB0 hb1
 clear hu how hb1
 obtain ⟨r, hr⟩ : ∃ r, r = V.opP V.andF n a m b := ⟨_, rfl⟩
 rw [← hr] at HU g2 ⊢
 have HR := zwg hr
 clear hr
 obtain ⟨k1, l1, c1⟩ := r
 unfold setV
 go_wp2_with (first | (refine zy rfl 68 _ _ rfl (w.heap.size + 1 + 1) #[.int .i64 0, .slice none 0 0] _ HK.out rfl #[.int .i64 k1, .slice p3 l1.length q3] rfl rfl (by kernel_rfl) (qz _ _ _ _) ?_; intro W2 hp2; have z0 : W2.cell? ⟨w.heap.size + 1 + 1, 0, none⟩ = some (.int .i64 k1) := zwf hp2.here 0; have z1 : W2.cell? ⟨w.heap.size + 1 + 1, 1, none⟩ = some (.slice p3 l1.length q3) := zwf hp2.here 1) | fail)
 have HIV : Hid (Itvs W2 (.slice p3 l1.length q3) l1) := zwg (hp2.itvs HU.out (fun c hc => by have := g2.out c hc; omega))
 have HBF := zwg (hp2.below HB1.out (by omega))
 clear hp2
 exact bodyPost_ret (v := .tuple #[.agg #[.int .i64 k1, .slice p3 l1.length q3], .int .i64 c1]) (by simp [results, Tryz.results165, go_sem, z0, z1]) rfl (by rw [← HR.out]; exact ⟨_, rfl, HIV.out, (fun c hc => by have := g2.out c hc; omega), HBF.out⟩)
open Go.RowKit
theorem zbx {n : Int} {l : List V.Itv} (h : V.Ok n l) : Lens l := fun x hx => by
 have hb := h.bnd x hx
 unfold V.zr at hb
 rw [Bool.and_eq_true] at hb
 have h1 := (zid hb.1).2
 have h2 := (zid hb.2).2
 unfold maxLen
 omega
theorem zf9 (n : Int) (s : V.Bs) (w : World) (hm : zj w) (hn : V.scheme n = true) (hs : s.length ≤ 100000) :
  Calls Tryz.prog 132 #[.int .i64 n, .string ⟨s.toArray⟩] w (zas n (V.altP n s) w) := by
 have HN := zwg hn
 have HM := zwg hm
 have h4 := zwg hs
 have HF : Hid (V.altP n s = if s = V.noneT then some [] else if s = [42] then some [V.noI] else V.zbd n [V.noI] (V.zm 32 s)) := zwg rfl
 have k0 : Hid ((ByteArray.mk s.toArray).size ≤ 100000) := zwg (by simpa [ByteArray.size] using hs)
 have g4 : Hid ((ByteArray.mk s.toArray).data.toList = s) := zwg rfl
 have h5 : Below w.heap.size w (w.alloc (.cells #[.int .i64 0, .slice none 0 0] 68)) := (zwj _ w).alloc (zwi _) _
 have K0 : Hid ((w.alloc (.cells #[.int .i64 0, .slice none 0 0] 68)).heap[w.heap.size]? = some (.cells #[.int .i64 0, .slice none 0 0] 68 (0, 0))) := zwg (by rw [heap_alloc, if_pos rfl])
 have HB0 := zwg h5
 clear h5 hm hs hn
 generalize (ByteArray.mk s.toArray) = S at *
 obtain ⟨W0, hW0⟩ : ∃ W0, W0 = (w.alloc (.cells #[.int .i64 0, .slice none 0 0] 68)).alloc (.cells #[.string ⟨#[]⟩, .int .i64 0, .string ⟨#[]⟩, .int .i64 0] 83) := ⟨_, rfl⟩
 obtain ⟨W1, g1⟩ : ∃ W1, W1 = W0.alloc (.cells #[.int .i64 n, .slice (some ⟨w.heap.size + 1, 0, none⟩) 1 1] 68) := ⟨_, rfl⟩
 have k1 : W0.heap.size = w.heap.size + 2 := by rw [hW0]; simp
 have hI : W0.heap[w.heap.size + 1]? = some (.cells (itvC V.noI) 83 (0, 0)) := by rw [hW0, heap_alloc, if_pos (by simp)]; rfl
 have hb1 : Below W0.heap.size W0 W1 := by rw [g1]; exact (zwj _ _).alloc (zwi _) _
 have h6 : Below w.heap.size w W1 := by rw [g1, hW0]; exact ((HB0.out.alloc (by simp) _).alloc (by simp; omega) _)
 have h7 : W1.heap[w.heap.size]? = some (.cells #[.int .i64 0, .slice none 0 0] 68 (0, 0)) := by rw [g1, heap_alloc, if_neg (by omega), hW0, heap_alloc, if_neg (by simp)]; exact K0.out
 have h8 : W1.heap[w.heap.size + 2]? = some (.cells #[.int .i64 n, .slice (some ⟨w.heap.size + 1, 0, none⟩) 1 1] 68 (0, 0)) := by rw [g1, heap_alloc, if_pos (by omega)]
 have g5 : W1.heap.size = w.heap.size + 3 := by rw [g1]; simp; omega
 have h9 : Itvs W1 (.slice (some ⟨w.heap.size + 1, 0, none⟩) 1 1) [V.noI] := (zua hI).below hb1
 have g6 : Hid (((w.alloc (.cells #[.int .i64 0, .slice none 0 0] 68)).alloc (.cells #[.string ⟨#[]⟩, .int .i64 0, .string ⟨#[]⟩, .int .i64 0] 83)).alloc (.cells #[.int .i64 n, .slice (some ⟨w.heap.size + 1, 0, none⟩) 1 1] 68) = W1) := zwg (by rw [g1, hW0])
 have HB1 := zwg h6
 have g9 := zwg h7
 have HX1 := zwg h8
 have k2 := zwg g5
 have j0 := zwg h9
 clear hW0 g1 k1 hI hb1 h6 h7 h8 g5 h9
 by_cases h1 : s = V.noneT
 ·have HT : (S.toList == [110, 111, 110, 101]) = true := by rw [ByteArray.toList_eq, g4.out, h1]; rfl
  have HR : Hid (V.altP n s = some []) := zwg (by rw [HF.out, if_pos h1])
  clear h1
  go_enter Tryz.func132, Tryz.ntmps132
  go_wp2_with (first
    | (refine zij rfl 66 _ _ rfl (w.heap.size + 1 + 1) 1 #[.int .i64 n, .slice (some ⟨w.heap.size + 1, 0, none⟩) 1 1] _ (by rw [g6.out]; exact HX1.out) (by simp) rfl (.slice none 0 0) rfl itvsSize rfl ?_; rw [g6.out]; intro W5 g0; have x0 : W5.cell? ⟨w.heap.size + 1 + 1, 0, none⟩ = some (.int .i64 n) := zwf g0.here 0; have x1 : W5.cell? ⟨w.heap.size + 1 + 1, 1, none⟩ = some (.slice none 0 0) := zwf g0.here 1; have k3 := zwg (g0.other g9.out (by omega)); have HB5 := zwg (g0.below HB1.out (by omega)); clear g0)
    | (refine zy rfl 68 _ _ rfl w.heap.size #[.int .i64 0, .slice none 0 0] _ k3.out rfl #[.int .i64 n, .slice none 0 0] rfl rfl (by kernel_rfl) (qz _ _ _ _) ?_; intro W2 hp2; have z0 : W2.cell? ⟨w.heap.size, 0, none⟩ = some (.int .i64 n) := zwf hp2.here 0; have z1 : W2.cell? ⟨w.heap.size, 1, none⟩ = some (.slice none 0 0) := zwf hp2.here 1)
    | fail)
  have HBF := zwg (hp2.below HB5.out (zwi _))
  clear hp2
  exact bodyPost_ret (v := .tuple #[.agg #[.int .i64 n, .slice none 0 0], .bool true]) (by simp [results, Tryz.results132, go_sem, z0, z1]) rfl (zas.yes HR.out HBF.out (Itvs.nil _) (fun c hc => by cases hc))
 ·have HT : (S.toList == [110, 111, 110, 101]) = false := by rw [zwk, ByteArray.toList_eq, g4.out]; exact h1
  have j1 : Hid (V.altP n s = if s = [42] then some [V.noI] else V.zbd n [V.noI] (V.zm 32 s)) := zwg (by rw [HF.out, if_neg h1])
  clear h1
  go_enter Tryz.func132, Tryz.ntmps132
  by_cases h2 : s = [42]
  ·have k4 : (S.toList == [42]) = true := by rw [ByteArray.toList_eq, g4.out, h2]; rfl
   have HR : Hid (V.altP n s = some [V.noI]) := zwg (by rw [j1.out, if_pos h2])
   clear h2
   go_wp2_with (first | (refine zy rfl 68 _ _ rfl w.heap.size #[.int .i64 0, .slice none 0 0] _ (by rw [g6.out]; exact g9.out) rfl #[.int .i64 n, .slice (some ⟨w.heap.size + 1, 0, none⟩) 1 1] rfl rfl (by kernel_rfl) (qz _ _ _ _) ?_; rw [g6.out]; intro W2 hp2; have z0 : W2.cell? ⟨w.heap.size, 0, none⟩ = some (.int .i64 n) := zwf hp2.here 0; have z1 : W2.cell? ⟨w.heap.size, 1, none⟩ = some (.slice (some ⟨w.heap.size + 1, 0, none⟩) 1 1) := zwf hp2.here 1) | fail)
   have HBF := zwg (hp2.below HB1.out (zwi _))
   have HIV := zwg (hp2.itvs j0.out (fun c hc => by simp [Value.ownBlock] at hc; omega))
   clear hp2
   exact bodyPost_ret (v := .tuple #[.agg #[.int .i64 n, .slice (some ⟨w.heap.size + 1, 0, none⟩) 1 1], .bool true]) (by simp [results, Tryz.results132, go_sem, z0, z1]) rfl (zas.yes HR.out HBF.out HIV.out (fun c hc => by simp [Value.ownBlock] at hc; omega))
  ·have k4 : (S.toList == [42]) = false := by rw [zwk, ByteArray.toList_eq, g4.out]; exact h2
   have HF2 : Hid (V.altP n s = V.zbd n [V.noI] (V.zm 32 s)) := zwg (by rw [j1.out, if_neg h2])
   have k5 : Hid (∀ x ∈ V.zm 32 s, x.length ≤ 100000) := zwg (fun x hx => Nat.le_trans (ki 32 s x hx) h4.out)
   have k6 : Hid ((V.zm 32 s).length ≤ 100001) := zwg (Nat.le_trans (jm 32 s) (by have := h4.out; omega))
   clear h2
   go_wp2_with fail
   rw [g6.out]
   refine (ku S 32 W1 (HM.out.below HB1.out) (by have := k0.out; omega)).mono ?_
   rintro e W2 ⟨rfl, g7⟩
   rw [g4.out] at g7 ⊢
   have hb2 : Below W1.heap.size W1 W2 := by rw [g7]; exact (zwj _ _).alloc (zwi _) _
   have h0 : AltInv n w w.heap.size (w.heap.size + 2) W1.heap.size (V.zm 32 s) [V.noI] (.slice (some ⟨w.heap.size + 1, 0, none⟩) 1 1) W2 := by
    refine ⟨HB1.out.trans (hb2.mono HB1.out.size), zal hb2 g9.out, zal hb2 HX1.out, V.zny HN.out, j0.out.below hb2, (fun c hc => ?_), (fun j hj => ?_)⟩
    ·simp [Value.ownBlock] at hc; omega
    ·rw [g7, World.cell?_alloc_new]; exact wv _ j hj
   have h3 := zwg h0
   have g5 : W1.heap.size = w.heap.size + 3 := k2.out
   have j2 : W2.heap.size = w.heap.size + 4 := by rw [g7]; simp; omega
   have q3 : (V.zm 32 s).length ≤ 100001 := k6.out
   clear hb2 h0 g7
   rw [g5] at h3 ⊢
   clear g5
   have q4 := zwg j2
   clear j2
   have j8 : Hid (V.altP n s = V.zbd n [V.noI] ((V.zm 32 s).drop 0)) := zwg HF2.out
   generalize V.zm 32 s = L at *
   go_wp2_with fail
   go_loopw [8] (fun iv wx => ∃ (k : Nat) (out : List V.Itv) (u : Value), k ≤ L.length /\ iv = .int .i64 k /\ V.altP n s = V.zbd n out (L.drop k) /\ AltInv n w w.heap.size (w.heap.size + 2) (w.heap.size + 3) L out u wx) (fun iv _ => L.length - (intOf iv).toNat)
   case atStart => exact ⟨0, _, _, Nat.zero_le _, rfl, j8.out, h3.out⟩
   case round =>
    obtain ⟨k, out, u, hk, rfl, j3, g8⟩ := hrel
    have HE := zwg j3
    have HI := zwg g8
    obtain ⟨p, q, rfl⟩ := g8.set.slice
    clear j3 g8
    have x0 : wr.cell? ⟨w.heap.size + 1 + 1, 0, none⟩ = some (.int .i64 n) := zwf HI.out.box 0
    have x1 : wr.cell? ⟨w.heap.size + 1 + 1, 1, none⟩ = some (.slice p out.length q) := zwf HI.out.box 1
    by_cases hlt : k < L.length
    ·have hc := HI.out.txt k hlt
     have q6 : (0 : Int) ≤ (k : Int) := by omega
     have q7 : (k : Int) < (L.length : Int) := by omega
     have k7 := zwg (k5.out _ (List.getElem_mem hlt))
     have HST := zwg (fun (y : V.Itv) hy => zrh (n := n) (out := out) (y := y) hlt hy)
     have HNO := zwg (fun hy => zrz (n := n) (out := out) hlt hy)
     generalize L[k] = x at *
     go_wp2_with fail
     refine (zih n x wr (HM.out.below HI.out.below) k7.out).mono ?_
     rintro e w2 ⟨y, b, rfl, j4, hb2⟩
     have j5 := zwg j4
     have g2 := zwg (HI.out.later hb2)
     clear j4 hb2 hc x0 x1
     have x0 : w2.cell? ⟨w.heap.size + 1 + 1, 0, none⟩ = some (.int .i64 n) := zwf g2.out.box 0
     have x1 : w2.cell? ⟨w.heap.size + 1 + 1, 1, none⟩ = some (.slice p out.length q) := zwf g2.out.box 1
     unfold itvV
     rcases b with _ | _
     ·have HR : Hid (V.altP n s = none) := zwg (by
        rcases j5.out with ⟨_, h⟩ | ⟨h, _⟩
        · rw [HE.out, HNO.out h]
        · cases h)
      have HBY := zwg ((zwj w2.heap.size w2).alloc (zwi _) (.cells (itvC y) 83))
      go_wp2_with (first | (refine zy rfl 68 _ _ rfl w.heap.size #[.int .i64 0, .slice none 0 0] _ (g2.out.later HBY.out).res rfl #[.int .i64 0, .slice none 0 0] rfl rfl (by kernel_rfl) (qz _ _ _ _) ?_; intro W5 g0; have z0 : W5.cell? ⟨w.heap.size, 0, none⟩ = some (.int .i64 0) := zwf g0.here 0; have z1 : W5.cell? ⟨w.heap.size, 1, none⟩ = some (.slice none 0 0) := zwf g0.here 1) | fail)
      have HBF := zwg (g0.below (g2.out.later HBY.out).below (zwi _))
      clear g0
      exact bodyPost_ret (v := .tuple #[.agg #[.int .i64 0, .slice none 0 0], .bool false]) (by simp [results, Tryz.results132, go_sem, z0, z1]) rfl (by rw [HR.out]; exact zas.no HBF.out)
     ·have HC : Hid (V.kt n x = some y) := zwg (by
        rcases j5.out with ⟨h, _⟩ | ⟨_, h⟩
        · cases h
        · exact h)
      have HOK := zwg (V.zps HN.out HC.out)
      have j6 : Below w2.heap.size w2 ((w2.alloc (.cells (itvC y) 83)).alloc (.cells (itvC y) 83)) := ((zwj _ _).alloc (zwi _) _).alloc (by simp) _
      have HY : Hid (((w2.alloc (.cells (itvC y) 83)).alloc (.cells (itvC y) 83)).heap[w2.heap.size + 1]? = some (.cells (itvC y) 83 (0, 0))) := zwg (by rw [heap_alloc, if_pos (by simp)])
      have g3 := zwg (g2.out.later j6)
      have k8 : Hid (((w2.alloc (.cells (itvC y) 83)).alloc (.cells (itvC y) 83)).heap.size = w2.heap.size + 2) := zwg (by simp)
      have hb3 : Below w2.heap.size w2 (w2.alloc (.cells (itvC y) 83)) := (zwj _ _).alloc (zwi _) _
      have y0 : (w2.alloc (.cells (itvC y) 83)).cell? ⟨w.heap.size + 1 + 1, 0, none⟩ = some (.int .i64 n) := ze hb3 x0
      have y1 : (w2.alloc (.cells (itvC y) 83)).cell? ⟨w.heap.size + 1 + 1, 1, none⟩ = some (.slice p out.length q) := ze hb3 x1
      clear hb3 x0 x1
      unfold itvC at y0 y1
      have k9 : Hid (w.heap.size + 2 < w2.heap.size) := zwg ((Array.getElem?_eq_some_iff.1 g2.out.box).1)
      clear j6
      go_wp2_with fail
      refine (zig n n (.slice p out.length q) (.slice (some ⟨w2.heap.size + 1, 0, none⟩) 1 1) out [y] ((w2.alloc (.cells (itvC y) 83)).alloc (.cells (itvC y) 83)) (HM.out.below g3.out.below) g3.out.set (zua HY.out) (zbx g3.out.one.ok) (zbx HOK.out) (by have := g3.out.one.one; unfold maxLen; omega) (by unfold maxLen; simp)).mono ?_
      rintro e w5 ⟨u5, rfl, hu5, how5, hb5⟩
      have q0 := zwg (V.opP_few V.andF g3.out.one.few (V.One.few ⟨HOK.out, by simp⟩) (by omega))
      rw [q0.out] at hu5 ⊢
      simp only at hu5 ⊢
      obtain ⟨p5, q5, rfl⟩ := hu5.slice
      have j7 := zwg (g3.out.later hb5)
      have q1 := zwg hu5
      have q2 := zwg (fun c hc => by
        have h1 := how5 c hc
        rw [k8.out] at h1
        exact (show w.heap.size ≤ c /\ c ≠ w.heap.size + 2 /\ c ≠ w.heap.size by have := k9.out; omega))
      have j9 := zwg (g2.out.one.and ⟨HOK.out, by simp⟩)
      have HEQ : Hid (V.altP n s = V.zbd n (V.opL n V.andF out [y]) (L.drop (k + 1))) := zwg (by rw [HE.out, HST.out y HC.out])
      clear hu5 how5 hb5 y0 y1
      unfold setV
      go_wp2_with (first | (refine zy rfl 68 _ _ rfl (w.heap.size + 2) _ _ j7.out.box rfl #[.int .i64 n, .slice p5 (V.opL n V.andF out [y]).length q5] rfl rfl (by kernel_rfl) (qz _ _ _ _) ?_; intro W6 hp6) | fail)
      have HI6 := zwg (j7.out.put hp6 (by omega) (by omega) (by omega) j9.out q1.out q2.out)
      clear hp6
      go_roundw
      case rel => exact ⟨k + 1, _, _, by omega, by go_num, HEQ.out, HI6.out⟩
      case measure => simp [intOf]; omega
    ·obtain rfl : k = L.length := by omega
     have HR : Hid (V.altP n s = some out) := zwg (by rw [HE.out, List.drop_length]; rfl)
     go_wp2_with (first | (refine zy rfl 68 _ _ rfl w.heap.size #[.int .i64 0, .slice none 0 0] _ HI.out.res rfl #[.int .i64 n, .slice p out.length q] rfl rfl (by kernel_rfl) (qz _ _ _ _) ?_; intro W5 g0; have z0 : W5.cell? ⟨w.heap.size, 0, none⟩ = some (.int .i64 n) := zwf g0.here 0; have z1 : W5.cell? ⟨w.heap.size, 1, none⟩ = some (.slice p out.length q) := zwf g0.here 1) | fail)
     have HBF := zwg (g0.below HI.out.below (zwi _))
     have HIV := zwg (g0.itvs HI.out.set (fun c hc => (HI.out.own c hc).2.2))
     clear g0
     exact bodyPost_ret (v := .tuple #[.agg #[.int .i64 n, .slice p out.length q], .bool true]) (by simp [results, Tryz.results132, go_sem, z0, z1]) rfl (zas.yes HR.out HBF.out HIV.out (fun c hc => (HI.out.own c hc).1))
namespace V
def parP (n : Int) (s : Bs) : Int × List Itv × Int := match vg n s with | (some l, c) => (n, l, c) | (none, c) => (0, [], c)
theorem zo8 {n : Int} {s : Bs} (h : scheme n = false) : parP n s = (0, [], 14) := by unfold parP vg; rw [h]; rfl
theorem zvm {n : Int} {s : Bs} (h : scheme n = true) (hl : ¬ s.length ≤ 8192) : parP n s = (0, [], 3) := by unfold parP vg; rw [if_pos h, if_neg hl]
theorem zvc {n : Int} {s : Bs} (h : scheme n = true) (hl : s.length ≤ 8192) (ha : vj n (Lib.split s orT) = none) : parP n s = (0, [], 2) := by unfold parP vg; rw [if_pos h, if_pos hl, ha]
theorem zr7 {n : Int} {s : Bs} {xs : List (List Itv)} (h : scheme n = true) (hl : s.length ≤ 8192) (ha : vj n (Lib.split s orT) = some xs) (hu : xp n [] xs = none) : parP n s = (0, [], 3) := by
 unfold parP vg; rw [if_pos h, if_pos hl, ha]; simp only [hu]
theorem parP_ok {n : Int} {s : Bs} {xs : List (List Itv)} {l : List Itv} (h : scheme n = true) (hl : s.length ≤ 8192) (ha : vj n (Lib.split s orT) = some xs) (hu : xp n [] xs = some l) : parP n s = (n, l, 0) := by
 unfold parP vg; rw [if_pos h, if_pos hl, ha]; simp only [hu]
def zb5 (n : Int) (P : List Bs) (k : Nat) (xs : List (List Itv)) : Prop := vj n P = match vj n (P.drop k) with | none => none | some ys => some (xs ++ ys)
theorem zo4 (n : Int) (P : List Bs) : zb5 n P 0 [] := by
 unfold zb5
 rw [List.drop_zero]
 cases vj n P <;> rfl
theorem zpl {n : Int} {P : List Bs} {k : Nat} {xs : List (List Itv)} (h : zb5 n P k xs) (hk : k < P.length) (ha : altP n P[k] = none) : vj n P = none := by
 unfold zb5 at h
 rw [h, List.drop_eq_getElem_cons hk, vj, ha]
theorem zpd {n : Int} {P : List Bs} {k : Nat} {xs : List (List Itv)} {x : List Itv} (h : zb5 n P k xs) (hk : k < P.length) (ha : altP n P[k] = some x) : zb5 n P (k + 1) (xs ++ [x]) := by
 unfold zb5 at h ⊢
 rw [h, List.drop_eq_getElem_cons hk, vj, ha]
 cases vj n (P.drop (k + 1)) with
 | none => rfl
 | some ys => simp
theorem zrn {n : Int} {P : List Bs} {xs : List (List Itv)} (h : zb5 n P P.length xs) : vj n P = some xs := by
 unfold zb5 at h
 rw [h, List.drop_length]
 simp [vj]
theorem zth {n : Int} {acc : List Itv} {xs : List (List Itv)} {k : Nat} (hk : k < xs.length) : xp n acc (xs.drop k) = if (opL n orF acc xs[k]).length ≤ 32 then xp n (opL n orF acc xs[k]) (xs.drop (k + 1)) else none := by
 rw [List.drop_eq_getElem_cons hk, xp]
end V
theorem zqb (s : ByteArray) (w : World) (hm : zj w) (hs : s.size < 4294967281) :
  Calls Tryz.prog 91 #[.string s, .string ⟨#[32, 124, 124, 32]⟩] w fun e w' =>
   e = .returned (.slice (some ⟨w.heap.size, 0, none⟩) (Lib.split s.data.toList V.orT).length (Lib.split s.data.toList V.orT).length) /\ w' = w.alloc (.cells (xq (Lib.split s.data.toList V.orT)) 9) := by
 obtain ⟨m, hm⟩ := hm
 have g0 : (Lib.splitB ⟨#[32, 124, 124, 32]⟩ 0 (Lib.countB s ⟨#[32, 124, 124, 32]⟩) s).map (·.data.toList) = Lib.split s.data.toList V.orT := by
  rw [Lib.splitB_data]; rfl
 have g1 := Lib.splitB_all ⟨#[32, 124, 124, 32]⟩ (by decide) 0 _ s rfl
 have hl : (Lib.split s.data.toList V.orT).length = Lib.countB s ⟨#[32, 124, 124, 32]⟩ + 1 := by rw [← g0, List.length_map, g1]
 have hcs : xq (Lib.split s.data.toList V.orT) = ((Lib.splitB ⟨#[32, 124, 124, 32]⟩ 0 (Lib.countB s ⟨#[32, 124, 124, 32]⟩) s).map Value.string).toArray := by
  unfold xq
  rw [← g0, List.map_map]
  congr 1
 refine (Tryz.strings_Split s ⟨#[32, 124, 124, 32]⟩ m w hs hm (by decide)).mono ?_
 rintro e w' ⟨rfl, rfl⟩
 rw [hl, hcs]
 exact ⟨rfl, rfl⟩
theorem zmg (sep : V.Bs) : ∀ (k : Nat) (s x : V.Bs), x ∈ Lib.splitK sep 0 k s -> x.length ≤ s.length
 | 0, s, x, h => by rw [Lib.splitK, List.mem_singleton] at h; rw [h]; exact zwi _
 | k + 1, s, x, h => by
  rw [Lib.splitK] at h
  split at h
  ·rw [List.mem_singleton] at h; rw [h]; exact zwi _
  ·rcases List.mem_cons.1 h with rfl | h
   ·rw [List.length_take]; omega
   ·have := zmg sep k _ x h
    rw [List.length_drop] at this
    omega
theorem zkk (sep : V.Bs) : ∀ (k : Nat) (s : V.Bs), (Lib.splitK sep 0 k s).length ≤ k + 1
 | 0, s => by rw [Lib.splitK]; simp
 | k + 1, s => by
  rw [Lib.splitK]
  split
  ·simp
  ·have := zkk sep k (s.drop ((Lib.index s sep).toNat + sep.length))
   rw [List.length_cons]
   omega
theorem zo6 (s : V.Bs) : (Lib.split s V.orT).length ≤ s.length + 2 := by
 unfold Lib.split
 have h1 := zkk V.orT (Lib.count s V.orT) s
 have h2 := Lib.count_le s V.orT
 omega
theorem zpg {α : Type} {enc : α -> List Value} {k : Nat} {T : TypeId} {ops : Array Oper} {rest : List Oper} {o : Oper} {a : Act} {w : World} {Q : Exit -> Act -> World -> Prop} (hk : ∀ x, (enc x).length = k) (g1 : 0 < k) (g2 : ∀ x, ∀ u ∈ enc x, u.oneCell' = true) {bytes : Nat} (hi : jp T k bytes) (g3 : bytes ≤ 1000) (g4 : o.guard = none) (s x : Operand) (S : TypeId)
  (ho : o.op = .call { callee := .builtin .append, args := #[s, x], argTypes := #[S, S] }) (hu : Tryz.prog.underlying S = some (.slice T))
  (N : Nat) (v : Value) (l : List α) (hs : a.eval s = v) (g0 : GRow T k enc w N v l) (b : Nat) (c : α) (hx : a.eval x = .slice (some ⟨b, 0, none⟩) 1 1) (hr : ∀ j u, (enc c)[j]? = some u -> w.cell? ⟨b, j, none⟩ = some u) (hl : l.length ≤ 1000000) (hN : N ≤ w.heap.size)
  (h : ∀ v' w', GRow T k enc w' N v' (l ++ [c]) -> w.grownBy w' v.ownBlock -> (v'.ownBlock = v.ownBlock ∨ v'.ownBlock = some w.heap.size) -> wpList Tryz.prog ops Q rest (a.put o.dst v') w') : wpList Tryz.prog ops Q (o :: rest) a w := by
 obtain ⟨ie, z, g5, hz, h1, h2, h3⟩ := hi
 refine wpList_append_own_at w g4 s x S ho N T ie z k bytes hu g5 hz h1 h2 h3 g1 v l.length (l.flatMap enc) hs g0 ⟨b, 0, none⟩ 1 1 (enc c) hx (by rw [hk]; omega) ?_ (g2 c) (by unfold maxLen; omega) ?_ hN ?_
 ·intro j u hj
  rw [Addr.add_mid, Nat.zero_add]
  exact hr j u hj
 ·have : (l.length + 1) * bytes ≤ 1000001 * 1000 := Nat.mul_le_mul (by omega) g3
  omega
 ·intro v' w' g6 hg _ g7
  refine h v' w' ?_ hg g7
  unfold GRow
  rw [List.length_append, List.flatMap_append]
  simpa using g6
theorem setInfo : jp 68 2 32 := by
 have h : (match Tryz.prog.info? 68 with | some i => i.size == 2 && (i.bytes == 32 && (match i.zero with | some z => z.cells.size == 2 | none => false)) | none => false) = true := by kernel_rfl
 unfold jp
 cases hq : Tryz.prog.info? 68 with
 | none => rw [hq] at h; cases h
 | some i =>
  exact zwv
structure Sl where
 a : Option Addr
 n : Nat
 c : Nat
def Sl.v (s : Sl) : Value := .slice s.a s.n s.c
def slE (n : Int) (s : Sl) : List Value := [.int .i64 n, s.v]
theorem zt0 (n : Int) (s : Sl) : (slE n s).length = 2 := rfl
theorem slE_one (n : Int) (s : Sl) : ∀ u ∈ slE n s, u.oneCell' = true := by
 intro u hu
 simp [slE] at hu
 rcases hu with rfl | rfl <;> rfl
theorem Itvs.lt {w : World} {u : Value} {l : List V.Itv} (h : Itvs w u l) (hl : l ≠ []) {c : Nat} (hc : u.ownBlock = some c) : c < w.heap.size := by
 obtain ⟨a, cap, rfl, hx⟩ := h
 obtain ⟨b, off, rfl, hlt, _⟩ := hx 0 (List.length_pos_iff.2 hl)
 simp [Value.ownBlock] at hc
 omega
theorem Itvs.grown {w w' : World} {u : Value} {l : List V.Itv} {row : Option Nat} (h : Itvs w u l) (hg : w.grownBy w' row) (hs : l ≠ [] -> ∀ c, u.ownBlock = some c -> row ≠ some c) : Itvs w' u l := by
 obtain ⟨a, cap, rfl, hx⟩ := h
 refine ⟨a, cap, rfl, fun j hj => ?_⟩
 obtain ⟨b, off, rfl, hlt, h0, h1, h2, h3⟩ := hx j hj
 have g0 : l ≠ [] := fun e => by rw [e] at hj; simp at hj
 have hb : row ≠ some b := hs g0 b rfl
 have hk := fun o v (g : w.cell? ⟨b, o, none⟩ = some v) => hg.cell g (fun e => hb e.symm)
 exact ⟨b, off, rfl, Nat.lt_of_lt_of_le hlt hg.size, hk _ _ h0, hk _ _ h1, hk _ _ h2, hk _ _ h3⟩
structure SetRow (n : Int) (N : Nat) (w : World) (v : Value) (us : List Sl) (xs : List (List V.Itv)) : Prop where
 row : GRow 68 2 (slE n) w N v us
 len : us.length = xs.length
 each : ∀ j (h : j < us.length) (h' : j < xs.length), Itvs w us[j].v xs[j] /\ (xs[j] ≠ [] -> ∀ c, us[j].v.ownBlock = some c -> v.ownBlock ≠ some c)
theorem SetRow.nil (n : Int) (N : Nat) (w : World) : SetRow n N w (.slice none 0 0) [] [] := ⟨GRow.nil _ _, rfl, fun j h => by simp at h⟩
theorem SetRow.later {n : Int} {N : Nat} {w w' : World} {v : Value} {us : List Sl} {xs : List (List V.Itv)} (h : SetRow n N w v us xs) (hb : Below w.heap.size w w') : SetRow n N w' v us xs :=
 ⟨GRow.below h.row hb, h.len, fun j hj g0 => ⟨(h.each j hj g0).1.below hb, (h.each j hj g0).2⟩⟩
theorem SetRow.add {n : Int} {N : Nat} {w w' : World} {v v' : Value} {us : List Sl} {xs : List (List V.Itv)} {u : Sl} {x : List V.Itv} (h : SetRow n N w v us xs) (hr : GRow 68 2 (slE n) w' N v' (us ++ [u])) (hg : w.grownBy w' v.ownBlock) (ho : v'.ownBlock = v.ownBlock ∨ v'.ownBlock = some w.heap.size)
  (hu : Itvs w u.v x) (hs : x ≠ [] -> ∀ c, u.v.ownBlock = some c -> v.ownBlock ≠ some c) : SetRow n N w' v' (us ++ [u]) (xs ++ [x]) := by
 have one : ∀ (q : Value) (y : List V.Itv), Itvs w q y -> (y ≠ [] -> ∀ c, q.ownBlock = some c -> v.ownBlock ≠ some c) -> Itvs w' q y /\ (y ≠ [] -> ∀ c, q.ownBlock = some c -> v'.ownBlock ≠ some c) := fun q y hq hn => by
  refine ⟨hq.grown hg hn, fun hy c hc => ?_⟩
  rcases ho with e | e
  ·rw [e]; exact hn hy c hc
  ·rw [e]
   intro g
   have := hq.lt hy hc
   cases g
   omega
 refine ⟨hr, by rw [List.length_append, List.length_append, h.len]; rfl, fun j hj g0 => ?_⟩
 by_cases e : j < us.length
 ·have e2 : j < xs.length := by rw [← h.len]; exact e
  rw [List.getElem_append_left e, List.getElem_append_left e2]
  exact one _ _ (h.each j e e2).1 (h.each j e e2).2
 ·have ej : j = us.length := by rw [List.length_append, List.length_singleton] at hj; omega
  subst ej
  have e1 : (us ++ [u])[us.length] = u := by simp
  have e2 : (xs ++ [x])[us.length]'g0 = x := by simp [h.len]
  rw [e1, e2]
  exact one _ _ hu hs
end Go.Proofs.YtbikeahmldobkaaGreatDoor
