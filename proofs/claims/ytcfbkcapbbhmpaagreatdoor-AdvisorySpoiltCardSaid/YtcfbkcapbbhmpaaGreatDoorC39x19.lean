import Derived.Test.YtcfbkcapbbhmpaaGreatDoorC39x17
import Derived.Test.YtcfbkcapbbhmpaaGreatDoorC39x09
import Derived.Test.YtcfbkcapbbhmpaaGreatDoorC39x18
import Derived.Test.YtcfbkcapbbhmpaaGreatDoorC39x07
import Derived.Outline
set_option linter.all false
set_option maxRecDepth 100000
set_option maxHeartbeats 6400000
namespace Go.Proofs.YtcfbkcapbbhmpaaGreatDoor
open Go.RowKit
theorem zv6 (x y : Bool) (w : World) : Calls Tryz.prog 142 #[.bool x, .bool y] w fun e w' => e = .returned (.bool (V.orF x y)) /\ w = w' := by
 cases x <;> cases y
 all_goals
  go_enter Tryz.func142, Tryz.ntmps142
  go_wp2
  go_ret
  exact ⟨rfl, rfl⟩
def ju (r : Int × List V.Itv × Int) (w : World) (e : Ending) (w' : World) : Prop :=
 ∃ u, e = .returned (.tuple #[setV r.1 u, .int .i64 r.2.2]) /\ Itvs w' u r.2.1 /\ (∀ c, u.ownBlock = some c -> w.heap.size ≤ c) /\ Below w.heap.size w w'
theorem ju.zero {w w' : World} (h : Below w.heap.size w w') (k : Int) : ju (0, [], k) w (.returned (.tuple #[setV 0 (.slice none 0 0), .int .i64 k])) w' :=
 ⟨_, rfl, Itvs.nil _, (fun c hc => by cases hc), h⟩
def zoy (n : Int) (v : Value) (l : List V.Itv) (w : World) (e : Ending) (w' : World) : Prop :=
 ∃ u, e = .returned (.tuple #[setV (V.limP n l).1 u, .int .i64 (V.limP n l).2.2]) /\ (u = v /\ (V.limP n l).2.1 = l ∨ u = .slice none 0 0 /\ (V.limP n l).2.1 = []) /\ Below w.heap.size w w'
theorem zm6 (n : Int) (v : Value) (l : List V.Itv) (w : World) (hv : Itvs w v l) (hl : l.length ≤ 1000) :
  Calls Tryz.prog 171 #[setV n v] w (zoy n v l w) := by
 obtain ⟨a, cap, rfl⟩ := hv.slice
 unfold setV
 have hb0 : Below w.heap.size w ((w.alloc (.cells #[.int .i64 n, .slice a l.length cap] 45)).alloc (.cells #[.int .i64 n, .slice a l.length cap] 45)) := ((zwh _ _).alloc (zwg _) _).alloc (by simp) _
 have hb1 : Below w.heap.size w ((w.alloc (.cells #[.int .i64 n, .slice a l.length cap] 45)).alloc (.cells #[.int .i64 0, .slice none 0 0] 45)) := ((zwh _ _).alloc (zwg _) _).alloc (by simp) _
 have HB0 := zwe hb0
 have HB1 := zwe hb1
 clear hb0 hb1 hv
 by_cases h32 : 32 < l.length
 ·have HR : Hid (V.limP n l = (0, [], 3)) := zwe (by unfold V.limP; rw [if_neg (by omega)])
  go_enter Tryz.func171, Tryz.ntmps171
  go_wp2
  exact bodyPost_ret (v := .tuple #[.agg #[.int .i64 0, .slice none 0 0], .int .i64 3]) (by simp [results, Tryz.results171, go_sem]) rfl (by unfold zoy; rw [HR.out]; exact ⟨_, rfl, .inr ⟨rfl, rfl⟩, HB1.out⟩)
 ·have HR : Hid (V.limP n l = (n, l, 0)) := zwe (by unfold V.limP; rw [if_pos (by omega)])
  go_enter Tryz.func171, Tryz.ntmps171
  go_wp2
  exact bodyPost_ret (v := .tuple #[.agg #[.int .i64 n, .slice a l.length cap], .int .i64 0]) (by simp [results, Tryz.results171, go_sem]) rfl (by unfold zoy; rw [HR.out]; exact ⟨_, rfl, .inl ⟨rfl, rfl⟩, HB0.out⟩)
theorem zrb (n m : Int) (va vb : Value) (a b : List V.Itv) (w : World) (hm : zg w) (hva : Itvs w va a) (hvb : Itvs w vb b) (hsa : Lens a) (hsb : Lens b) (hla : a.length ≤ maxLen) (hlb : b.length ≤ maxLen) :
  Calls Tryz.prog 170 #[setV n va, setV m vb] w fun e w' => e = .returned (.int .i64 (V.chkP n a m b)) /\ Below w.heap.size w w' := by
 have HVA := zwe hva
 have HVB := zwe hvb
 obtain ⟨aa, ac, rfl⟩ := hva.slice
 obtain ⟨ba, bc, rfl⟩ := hvb.slice
 have HSA := zwe hsa
 have HSB := zwe hsb
 have HLA := zwe hla
 have HLB := zwe hlb
 have HF : Hid (V.chkP n a m b = if V.okR n a && V.okR m b then (if n = m then 0 else 14) else 1) := zwe rfl
 obtain ⟨hb0, hc0, _, hz0⟩ := ze8 w #[.int .i64 n, .slice aa a.length ac] #[.int .i64 m, .slice ba b.length bc] 45 45
 have c0 : ((w.alloc (.cells #[.int .i64 n, .slice aa a.length ac] 45)).alloc (.cells #[.int .i64 m, .slice ba b.length bc] 45)).cell? ⟨w.heap.size, 0, none⟩ = some (.int .i64 n) := by simp [ze]
 have d0 : ((w.alloc (.cells #[.int .i64 n, .slice aa a.length ac] 45)).alloc (.cells #[.int .i64 m, .slice ba b.length bc] 45)).cell? ⟨w.heap.size + 1, 0, none⟩ = some (.int .i64 m) := by rw [hc0]; rfl
 have d1 : ((w.alloc (.cells #[.int .i64 n, .slice aa a.length ac] 45)).alloc (.cells #[.int .i64 m, .slice ba b.length bc] 45)).cell? ⟨w.heap.size + 1, 1, none⟩ = some (.slice ba b.length bc) := by rw [hc0]; rfl
 have HB0 := zwe hb0
 have HM0 := zwe (hm.below hb0)
 clear hva hvb hsa hsb hla hlb hm hc0 hb0 hz0
 unfold setV
 go_enter Tryz.func170, Tryz.ntmps170
 go_wp2_with fail
 generalize (w.alloc (.cells #[.int .i64 n, .slice aa a.length ac] 45)).alloc (.cells #[.int .i64 m, .slice ba b.length bc] 45) = w0 at *
 refine (zaz n (.slice aa a.length ac) a w0 HM0.out (HVA.out.below HB0.out) HSA.out HLA.out).mono ?_
 rintro e w1 ⟨rfl, hb1⟩
 have k0 := za hb1 c0
 have k1 := za hb1 d0
 have k2 := za hb1 d1
 have HB1 := zwf HB0 hb1
 have HM1 := zwe (HM0.out.below hb1)
 clear hb1 c0 d0 d1
 rcases hok : V.okR n a with _ | _
 ·have HR : Hid (V.chkP n a m b = 1) := zwe (by rw [HF.out, hok]; rfl)
  clear hok
  go_wp2
  go_ret
  exact ⟨zp HR.out.symm, HB1.out⟩
 ·have HOK := zwe hok
  clear hok
  go_wp2_with fail
  refine (zaz m (.slice ba b.length bc) b w1 HM1.out (HVB.out.below HB1.out) HSB.out HLB.out).mono ?_
  rintro e w2 ⟨rfl, hb2⟩
  have j0 := za hb2 k0
  have j1 := za hb2 k1
  have HB2 := zwf HB1 hb2
  clear hb2 k0 k1 k2
  rcases hok2 : V.okR m b with _ | _
  ·have HR : Hid (V.chkP n a m b = 1) := zwe (by rw [HF.out, HOK.out, hok2]; rfl)
   clear hok2
   exact z0f
  ·have HOK2 := zwe hok2
   clear hok2
   by_cases hnm : n = m
   ·have HR : Hid (V.chkP n a m b = 0) := zwe (by rw [HF.out, HOK.out, HOK2.out, hnm]; simp)
    have hq : (n != m) = false := by simp [hnm]
    clear hnm
    exact z0f
   ·have HR : Hid (V.chkP n a m b = 14) := zwe (by rw [HF.out, HOK.out, HOK2.out]; simp [hnm])
    have hq : (n != m) = true := by simpa using hnm
    clear hnm
    exact z0f
theorem zm4 (n m : Int) (va vb : Value) (a b : List V.Itv) (K : Nat) (f : Bool -> Bool -> Bool) (w : World) (hm : zg w) (hva : Itvs w va a) (hvb : Itvs w vb b) (hsa : Lens a) (hsb : Lens b) (hla : a.length ≤ maxLen) (hlb : b.length ≤ maxLen)
  (eg : ∀ args w, (callFunc K args).run Tryz.prog w = .ok (.enter K args) w) (hK : ∀ (x y : Bool) W, Calls Tryz.prog K #[.bool x, .bool y] W fun e w' => e = .returned (.bool (f x y)) /\ W = w') :
  Calls Tryz.prog 141 #[setV n va, setV m vb, .func (.func K) #[] #[]] w (ju (V.opP f n a m b) w) := by
 have HVA := zwe hva
 have HVB := zwe hvb
 obtain ⟨aa, ac, rfl⟩ := hva.slice
 obtain ⟨ba, bc, rfl⟩ := hvb.slice
 have HSA := zwe hsa
 have HSB := zwe hsb
 have HLA := zwe hla
 have HLB := zwe hlb
 have HKK := zwe hK
 have HEG := zwe eg
 have HF : Hid (V.opP f n a m b = if V.chkP n a m b = 0 then V.limP n (V.opL n f a b) else (0, [], V.chkP n a m b)) := zwe rfl
 have H3 := zwe (xr w (.cells #[.int .i64 n, .slice aa a.length ac] 45) (.cells #[.int .i64 m, .slice ba b.length bc] 45) (.cells #[.int .i64 0, .slice none 0 0] 45))
 have hb0 : Below w.heap.size w (((w.alloc (.cells #[.int .i64 n, .slice aa a.length ac] 45)).alloc (.cells #[.int .i64 m, .slice ba b.length bc] 45)).alloc (.cells #[.int .i64 0, .slice none 0 0] 45)) := (((zwh _ _).alloc (zwg _) _).alloc (by simp) _).alloc (by simp; omega) _
 have HB0 := zwe hb0
 have HM0 := zwe (hm.below hb0)
 clear hva hvb hsa hsb hla hlb hm hb0 hK eg
 unfold setV
 go_enter Tryz.func141, Tryz.ntmps141
 go_wp2_with fail
 generalize ((w.alloc (.cells #[.int .i64 n, .slice aa a.length ac] 45)).alloc (.cells #[.int .i64 m, .slice ba b.length bc] 45)).alloc (.cells #[.int .i64 0, .slice none 0 0] 45) = w0 at *
 refine (zrb n m (.slice aa a.length ac) (.slice ba b.length bc) a b w0 HM0.out (HVA.out.below HB0.out) (HVB.out.below HB0.out) HSA.out HSB.out HLA.out HLB.out).mono ?_
 rintro e w1 ⟨rfl, hb1⟩
 have hsz := H3.out.2.2.2
 have K0 := (hb1.block _ (show w.heap.size < w0.heap.size by omega)).trans H3.out.1
 have K1 := (hb1.block _ (show w.heap.size + 1 < w0.heap.size by omega)).trans H3.out.2.1
 have K2 := (hb1.block _ (show w.heap.size + 1 + 1 < w0.heap.size by omega)).trans H3.out.2.2.1
 have HK := zwe (And.intro K0 (And.intro K1 K2))
 have HB1 := zwf HB0 hb1
 have HM1 := zwe (HM0.out.below hb1)
 clear hb1 K0 K1 K2
 by_cases hz : V.chkP n a m b = 0
 ·obtain ⟨oka, okb, rfl⟩ := V.zv4 hz
  have HOA := zwe oka
  have HOB := zwe okb
  have HR : Hid (V.opP f n a n b = V.limP n (V.opL n f a b)) := zwe (by rw [HF.out, if_pos hz])
  have HLEN := zwe (V.zuh f oka okb)
  rw [hz]
  have hc0 : w1.cell? ⟨w.heap.size, 0, none⟩ = some (.int .i64 n) := zwd HK.out.1 0
  have hc1 : w1.cell? ⟨w.heap.size, 1, none⟩ = some (.slice aa a.length ac) := zwd HK.out.1 1
  have hd0 : w1.cell? ⟨w.heap.size + 1, 0, none⟩ = some (.int .i64 n) := zwd HK.out.2.1 0
  have hd1 : w1.cell? ⟨w.heap.size + 1, 1, none⟩ = some (.slice ba b.length bc) := zwd HK.out.2.1 1
  clear oka okb hz
  go_wp2_with fail
  refine (zfe n a b (.slice aa a.length ac) (.slice ba b.length bc) K f w1 HM1.out HOA.out HOB.out (HVA.out.below HB1.out) (HVB.out.below HB1.out) HEG.out HKK.out).mono ?_
  rintro e w2 ⟨u, rfl, hu, how, hb2⟩
  obtain ⟨ua, uc, rfl⟩ := hu.slice
  have HU := zwe hu
  have HOW := zwe how
  have HB2 := zwf HB1 hb2
  have HK2 := zwe ((hb2.block _ (Array.getElem?_eq_some_iff.1 HK.out.2.2).1).trans HK.out.2.2)
  have hsz1 : w.heap.size + 1 + 1 < w1.heap.size := (Array.getElem?_eq_some_iff.1 HK.out.2.2).1
  clear hu how hb2 hc0 hc1 hd0 hd1
  unfold setV
  go_wp2_with fail
  refine (zm6 n (.slice ua (V.opL n f a b).length uc) _ w2 HU.out (by have := HLEN.out; omega)).mono ?_
  rintro e w3 ⟨u3, rfl, hu3, hb3⟩
  have HU3 := zwe hu3
  have hsl : ∃ p q r, u3 = .slice p q r := by
   rcases hu3 with ⟨rfl, _⟩ | ⟨rfl, _⟩
   ·exact ⟨_, _, _, rfl⟩
   ·exact ⟨_, _, _, rfl⟩
  obtain ⟨p3, q3, r3, rfl⟩ := hsl
  have HB3 := zwf HB2 hb3
  have HK3 := zwe ((hb3.block _ (Array.getElem?_eq_some_iff.1 HK2.out).1).trans HK2.out)
  have HU4 := zwe (HU.out.below hb3)
  clear hu3 hb3
  obtain ⟨r, hr⟩ : ∃ r, r = V.limP n (V.opL n f a b) := ⟨_, rfl⟩
  rw [← hr] at HU3 HR ⊢
  clear hr
  obtain ⟨k1, l1, c1⟩ := r
  unfold setV
  go_wp2_with (first | (refine zi rfl 45 _ _ rfl (w.heap.size + 1 + 1) #[.int .i64 0, .slice none 0 0] _ HK3.out rfl #[.int .i64 k1, .slice p3 q3 r3] rfl rfl (by kernel_rfl) (zt _ _ _ _) ?_; intro W2 hp2; have z0 : W2.cell? ⟨w.heap.size + 1 + 1, 0, none⟩ = some (.int .i64 k1) := zwd hp2.here 0; have z1 : W2.cell? ⟨w.heap.size + 1 + 1, 1, none⟩ = some (.slice p3 q3 r3) := zwd hp2.here 1) | fail)
  have HOF : Hid (∀ c, (Value.slice p3 q3 r3).ownBlock = some c -> w1.heap.size ≤ c) := zwe (fun c hc => by
    rcases HU3.out with ⟨e, _⟩ | ⟨e, _⟩
    · rw [e] at hc; exact HOW.out c hc
    · rw [e] at hc; cases hc)
  have HIV : Hid (Itvs W2 (.slice p3 q3 r3) l1) := zwe (hp2.itvs (by
    rcases HU3.out with ⟨e, e2⟩ | ⟨e, e2⟩
    · rw [e, e2]; exact HU4.out
    · rw [e, e2]; exact Itvs.nil _) (fun c hc => by have := HOF.out c hc; omega))
  have HBF := zwe (hp2.below HB3.out (by omega))
  have HSZ := zwe HB1.out.size
  clear hp2
  exact bodyPost_ret (v := .tuple #[.agg #[.int .i64 k1, .slice p3 q3 r3], .int .i64 c1]) (by simp [results, Tryz.results141, go_sem, z0, z1]) rfl (by rw [HR.out]; exact ⟨_, rfl, HIV.out, (fun c hc => by have := HOF.out c hc; have := HSZ.out; omega), HBF.out⟩)
 ·have HR : Hid (V.opP f n a m b = (0, [], V.chkP n a m b)) := zwe (by rw [HF.out, if_neg hz])
  have hq : (V.chkP n a m b != 0) = true := by simpa using hz
  generalize V.chkP n a m b = z at *
  clear hz
  go_wp2_with (first | (refine zi rfl 45 _ _ rfl (w.heap.size + 1 + 1) #[.int .i64 0, .slice none 0 0] _ HK.out.2.2 rfl #[.int .i64 0, .slice none 0 0] rfl rfl (by kernel_rfl) (zt _ _ _ _) ?_; intro W2 hp2; have z0 : W2.cell? ⟨w.heap.size + 1 + 1, 0, none⟩ = some (.int .i64 0) := zwd hp2.here 0; have z1 : W2.cell? ⟨w.heap.size + 1 + 1, 1, none⟩ = some (.slice none 0 0) := zwd hp2.here 1) | fail)
  have HBF := zwe (hp2.below HB1.out (by omega))
  clear hp2
  exact bodyPost_ret (v := .tuple #[.agg #[.int .i64 0, .slice none 0 0], .int .i64 z]) (by simp [results, Tryz.results141, go_sem, z0, z1]) rfl (by rw [HR.out]; exact ju.zero HBF.out _)
def yn (n : Int) (r : Option (List V.Itv)) (w : World) (e : Ending) (w' : World) : Prop :=
 ∃ (m : Int) (u : Value) (l : List V.Itv) (b : Bool), e = .returned (.tuple #[setV m u, .bool b]) /\ (b = false /\ r = none ∨ b = true /\ m = n /\ r = some l) /\ Itvs w' u l /\ (∀ c, u.ownBlock = some c -> w.heap.size ≤ c) /\ Below w.heap.size w w'
theorem yn.no {n : Int} {w w' : World} (h : Below w.heap.size w w') : yn n none w (.returned (.tuple #[setV 0 (.slice none 0 0), .bool false])) w' :=
 ⟨0, _, [], false, rfl, .inl ⟨rfl, rfl⟩, Itvs.nil _, (fun c hc => by cases hc), h⟩
theorem yn.yes {n : Int} {w w' : World} {u : Value} {l : List V.Itv} {r : Option (List V.Itv)} (hr : r = some l) (h : Below w.heap.size w w') (hu : Itvs w' u l) (ho : ∀ c, u.ownBlock = some c -> w.heap.size ≤ c) : yn n r w (.returned (.tuple #[setV n u, .bool true])) w' :=
 ⟨n, u, l, true, rfl, .inr ⟨rfl, rfl, hr⟩, hu, ho, h⟩
theorem zj1 {n : Int} {out : List V.Itv} {L : List V.Bs} {k : Nat} {y : V.Itv} (hk : k < L.length) (hy : V.jr n L[k] = some y) : V.xo n out (L.drop k) = V.xo n (V.opL n V.andF out [y]) (L.drop (k + 1)) := by
 rw [List.drop_eq_getElem_cons hk, V.xo, hy]
theorem zkq {n : Int} {out : List V.Itv} {L : List V.Bs} {k : Nat} (hk : k < L.length) (hy : V.jr n L[k] = none) : V.xo n out (L.drop k) = none := by
 rw [List.drop_eq_getElem_cons hk, V.xo, hy]
theorem zjw {w : World} {b : Nat} {y : V.Itv} (h : w.heap[b]? = some (.cells (itvC y) 82 (0, 0))) : Itvs w (.slice (some ⟨b, 0, none⟩) 1 1) [y] := by
 refine ⟨_, 1, rfl, fun j hj => ?_⟩
 obtain rfl : j = 0 := by simpa using hj
 exact ⟨b, 0, rfl, (Array.getElem?_eq_some_iff.1 h).1, zwd h 0, zwd h 1, zwd h 2, zwd h 3⟩
theorem ztg (x y : Bool) (w : World) : Calls Tryz.prog 140 #[.bool x, .bool y] w fun e w' => e = .returned (.bool (V.andF x y)) /\ w = w' := by
 cases x <;> cases y
 all_goals
  go_enter Tryz.func140, Tryz.ntmps140
  go_wp2
  go_ret
  exact ⟨rfl, rfl⟩
structure AltInv (n : Int) (w : World) (B X G : Nat) (L : List V.Bs) (out : List V.Itv) (u : Value) (W : World) : Prop where
 below : Below w.heap.size w W
 res : W.heap[B]? = some (.cells #[.int .i64 0, .slice none 0 0] 45 (0, 0))
 box : W.heap[X]? = some (.cells #[.int .i64 n, u] 45 (0, 0))
 one : V.One n out
 set : Itvs W u out
 own : ∀ c, u.ownBlock = some c -> w.heap.size ≤ c /\ c ≠ X /\ c ≠ B
 txt : ∀ j (h : j < L.length), W.cell? ⟨G, j, none⟩ = some (.string ⟨L[j].toArray⟩)
theorem AltInv.later {n : Int} {w W W' : World} {B X G : Nat} {L : List V.Bs} {out : List V.Itv} {u : Value} (h : AltInv n w B X G L out u W) (hb : Below W.heap.size W W') : AltInv n w B X G L out u W' :=
 ⟨h.below.trans (hb.mono h.below.size), ku hb h.res, ku hb h.box, h.one, h.set.below hb, h.own, fun j hj => za hb (h.txt j hj)⟩
theorem AltInv.put {n : Int} {w W W' : World} {B X G : Nat} {L : List V.Bs} {out out' : List V.Itv} {u u' : Value} (h : AltInv n w B X G L out u W) (hp : PutAt W W' X #[.int .i64 n, u'] 45) (hX : w.heap.size ≤ X) (hBX : B ≠ X) (hGX : G ≠ X)
  (ho : V.One n out') (hs : Itvs W u' out') (hw : ∀ c, u'.ownBlock = some c -> w.heap.size ≤ c /\ c ≠ X /\ c ≠ B) : AltInv n w B X G L out' u' W' :=
 ⟨hp.below h.below hX, hp.other h.res hBX, hp.here, ho, hp.itvs hs (fun c hc => (hw c hc).2.1), hw, fun j hj => hp.cell (h.txt j hj) hGX⟩
theorem zxi {P : Prop} (h : P := by
 obtain ⟨p5, q5, rfl⟩ := hu5.slice
 have HI5 := zwe (HI4.out.later hb5)
 have HU5 := zwe hu5
 have HO5 := zwe (fun c hc => by
   have h1 := how5 c hc
   rw [HZ4.out] at h1
   exact (show w.heap.size ≤ c /\ c ≠ w.heap.size + 2 /\ c ≠ w.heap.size by have := HS2.out; omega))
 have HONE := zwe (HI2.out.one.and ⟨HOK.out, by simp⟩)
 have HEQ : Hid (V.altP n s = V.xo n (V.opL n V.andF out [y]) (L.drop (k + 1))) := zwe (by rw [HE.out, HST.out y HC.out])
 clear hu5 how5 hb5 y0 y1
 unfold setV
 go_wp2_with (first | (refine zi rfl 45 _ _ rfl (w.heap.size + 2) _ _ HI5.out.box rfl #[.int .i64 n, .slice p5 (V.opL n V.andF out [y]).length q5] rfl rfl (by kernel_rfl) (zt _ _ _ _) ?_; intro W6 hp6) | fail)
 have HI6 := zwe (HI5.out.put hp6 (by omega) (by omega) (by omega) HONE.out HU5.out HO5.out)
 clear hp6
 go_roundw
 case rel => exact ⟨k + 1, _, _, by omega, by go_num, HEQ.out, HI6.out⟩
 case measure => simp [intOf]; omega) : P := h
theorem zzk {P : Prop} (h : P := by
 refine ⟨HB1.out.trans (hb2.mono HB1.out.size), ku hb2 HR1.out, ku hb2 HX1.out, V.zjp HN.out, HS1.out.below hb2, (fun c hc => ?_), (fun j hj => ?_)⟩
 ·simp [Value.ownBlock] at hc; omega
 ·rw [hW2, World.cell?_alloc_new]; exact yp _ j hj) : P := h
theorem zge (n : Int) (s : V.Bs) (w : World) (hm : zg w) (hn : V.scheme n = true) (hs : s.length ≤ 100000) :
  Calls Tryz.prog 110 #[.int .i64 n, .string ⟨s.toArray⟩] w (yn n (V.altP n s) w) := by
 have HN := zwe hn
 have HM := zwe hm
 have HLS := zwe hs
 have HF : Hid (V.altP n s = if s = V.zc3 then some [] else if s = [42] then some [V.noI] else V.xo n [V.noI] (V.zd 32 s)) := zwe rfl
 have HSZ : Hid ((ByteArray.mk s.toArray).size ≤ 100000) := zwe (by simpa [ByteArray.size] using hs)
 have HSD : Hid ((ByteArray.mk s.toArray).data.toList = s) := zwe rfl
 have hb0 : Below w.heap.size w (w.alloc (.cells #[.int .i64 0, .slice none 0 0] 45)) := (zwh _ w).alloc (zwg _) _
 have K0 : Hid ((w.alloc (.cells #[.int .i64 0, .slice none 0 0] 45)).heap[w.heap.size]? = some (.cells #[.int .i64 0, .slice none 0 0] 45 (0, 0))) := zwe (by rw [heap_alloc, if_pos rfl])
 have HB0 := zwe hb0
 clear hb0 hm hs hn
 generalize (ByteArray.mk s.toArray) = S at *
 by_cases h1 : s = V.zc3
 ·have HT : (S.toList == [110, 111, 110, 101]) = true := by rw [ByteArray.toList_eq, HSD.out, h1]; rfl
  have HR : Hid (V.altP n s = some []) := zwe (by rw [HF.out, if_pos h1])
  clear h1
  go_enter Tryz.func110, Tryz.ntmps110
  go_wp2_with (first | (refine zi rfl 45 _ _ rfl w.heap.size #[.int .i64 0, .slice none 0 0] _ K0.out rfl #[.int .i64 n, .slice none 0 0] rfl rfl (by kernel_rfl) (zt _ _ _ _) ?_; intro W2 hp2; have z0 : W2.cell? ⟨w.heap.size, 0, none⟩ = some (.int .i64 n) := zwd hp2.here 0; have z1 : W2.cell? ⟨w.heap.size, 1, none⟩ = some (.slice none 0 0) := zwd hp2.here 1) | fail)
  have HBF := zwe (hp2.below HB0.out (zwg _))
  clear hp2
  exact bodyPost_ret (v := .tuple #[.agg #[.int .i64 n, .slice none 0 0], .bool true]) (by simp [results, Tryz.results110, go_sem, z0, z1]) rfl (yn.yes HR.out HBF.out (Itvs.nil _) (fun c hc => by cases hc))
 ·have HT : (S.toList == [110, 111, 110, 101]) = false := by rw [zwi, ByteArray.toList_eq, HSD.out]; exact h1
  have HF1 : Hid (V.altP n s = if s = [42] then some [V.noI] else V.xo n [V.noI] (V.zd 32 s)) := zwe (by rw [HF.out, if_neg h1])
  obtain ⟨W0, hW0⟩ : ∃ W0, W0 = (w.alloc (.cells #[.int .i64 0, .slice none 0 0] 45)).alloc (.cells #[.string ⟨#[]⟩, .int .i64 0, .string ⟨#[]⟩, .int .i64 0] 82) := ⟨_, rfl⟩
  obtain ⟨W1, hW1⟩ : ∃ W1, W1 = W0.alloc (.cells #[.int .i64 n, .slice (some ⟨w.heap.size + 1, 0, none⟩) 1 1] 45) := ⟨_, rfl⟩
  have hz0 : W0.heap.size = w.heap.size + 2 := by rw [hW0]; simp
  have hI : W0.heap[w.heap.size + 1]? = some (.cells (itvC V.noI) 82 (0, 0)) := by rw [hW0, heap_alloc, if_pos (by simp)]; rfl
  have hb1 : Below W0.heap.size W0 W1 := by rw [hW1]; exact (zwh _ _).alloc (zwg _) _
  have hB1 : Below w.heap.size w W1 := by rw [hW1, hW0]; exact ((HB0.out.alloc (by simp) _).alloc (by simp; omega) _)
  have hR1 : W1.heap[w.heap.size]? = some (.cells #[.int .i64 0, .slice none 0 0] 45 (0, 0)) := by rw [hW1, heap_alloc, if_neg (by omega), hW0, heap_alloc, if_neg (by simp)]; exact K0.out
  have hX1 : W1.heap[w.heap.size + 2]? = some (.cells #[.int .i64 n, .slice (some ⟨w.heap.size + 1, 0, none⟩) 1 1] 45 (0, 0)) := by rw [hW1, heap_alloc, if_pos (by omega)]
  have hz1 : W1.heap.size = w.heap.size + 3 := by rw [hW1]; simp; omega
  have hS1 : Itvs W1 (.slice (some ⟨w.heap.size + 1, 0, none⟩) 1 1) [V.noI] := (zjw hI).below hb1
  have HW1 : Hid (((w.alloc (.cells #[.int .i64 0, .slice none 0 0] 45)).alloc (.cells #[.string ⟨#[]⟩, .int .i64 0, .string ⟨#[]⟩, .int .i64 0] 82)).alloc (.cells #[.int .i64 n, .slice (some ⟨w.heap.size + 1, 0, none⟩) 1 1] 45) = W1) := zwe (by rw [hW1, hW0])
  have HB1 := zwe hB1
  have HR1 := zwe hR1
  have HX1 := zwe hX1
  have HZ1 := zwe hz1
  have HS1 := zwe hS1
  clear hW0 hW1 hz0 hI hb1 hB1 hR1 hX1 hz1 hS1 h1
  go_enter Tryz.func110, Tryz.ntmps110
  by_cases h2 : s = [42]
  ·have HT2 : (S.toList == [42]) = true := by rw [ByteArray.toList_eq, HSD.out, h2]; rfl
   have HR : Hid (V.altP n s = some [V.noI]) := zwe (by rw [HF1.out, if_pos h2])
   clear h2
   go_wp2_with (first | (refine zi rfl 45 _ _ rfl w.heap.size #[.int .i64 0, .slice none 0 0] _ (by rw [HW1.out]; exact HR1.out) rfl #[.int .i64 n, .slice (some ⟨w.heap.size + 1, 0, none⟩) 1 1] rfl rfl (by kernel_rfl) (zt _ _ _ _) ?_; rw [HW1.out]; intro W2 hp2; have z0 : W2.cell? ⟨w.heap.size, 0, none⟩ = some (.int .i64 n) := zwd hp2.here 0; have z1 : W2.cell? ⟨w.heap.size, 1, none⟩ = some (.slice (some ⟨w.heap.size + 1, 0, none⟩) 1 1) := zwd hp2.here 1) | fail)
   have HBF := zwe (hp2.below HB1.out (zwg _))
   have HIV := zwe (hp2.itvs HS1.out (fun c hc => by simp [Value.ownBlock] at hc; omega))
   clear hp2
   exact bodyPost_ret (v := .tuple #[.agg #[.int .i64 n, .slice (some ⟨w.heap.size + 1, 0, none⟩) 1 1], .bool true]) (by simp [results, Tryz.results110, go_sem, z0, z1]) rfl (yn.yes HR.out HBF.out HIV.out (fun c hc => by simp [Value.ownBlock] at hc; omega))
  ·have HT2 : (S.toList == [42]) = false := by rw [zwi, ByteArray.toList_eq, HSD.out]; exact h2
   have HF2 : Hid (V.altP n s = V.xo n [V.noI] (V.zd 32 s)) := zwe (by rw [HF1.out, if_neg h2])
   have HPL : Hid (∀ x ∈ V.zd 32 s, x.length ≤ 100000) := zwe (fun x hx => Nat.le_trans (kd 32 s x hx) HLS.out)
   have HLL : Hid ((V.zd 32 s).length ≤ 100001) := zwe (Nat.le_trans (jn 32 s) (by have := HLS.out; omega))
   clear h2
   go_wp2_with fail
   rw [HW1.out]
   refine (kp S 32 W1 (HM.out.below HB1.out) (by have := HSZ.out; omega)).mono ?_
   rintro e W2 ⟨rfl, hW2⟩
   rw [HSD.out] at hW2 ⊢
   have hb2 : Below W1.heap.size W1 W2 := by rw [hW2]; exact (zwh _ _).alloc (zwg _) _
   have hINV : AltInv n w w.heap.size (w.heap.size + 2) W1.heap.size (V.zd 32 s) [V.noI] (.slice (some ⟨w.heap.size + 1, 0, none⟩) 1 1) W2 := by
    exact zzk
   have HINV := zwe hINV
   have hz1 : W1.heap.size = w.heap.size + 3 := HZ1.out
   have hz2 : W2.heap.size = w.heap.size + 4 := by rw [hW2]; simp; omega
   have hll : (V.zd 32 s).length ≤ 100001 := HLL.out
   clear hb2 hINV hW2
   rw [hz1] at HINV ⊢
   clear hz1
   have HZ2 := zwe hz2
   clear hz2
   have HNEQ : Hid (V.altP n s = V.xo n [V.noI] ((V.zd 32 s).drop 0)) := zwe HF2.out
   generalize V.zd 32 s = L at *
   go_wp2_with fail
   go_loopw [25] (fun iv wx => ∃ (k : Nat) (out : List V.Itv) (u : Value), k ≤ L.length /\ iv = .int .i64 k /\ V.altP n s = V.xo n out (L.drop k) /\ AltInv n w w.heap.size (w.heap.size + 2) (w.heap.size + 3) L out u wx) (fun iv _ => L.length - (intOf iv).toNat)
   case atStart => exact ⟨0, _, _, Nat.zero_le _, rfl, HNEQ.out, HINV.out⟩
   case round =>
    obtain ⟨k, out, u, hk, rfl, heq, hinv⟩ := hrel
    have HE := zwe heq
    have HI := zwe hinv
    obtain ⟨p, q, rfl⟩ := hinv.set.slice
    clear heq hinv
    have x0 : wr.cell? ⟨w.heap.size + 1 + 1, 0, none⟩ = some (.int .i64 n) := zwd HI.out.box 0
    have x1 : wr.cell? ⟨w.heap.size + 1 + 1, 1, none⟩ = some (.slice p out.length q) := zwd HI.out.box 1
    by_cases hlt : k < L.length
    ·have hc := HI.out.txt k hlt
     have hi1 : (0 : Int) ≤ (k : Int) := by omega
     have hi2 : (k : Int) < (L.length : Int) := by omega
     have HLX := zwe (HPL.out _ (List.getElem_mem hlt))
     have HST := zwe (fun (y : V.Itv) hy => zj1 (n := n) (out := out) (y := y) hlt hy)
     have HNO := zwe (fun hy => zkq (n := n) (out := out) hlt hy)
     generalize L[k] = x at *
     go_wp2_with fail
     refine (zje n x wr (HM.out.below HI.out.below) HLX.out).mono ?_
     rintro e w2 ⟨y, b, rfl, hor, hb2⟩
     have HOR := zwe hor
     have HI2 := zwe (HI.out.later hb2)
     clear hor hb2 hc x0 x1
     have x0 : w2.cell? ⟨w.heap.size + 1 + 1, 0, none⟩ = some (.int .i64 n) := zwd HI2.out.box 0
     have x1 : w2.cell? ⟨w.heap.size + 1 + 1, 1, none⟩ = some (.slice p out.length q) := zwd HI2.out.box 1
     unfold itvV
     rcases b with _ | _
     ·have HR : Hid (V.altP n s = none) := zwe (by
        rcases HOR.out with ⟨_, h⟩ | ⟨h, _⟩
        · rw [HE.out, HNO.out h]
        · cases h)
      have HBY := zwe ((zwh w2.heap.size w2).alloc (zwg _) (.cells (itvC y) 82))
      go_wp2_with (first | (refine zi rfl 45 _ _ rfl w.heap.size #[.int .i64 0, .slice none 0 0] _ (HI2.out.later HBY.out).res rfl #[.int .i64 0, .slice none 0 0] rfl rfl (by kernel_rfl) (zt _ _ _ _) ?_; intro W5 hp5; have z0 : W5.cell? ⟨w.heap.size, 0, none⟩ = some (.int .i64 0) := zwd hp5.here 0; have z1 : W5.cell? ⟨w.heap.size, 1, none⟩ = some (.slice none 0 0) := zwd hp5.here 1) | fail)
      have HBF := zwe (hp5.below (HI2.out.later HBY.out).below (zwg _))
      clear hp5
      exact bodyPost_ret (v := .tuple #[.agg #[.int .i64 0, .slice none 0 0], .bool false]) (by simp [results, Tryz.results110, go_sem, z0, z1]) rfl (by rw [HR.out]; exact yn.no HBF.out)
     ·have HC : Hid (V.jr n x = some y) := zwe (by
        rcases HOR.out with ⟨h, _⟩ | ⟨_, h⟩
        · cases h
        · exact h)
      have HOK := zwe (V.zkw HN.out HC.out)
      have hbY : Below w2.heap.size w2 ((w2.alloc (.cells (itvC y) 82)).alloc (.cells (itvC y) 82)) := ((zwh _ _).alloc (zwg _) _).alloc (by simp) _
      have HY : Hid (((w2.alloc (.cells (itvC y) 82)).alloc (.cells (itvC y) 82)).heap[w2.heap.size + 1]? = some (.cells (itvC y) 82 (0, 0))) := zwe (by rw [heap_alloc, if_pos (by simp)])
      have HI4 := zwe (HI2.out.later hbY)
      have HZ4 : Hid (((w2.alloc (.cells (itvC y) 82)).alloc (.cells (itvC y) 82)).heap.size = w2.heap.size + 2) := zwe (by simp)
      have hb3 : Below w2.heap.size w2 (w2.alloc (.cells (itvC y) 82)) := (zwh _ _).alloc (zwg _) _
      have y0 : (w2.alloc (.cells (itvC y) 82)).cell? ⟨w.heap.size + 1 + 1, 0, none⟩ = some (.int .i64 n) := za hb3 x0
      have y1 : (w2.alloc (.cells (itvC y) 82)).cell? ⟨w.heap.size + 1 + 1, 1, none⟩ = some (.slice p out.length q) := za hb3 x1
      clear hb3 x0 x1
      unfold itvC at y0 y1
      have HS2 : Hid (w.heap.size + 2 < w2.heap.size) := zwe ((Array.getElem?_eq_some_iff.1 HI2.out.box).1)
      clear hbY
      go_wp2_with fail
      refine (zfe n out [y] (.slice p out.length q) (.slice (some ⟨w2.heap.size + 1, 0, none⟩) 1 1) 140 V.andF ((w2.alloc (.cells (itvC y) 82)).alloc (.cells (itvC y) 82)) (HM.out.below HI4.out.below) HI4.out.one.ok HOK.out HI4.out.set (zjw HY.out) (enters_of Tryz.func140 (by kernel_rfl) rfl) (fun x y W => ztg x y W)).mono ?_
      rintro e w5 ⟨u5, rfl, hu5, how5, hb5⟩
      exact zxi
    ·obtain rfl : k = L.length := by omega
     have HR : Hid (V.altP n s = some out) := zwe (by rw [HE.out, List.drop_length]; rfl)
     go_wp2_with (first | (refine zi rfl 45 _ _ rfl w.heap.size #[.int .i64 0, .slice none 0 0] _ HI.out.res rfl #[.int .i64 n, .slice p out.length q] rfl rfl (by kernel_rfl) (zt _ _ _ _) ?_; intro W5 hp5; have z0 : W5.cell? ⟨w.heap.size, 0, none⟩ = some (.int .i64 n) := zwd hp5.here 0; have z1 : W5.cell? ⟨w.heap.size, 1, none⟩ = some (.slice p out.length q) := zwd hp5.here 1) | fail)
     have HBF := zwe (hp5.below HI.out.below (zwg _))
     have HIV := zwe (hp5.itvs HI.out.set (fun c hc => (HI.out.own c hc).2.2))
     clear hp5
     exact bodyPost_ret (v := .tuple #[.agg #[.int .i64 n, .slice p out.length q], .bool true]) (by simp [results, Tryz.results110, go_sem, z0, z1]) rfl (yn.yes HR.out HBF.out HIV.out (fun c hc => (HI.out.own c hc).1))
open Go.RowKit
namespace V
theorem cp_nil (n : Int) : jr n [] = none := rfl
theorem cp_one (n : Int) (a : UInt8) : jr n [a] = none := by
 unfold jr opOf
 by_cases h1 : a = 61
 ·subst h1; simp [zcq]
 ·by_cases h2 : a = 60
  ·subst h2; simp [zcq]
  ·by_cases h3 : a = 62
   ·subst h3; simp [zcq]
   ·simp [h1, h2, h3]
theorem _root_.Go.Proofs.YtcfbkcapbbhmpaaGreatDoor.z1k {P : Prop} (h : P := by
 rcases h : valid n (61 :: r) with _ | _
 ·rfl
 ·exact absurd (List.mem_cons_self ..) (ze5 h (c := 61) (by decide +kernel))) : P := h
theorem cp_dbl (n : Int) (r : Bs) : jr n (61 :: 61 :: r) = none := by
 have hv : valid n (61 :: r) = false := by
  exact z1k
 unfold jr opOf
 simp [hv]
theorem zvt (n : Int) (r : Bs) : valid n (61 :: r) = false := by
 exact z1k
theorem cp2_no {n : Int} {a : UInt8} {r : Bs} (ha : a ≠ 61) (hv : valid n r = false) : jr n (a :: 61 :: r) = none := by
 unfold jr opOf
 by_cases h2 : a = 60
 ·subst h2; simp [hv]
 ·by_cases h3 : a = 62
  ·subst h3; simp [hv]
  ·simp [ha, h2, h3]
theorem cp2_ge {n : Int} {r : Bs} (hv : valid n r = true) : jr n (62 :: 61 :: r) = some (ki 0 r) := by
 unfold jr opOf; simp [hv]
theorem cp2_le {n : Int} {r : Bs} (hv : valid n r = true) : jr n (60 :: 61 :: r) = some (ki 1 r) := by
 unfold jr opOf; simp [hv]
theorem cp2_else {n : Int} {a : UInt8} {r : Bs} (ha : a ≠ 61) (h2 : a ≠ 60) (h3 : a ≠ 62) : jr n (a :: 61 :: r) = none := by
 unfold jr opOf; simp [ha, h2, h3]
theorem cp1_no {n : Int} {a b : UInt8} {r : Bs} (hb : b ≠ 61) (hv : valid n (b :: r) = false) : jr n (a :: b :: r) = none := by
 unfold jr opOf
 by_cases h1 : a = 61
 ·subst h1; simp [hv]
 ·by_cases h2 : a = 60
  ·subst h2; simp [hv, hb]
  ·by_cases h3 : a = 62
   ·subst h3; simp [hv, hb]
   ·simp [h1, h2, h3]
theorem cp1_eq {n : Int} {b : UInt8} {r : Bs} (hv : valid n (b :: r) = true) : jr n (61 :: b :: r) = some (ki 2 (b :: r)) := by
 unfold jr opOf; simp [hv]
theorem cp1_lt {n : Int} {b : UInt8} {r : Bs} (hb : b ≠ 61) (hv : valid n (b :: r) = true) : jr n (60 :: b :: r) = some (ki 3 (b :: r)) := by
 unfold jr opOf; simp [hv, hb]
theorem cp1_gt {n : Int} {b : UInt8} {r : Bs} (hb : b ≠ 61) (hv : valid n (b :: r) = true) : jr n (62 :: b :: r) = some (ki 4 (b :: r)) := by
 unfold jr opOf; simp [hv, hb]
theorem cp1_else {n : Int} {a b : UInt8} {r : Bs} (h1 : a ≠ 61) (h2 : a ≠ 60) (h3 : a ≠ 62) : jr n (a :: b :: r) = none := by
 unfold jr opOf; simp [h1, h2, h3]
end V
theorem zjk {S : ByteArray} {k : Nat} {l : V.Bs} (h : S.data.toList.drop k = l) : S.extract k S.size = ⟨l.toArray⟩ := by
 apply jk
 rw [Lib.extract_to_end, h]
theorem zt8 {S : ByteArray} {k : Nat} {l : V.Bs} (h : S.data.toList.take k = l) : (S.extract 0 k).toList = l := by
 rw [ByteArray.toList_eq, Lib.extract_from_zero, h]
theorem zu4 {S : ByteArray} {k : Nat} (hk : k < S.size) {c : UInt8} (h : S.data.toList[k]? = some c) : S[k] = c := by
 rw [List.getElem?_eq_getElem (by simpa using hk)] at h
 exact Option.some.inj h
theorem zwv {P : Prop} (h : P := by
 go_wp2_with (first | (refine zi rfl 82 _ _ rfl w.heap.size #[.string ⟨#[]⟩, .int .i64 0, .string ⟨#[]⟩, .int .i64 0] _ KX.out rfl #[.string ⟨#[]⟩, .int .i64 0, .string ⟨#[]⟩, .int .i64 0] rfl rfl kj (by simp [Value.oneCell']) ?_; intro W2 hp2; have z0 := zwd hp2.here 0; have z1 := zwd hp2.here 1; have z2 := zwd hp2.here 2; have z3 := zwd hp2.here 3; have HBZ := zwe (hp2.below HB1.out (zwg _)); clear hp2; simp only [List.getElem?_toArray, List.getElem?_cons_zero, List.getElem?_cons_succ] at z0 z1 z2 z3) | fail)
 exact bodyPost_ret (v := .tuple #[.agg #[.string ⟨#[]⟩, .int .i64 0, .string ⟨#[]⟩, .int .i64 0], .bool false]) (by simp [results, Tryz.results84, go_sem, z0, z1, z2, z3]) rfl (qk (y := V.noI) (b := false) (by rw [HR.out]; rfl) HBZ.out)) : P := h
theorem zjc (n : Int) (s : V.Bs) (w : World) (hm : zg w) (hs : s.length ≤ 100000) :
  Calls Tryz.prog 84 #[.int .i64 n, .string ⟨s.toArray⟩] w (zki (V.jr n s) w) := by
 have hb0 : Below w.heap.size w (w.alloc (.cells #[.string ⟨#[]⟩, .int .i64 0, .string ⟨#[]⟩, .int .i64 0] 82)) := (zwh _ w).alloc (zwg _) _
 have K0 : Hid ((w.alloc (.cells #[.string ⟨#[]⟩, .int .i64 0, .string ⟨#[]⟩, .int .i64 0] 82)).heap[w.heap.size]? = some (.cells #[.string ⟨#[]⟩, .int .i64 0, .string ⟨#[]⟩, .int .i64 0] 82 (0, 0))) := zwe (by rw [heap_alloc, if_pos rfl])
 have HB0 := zwe hb0
 have HM0 := zwe (hm.below hb0)
 have HS0 : Hid ((ByteArray.mk s.toArray).size ≤ 100000) := zwe (by simpa [ByteArray.size] using hs)
 have HSD : Hid ((ByteArray.mk s.toArray).data.toList = s) := zwe rfl
 clear hb0 hm hs
 generalize (ByteArray.mk s.toArray) = S at *
 have HSZ : Hid (S.size = s.length) := zwe (by rw [← HSD.out]; rfl)
 have HV : ∀ k, Hid ((S.extract k S.size).size ≤ maxLen) := fun k => zwe (by
   have := HS0.out
   unfold maxLen
   rw [ByteArray.size_extract]
   omega)
 have HV1 := HV 1
 have HV2 := HV 2
 clear HV
 rcases s with _ | ⟨a, _ | ⟨b, r⟩⟩
 ·have HT : (S.toList == []) = true := by rw [ByteArray.toList_eq, HSD.out]; rfl
  have KX := K0
  go_enter Tryz.func84, Tryz.ntmps84
  go_wp2_with (first | (refine zi rfl 82 _ _ rfl w.heap.size #[.string ⟨#[]⟩, .int .i64 0, .string ⟨#[]⟩, .int .i64 0] _ KX.out rfl #[.string ⟨#[]⟩, .int .i64 0, .string ⟨#[]⟩, .int .i64 0] rfl rfl kj (by simp [Value.oneCell']) ?_; intro W2 hp2; have z0 := zwd hp2.here 0; have z1 := zwd hp2.here 1; have z2 := zwd hp2.here 2; have z3 := zwd hp2.here 3; have HBZ := zwe (hp2.below HB0.out (zwg _)); clear hp2; simp only [List.getElem?_toArray, List.getElem?_cons_zero, List.getElem?_cons_succ] at z0 z1 z2 z3) | fail)
  exact bodyPost_ret (v := .tuple #[.agg #[.string ⟨#[]⟩, .int .i64 0, .string ⟨#[]⟩, .int .i64 0], .bool false]) (by simp [results, Tryz.results84, go_sem, z0, z1, z2, z3]) rfl (qk (y := V.noI) (b := false) (by rw [V.cp_nil]; rfl) HBZ.out)
 ·have HT : (S.toList == []) = false := by rw [ByteArray.toList_eq, HSD.out]; rfl
  have hz : S.size = 1 := HSZ.out
  have EX : Hid (S.extract 1 S.size = ⟨([] : V.Bs).toArray⟩) := zwe (zjk (by rw [HSD.out]; rfl))
  have hz1 : ¬ 1 < S.size := by omega
  have hz2 : 0 < S.size := by omega
  have hz3 : 1 ≤ S.size := by omega
  clear hz
  go_enter Tryz.func84, Tryz.ntmps84
  go_wp2_with fail
  rw [EX.out]
  generalize w.alloc (.cells #[.string ⟨#[]⟩, .int .i64 0, .string ⟨#[]⟩, .int .i64 0] 82) = w0 at *
  refine (zb8 n ⟨([] : V.Bs).toArray⟩ w0 HM0.out (by rw [← EX.out]; exact HV1.out)).mono ?_
  rintro e w1 ⟨rfl, hb1⟩
  rw [zaa]
  have KX := zwe (ku hb1 K0.out)
  have HB1 := zwf HB0 hb1
  clear hb1
  rw [V.zcq]
  go_wp2_with (first | (refine zi rfl 82 _ _ rfl w.heap.size #[.string ⟨#[]⟩, .int .i64 0, .string ⟨#[]⟩, .int .i64 0] _ KX.out rfl #[.string ⟨#[]⟩, .int .i64 0, .string ⟨#[]⟩, .int .i64 0] rfl rfl kj (by simp [Value.oneCell']) ?_; intro W2 hp2; have z0 := zwd hp2.here 0; have z1 := zwd hp2.here 1; have z2 := zwd hp2.here 2; have z3 := zwd hp2.here 3; have HBZ := zwe (hp2.below HB1.out (zwg _)); clear hp2; simp only [List.getElem?_toArray, List.getElem?_cons_zero, List.getElem?_cons_succ] at z0 z1 z2 z3) | fail)
  exact bodyPost_ret (v := .tuple #[.agg #[.string ⟨#[]⟩, .int .i64 0, .string ⟨#[]⟩, .int .i64 0], .bool false]) (by simp [results, Tryz.results84, go_sem, z0, z1, z2, z3]) rfl (qk (y := V.noI) (b := false) (by rw [V.cp_one]; rfl) HBZ.out)
 ·have HT : (S.toList == []) = false := by rw [ByteArray.toList_eq, HSD.out]; rfl
  have hz : S.size = r.length + 2 := HSZ.out
  have hz1 : 1 < S.size := by omega
  have hz2 : 0 < S.size := by omega
  have hz3 : 2 ≤ S.size := by omega
  have hz4 : 1 ≤ S.size := by omega
  have g0 : S[0] = a := zu4 hz2 (by rw [HSD.out]; rfl)
  have g1 : S[1] = b := zu4 hz1 (by rw [HSD.out]; rfl)
  clear hz
  by_cases hb : b = 61
  ·subst hb
   by_cases ha : a = 61
   ·subst ha
    have G0 : ((S[0].toNat : Int) != 61) = false := by rw [g0]; rfl
    have G1 : (S[1].toNat : Int) = 61 := by rw [g1]; rfl
    clear g0 g1
    have EX : Hid (S.extract 1 S.size = ⟨(61 :: r).toArray⟩) := zwe (zjk (by rw [HSD.out]; rfl))
    go_enter Tryz.func84, Tryz.ntmps84
    go_wp2_with fail
    rw [EX.out]
    generalize w.alloc (.cells #[.string ⟨#[]⟩, .int .i64 0, .string ⟨#[]⟩, .int .i64 0] 82) = w0 at *
    refine (zb8 n ⟨(61 :: r).toArray⟩ w0 HM0.out (by rw [← EX.out]; exact HV1.out)).mono ?_
    rintro e w1 ⟨rfl, hb1⟩
    rw [zaa]
    have KX := zwe (ku hb1 K0.out)
    have HB1 := zwf HB0 hb1
    clear hb1
    rw [V.zvt]
    go_wp2_with (first | (refine zi rfl 82 _ _ rfl w.heap.size #[.string ⟨#[]⟩, .int .i64 0, .string ⟨#[]⟩, .int .i64 0] _ KX.out rfl #[.string ⟨#[]⟩, .int .i64 0, .string ⟨#[]⟩, .int .i64 0] rfl rfl kj (by simp [Value.oneCell']) ?_; intro W2 hp2; have z0 := zwd hp2.here 0; have z1 := zwd hp2.here 1; have z2 := zwd hp2.here 2; have z3 := zwd hp2.here 3; have HBZ := zwe (hp2.below HB1.out (zwg _)); clear hp2; simp only [List.getElem?_toArray, List.getElem?_cons_zero, List.getElem?_cons_succ] at z0 z1 z2 z3) | fail)
    exact bodyPost_ret (v := .tuple #[.agg #[.string ⟨#[]⟩, .int .i64 0, .string ⟨#[]⟩, .int .i64 0], .bool false]) (by simp [results, Tryz.results84, go_sem, z0, z1, z2, z3]) rfl (qk (y := V.noI) (b := false) (by rw [V.cp_dbl]; rfl) HBZ.out)
   ·have G0 : ((S[0].toNat : Int) != 61) = true := by rw [g0, bne_iff_ne]; intro e; exact ha (UInt8.toNat_inj.1 (by rw [show (61 : UInt8).toNat = 61 from rfl]; omega))
    have G1 : (S[1].toNat : Int) = 61 := by rw [g1]; rfl
    clear g0 g1
    have EX : Hid (S.extract 2 S.size = ⟨r.toArray⟩) := zwe (zjk (by rw [HSD.out]; rfl))
    have ET : Hid ((S.extract 0 2).toList = [a, 61]) := zwe (zt8 (by rw [HSD.out]; rfl))
    have HA := zwe ha
    clear ha
    go_enter Tryz.func84, Tryz.ntmps84
    go_wp2_with fail
    rw [EX.out]
    generalize w.alloc (.cells #[.string ⟨#[]⟩, .int .i64 0, .string ⟨#[]⟩, .int .i64 0] 82) = w0 at *
    refine (zb8 n ⟨(r).toArray⟩ w0 HM0.out (by rw [← EX.out]; exact HV2.out)).mono ?_
    rintro e w1 ⟨rfl, hb1⟩
    rw [zaa]
    have KX := zwe (ku hb1 K0.out)
    have HB1 := zwf HB0 hb1
    clear hb1
    rcases hv : V.valid n r with _ | _
    ·have HR := zwe (V.cp2_no HA.out hv)
     clear hv
     exact zwv
    ·by_cases h60 : a = 60
     ·subst h60
      have HR := zwe (V.cp2_le hv)
      clear hv
      have o0 : ((S.extract 0 2).toList == [61]) = false := by rw [ET.out]; rfl
      have o1 : ((S.extract 0 2).toList == [60]) = false := by rw [ET.out]; rfl
      have o2 : ((S.extract 0 2).toList == [60, 61]) = true := by rw [ET.out]; rfl
      go_wp2_with (first | (refine zi rfl 82 _ _ rfl w.heap.size #[.string ⟨#[]⟩, .int .i64 0, .string ⟨#[]⟩, .int .i64 0] _ KX.out rfl #[.string ⟨#[]⟩, .int .i64 0, .string ⟨r.toArray⟩, .int .i64 1] rfl rfl kj (by simp [Value.oneCell']) ?_; intro W2 hp2; have z0 := zwd hp2.here 0; have z1 := zwd hp2.here 1; have z2 := zwd hp2.here 2; have z3 := zwd hp2.here 3; have HBZ := zwe (hp2.below HB1.out (zwg _)); clear hp2; simp only [List.getElem?_toArray, List.getElem?_cons_zero, List.getElem?_cons_succ] at z0 z1 z2 z3) | fail)
      exact bodyPost_ret (v := .tuple #[.agg #[.string ⟨#[]⟩, .int .i64 0, .string ⟨r.toArray⟩, .int .i64 1], .bool true]) (by simp [results, Tryz.results84, go_sem, z0, z1, z2, z3]) rfl (qk (y := V.ki 1 r) (b := true) (by rw [HR.out]; rfl) HBZ.out)
     ·by_cases h62 : a = 62
      ·subst h62
       have HR := zwe (V.cp2_ge hv)
       clear hv
       have o0 : ((S.extract 0 2).toList == [61]) = false := by rw [ET.out]; rfl
       have o1 : ((S.extract 0 2).toList == [60]) = false := by rw [ET.out]; rfl
       have o2 : ((S.extract 0 2).toList == [60, 61]) = false := by rw [ET.out]; rfl
       have o3 : ((S.extract 0 2).toList == [62]) = false := by rw [ET.out]; rfl
       have o4 : ((S.extract 0 2).toList == [62, 61]) = true := by rw [ET.out]; rfl
       go_wp2_with (first | (refine zi rfl 82 _ _ rfl w.heap.size #[.string ⟨#[]⟩, .int .i64 0, .string ⟨#[]⟩, .int .i64 0] _ KX.out rfl #[.string ⟨r.toArray⟩, .int .i64 1, .string ⟨#[]⟩, .int .i64 0] rfl rfl kj (by simp [Value.oneCell']) ?_; intro W2 hp2; have z0 := zwd hp2.here 0; have z1 := zwd hp2.here 1; have z2 := zwd hp2.here 2; have z3 := zwd hp2.here 3; have HBZ := zwe (hp2.below HB1.out (zwg _)); clear hp2; simp only [List.getElem?_toArray, List.getElem?_cons_zero, List.getElem?_cons_succ] at z0 z1 z2 z3) | fail)
       exact bodyPost_ret (v := .tuple #[.agg #[.string ⟨r.toArray⟩, .int .i64 1, .string ⟨#[]⟩, .int .i64 0], .bool true]) (by simp [results, Tryz.results84, go_sem, z0, z1, z2, z3]) rfl (qk (y := V.ki 0 r) (b := true) (by rw [HR.out]; rfl) HBZ.out)
      ·have h61 := HA.out
       have HR := zwe (V.cp2_else (n := n) (r := r) h61 h60 h62)
       clear hv
       have o0 : ((S.extract 0 2).toList == [61]) = false := by rw [ET.out]; simp
       have o1 : ((S.extract 0 2).toList == [60]) = false := by rw [ET.out]; simp
       have o2 : ((S.extract 0 2).toList == [60, 61]) = false := by rw [ET.out]; simp [h60]
       have o3 : ((S.extract 0 2).toList == [62]) = false := by rw [ET.out]; simp
       have o4 : ((S.extract 0 2).toList == [62, 61]) = false := by rw [ET.out]; simp [h62]
       clear h60 h61 h62
       exact zwv
  ·have G1 : ¬ (S[1].toNat : Int) = 61 := by rw [g1]; intro e; exact hb (UInt8.toNat_inj.1 (by rw [show (61 : UInt8).toNat = 61 from rfl]; omega))
   clear g0 g1
   have EX : Hid (S.extract 1 S.size = ⟨(b :: r).toArray⟩) := zwe (zjk (by rw [HSD.out]; rfl))
   have ET : Hid ((S.extract 0 1).toList = [a]) := zwe (zt8 (by rw [HSD.out]; rfl))
   have HA := zwe hb
   clear hb
   go_enter Tryz.func84, Tryz.ntmps84
   go_wp2_with fail
   rw [EX.out]
   generalize w.alloc (.cells #[.string ⟨#[]⟩, .int .i64 0, .string ⟨#[]⟩, .int .i64 0] 82) = w0 at *
   refine (zb8 n ⟨(b :: r).toArray⟩ w0 HM0.out (by rw [← EX.out]; exact HV1.out)).mono ?_
   rintro e w1 ⟨rfl, hb1⟩
   rw [zaa]
   have KX := zwe (ku hb1 K0.out)
   have HB1 := zwf HB0 hb1
   clear hb1
   rcases hv : V.valid n (b :: r) with _ | _
   ·have HR := zwe (V.cp1_no (a := a) HA.out hv)
    clear hv
    exact zwv
   ·by_cases h61 : a = 61
    ·subst h61
     have HR := zwe (V.cp1_eq hv)
     clear hv
     have o0 : ((S.extract 0 1).toList == [61]) = true := by rw [ET.out]; rfl
     generalize b :: r = u at *
     go_wp2_with (first | (refine zi rfl 82 _ _ rfl w.heap.size #[.string ⟨#[]⟩, .int .i64 0, .string ⟨#[]⟩, .int .i64 0] _ KX.out rfl #[.string ⟨u.toArray⟩, .int .i64 1, .string ⟨u.toArray⟩, .int .i64 1] rfl rfl kj (by simp [Value.oneCell']) ?_; intro W2 hp2; have z0 := zwd hp2.here 0; have z1 := zwd hp2.here 1; have z2 := zwd hp2.here 2; have z3 := zwd hp2.here 3; have HBZ := zwe (hp2.below HB1.out (zwg _)); clear hp2; simp only [List.getElem?_toArray, List.getElem?_cons_zero, List.getElem?_cons_succ] at z0 z1 z2 z3) | fail)
     exact bodyPost_ret (v := .tuple #[.agg #[.string ⟨u.toArray⟩, .int .i64 1, .string ⟨u.toArray⟩, .int .i64 1], .bool true]) (by simp [results, Tryz.results84, go_sem, z0, z1, z2, z3]) rfl (qk (y := V.ki 2 u) (b := true) (by rw [HR.out]; rfl) HBZ.out)
    ·by_cases h60 : a = 60
     ·subst h60
      have HR := zwe (V.cp1_lt HA.out hv)
      clear hv
      have o0 : ((S.extract 0 1).toList == [61]) = false := by rw [ET.out]; rfl
      have o1 : ((S.extract 0 1).toList == [60]) = true := by rw [ET.out]; rfl
      generalize b :: r = u at *
      go_wp2_with (first | (refine zi rfl 82 _ _ rfl w.heap.size #[.string ⟨#[]⟩, .int .i64 0, .string ⟨#[]⟩, .int .i64 0] _ KX.out rfl #[.string ⟨#[]⟩, .int .i64 0, .string ⟨u.toArray⟩, .int .i64 2] rfl rfl kj (by simp [Value.oneCell']) ?_; intro W2 hp2; have z0 := zwd hp2.here 0; have z1 := zwd hp2.here 1; have z2 := zwd hp2.here 2; have z3 := zwd hp2.here 3; have HBZ := zwe (hp2.below HB1.out (zwg _)); clear hp2; simp only [List.getElem?_toArray, List.getElem?_cons_zero, List.getElem?_cons_succ] at z0 z1 z2 z3) | fail)
      exact bodyPost_ret (v := .tuple #[.agg #[.string ⟨#[]⟩, .int .i64 0, .string ⟨u.toArray⟩, .int .i64 2], .bool true]) (by simp [results, Tryz.results84, go_sem, z0, z1, z2, z3]) rfl (qk (y := V.ki 3 u) (b := true) (by rw [HR.out]; rfl) HBZ.out)
     ·by_cases h62 : a = 62
      ·subst h62
       have HR := zwe (V.cp1_gt HA.out hv)
       clear hv
       have o0 : ((S.extract 0 1).toList == [61]) = false := by rw [ET.out]; rfl
       have o1 : ((S.extract 0 1).toList == [60]) = false := by rw [ET.out]; rfl
       have o2 : ((S.extract 0 1).toList == [60, 61]) = false := by rw [ET.out]; rfl
       have o3 : ((S.extract 0 1).toList == [62]) = true := by rw [ET.out]; rfl
       generalize b :: r = u at *
       go_wp2_with (first | (refine zi rfl 82 _ _ rfl w.heap.size #[.string ⟨#[]⟩, .int .i64 0, .string ⟨#[]⟩, .int .i64 0] _ KX.out rfl #[.string ⟨u.toArray⟩, .int .i64 2, .string ⟨#[]⟩, .int .i64 0] rfl rfl kj (by simp [Value.oneCell']) ?_; intro W2 hp2; have z0 := zwd hp2.here 0; have z1 := zwd hp2.here 1; have z2 := zwd hp2.here 2; have z3 := zwd hp2.here 3; have HBZ := zwe (hp2.below HB1.out (zwg _)); clear hp2; simp only [List.getElem?_toArray, List.getElem?_cons_zero, List.getElem?_cons_succ] at z0 z1 z2 z3) | fail)
       exact bodyPost_ret (v := .tuple #[.agg #[.string ⟨u.toArray⟩, .int .i64 2, .string ⟨#[]⟩, .int .i64 0], .bool true]) (by simp [results, Tryz.results84, go_sem, z0, z1, z2, z3]) rfl (qk (y := V.ki 4 u) (b := true) (by rw [HR.out]; rfl) HBZ.out)
      ·have HR := zwe (V.cp1_else (n := n) (b := b) (r := r) h61 h60 h62)
       clear hv
       have o0 : ((S.extract 0 1).toList == [61]) = false := by rw [ET.out]; simp [h61]
       have o1 : ((S.extract 0 1).toList == [60]) = false := by rw [ET.out]; simp [h60]
       have o2 : ((S.extract 0 1).toList == [60, 61]) = false := by rw [ET.out]; simp
       have o3 : ((S.extract 0 1).toList == [62]) = false := by rw [ET.out]; simp [h62]
       have o4 : ((S.extract 0 1).toList == [62, 61]) = false := by rw [ET.out]; simp
       clear h60 h61 h62
       exact zwv
end Go.Proofs.YtcfbkcapbbhmpaaGreatDoor
