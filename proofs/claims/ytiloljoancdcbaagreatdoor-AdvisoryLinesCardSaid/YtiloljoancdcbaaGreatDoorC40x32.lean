/-
  Lemmas for the law.
-/
import Derived.Test.YtiloljoancdcbaaGreatDoorC40x30
import Derived.Test.YtiloljoancdcbaaGreatDoorC40x15
import Derived.Test.YtiloljoancdcbaaGreatDoorC40x31
import Derived.Outline
set_option linter.all false
set_option maxRecDepth 100000
set_option maxHeartbeats 6400000
namespace Go.Proofs.YtiloljoancdcbaaGreatDoor
open Go.RowKit
theorem zvg (x y : Bool) (w : World) : Calls Tryz.prog 155 #[.bool x, .bool y] w fun e w' => e = .returned (.bool (V.orF x y)) /\ w = w' := by
 cases x <;> cases y
 all_goals
  go_enter Tryz.func155, Tryz.ntmps155
  go_wp2
  go_ret
  exact ⟨rfl, rfl⟩
def js (r : Int × List V.Itv × Int) (w : World) (e : Ending) (w' : World) : Prop :=
 ∃ u, e = .returned (.tuple #[setV r.1 u, .int .i64 r.2.2]) /\ Itvs w' u r.2.1 /\ (∀ c, u.ownBlock = some c -> w.heap.size ≤ c) /\ Below w.heap.size w w'
theorem js.zero {w w' : World} (h : Below w.heap.size w w') (k : Int) : js (0, [], k) w (.returned (.tuple #[setV 0 (.slice none 0 0), .int .i64 k])) w' :=
 ⟨_, rfl, Itvs.nil _, (fun c hc => by cases hc), h⟩
def zod (n : Int) (v : Value) (l : List V.Itv) (w : World) (e : Ending) (w' : World) : Prop :=
 ∃ u, e = .returned (.tuple #[setV (V.limP n l).1 u, .int .i64 (V.limP n l).2.2]) /\ (u = v /\ (V.limP n l).2.1 = l ∨ u = .slice none 0 0 /\ (V.limP n l).2.1 = []) /\ Below w.heap.size w w'
theorem zmo (n : Int) (v : Value) (l : List V.Itv) (w : World) (hv : Itvs w v l) (hl : l.length ≤ 1000) :
  Calls Tryz.prog 178 #[setV n v] w (zod n v l w) := by
 obtain ⟨a, cap, rfl⟩ := hv.slice
 unfold setV
 have hb0 : Below w.heap.size w ((w.alloc (.cells #[.int .i64 n, .slice a l.length cap] 32)).alloc (.cells #[.int .i64 n, .slice a l.length cap] 32)) := ((zvt _ _).alloc (zvs _) _).alloc (by simp) _
 have hb1 : Below w.heap.size w ((w.alloc (.cells #[.int .i64 n, .slice a l.length cap] 32)).alloc (.cells #[.int .i64 0, .slice none 0 0] 32)) := ((zvt _ _).alloc (zvs _) _).alloc (by simp) _
 have HB0 := zvq hb0
 have HB1 := zvq hb1
 clear hb0 hb1 hv
 by_cases h32 : 32 < l.length
 ·have HR : Hid (V.limP n l = (0, [], 3)) := zvq (by unfold V.limP; rw [if_neg (by omega)])
  go_enter Tryz.func178, Tryz.ntmps178
  go_wp2
  exact bodyPost_ret (v := .tuple #[.agg #[.int .i64 0, .slice none 0 0], .int .i64 3]) (by simp [results, Tryz.results178, go_sem]) rfl (by unfold zod; rw [HR.out]; exact ⟨_, rfl, .inr ⟨rfl, rfl⟩, HB1.out⟩)
 ·have HR : Hid (V.limP n l = (n, l, 0)) := zvq (by unfold V.limP; rw [if_pos (by omega)])
  go_enter Tryz.func178, Tryz.ntmps178
  go_wp2
  exact bodyPost_ret (v := .tuple #[.agg #[.int .i64 n, .slice a l.length cap], .int .i64 0]) (by simp [results, Tryz.results178, go_sem]) rfl (by unfold zod; rw [HR.out]; exact ⟨_, rfl, .inl ⟨rfl, rfl⟩, HB0.out⟩)
theorem zqm (n m : Int) (va vb : Value) (a b : List V.Itv) (w : World) (hm : zg w) (hva : Itvs w va a) (hvb : Itvs w vb b) (hsa : Lens a) (hsb : Lens b) (hla : a.length ≤ maxLen) (hlb : b.length ≤ maxLen) :
  Calls Tryz.prog 177 #[setV n va, setV m vb] w fun e w' => e = .returned (.int .i64 (V.chkP n a m b)) /\ Below w.heap.size w w' := by
 have HVA := zvq hva
 have HVB := zvq hvb
 obtain ⟨aa, ac, rfl⟩ := hva.slice
 obtain ⟨ba, bc, rfl⟩ := hvb.slice
 have HSA := zvq hsa
 have HSB := zvq hsb
 have HLA := zvq hla
 have HLB := zvq hlb
 have HF : Hid (V.chkP n a m b = if V.okR n a && V.okR m b then (if n = m then 0 else 14) else 1) := zvq rfl
 obtain ⟨hb0, hc0, _, hz0⟩ := zex w #[.int .i64 n, .slice aa a.length ac] #[.int .i64 m, .slice ba b.length bc] 32 32
 have c0 : ((w.alloc (.cells #[.int .i64 n, .slice aa a.length ac] 32)).alloc (.cells #[.int .i64 m, .slice ba b.length bc] 32)).cell? ⟨w.heap.size, 0, none⟩ = some (.int .i64 n) := by simp [ze]
 have d0 : ((w.alloc (.cells #[.int .i64 n, .slice aa a.length ac] 32)).alloc (.cells #[.int .i64 m, .slice ba b.length bc] 32)).cell? ⟨w.heap.size + 1, 0, none⟩ = some (.int .i64 m) := by rw [hc0]; rfl
 have d1 : ((w.alloc (.cells #[.int .i64 n, .slice aa a.length ac] 32)).alloc (.cells #[.int .i64 m, .slice ba b.length bc] 32)).cell? ⟨w.heap.size + 1, 1, none⟩ = some (.slice ba b.length bc) := by rw [hc0]; rfl
 have HB0 := zvq hb0
 have HM0 := zvq (hm.below hb0)
 clear hva hvb hsa hsb hla hlb hm hc0 hb0 hz0
 unfold setV
 go_enter Tryz.func177, Tryz.ntmps177
 go_wp2_with fail
 generalize (w.alloc (.cells #[.int .i64 n, .slice aa a.length ac] 32)).alloc (.cells #[.int .i64 m, .slice ba b.length bc] 32) = w0 at *
 refine (zar n (.slice aa a.length ac) a w0 HM0.out (HVA.out.below HB0.out) HSA.out HLA.out).mono ?_
 rintro e w1 ⟨rfl, hb1⟩
 have k0 := za hb1 c0
 have k1 := za hb1 d0
 have k2 := za hb1 d1
 have HB1 := zvr HB0 hb1
 have HM1 := zvq (HM0.out.below hb1)
 clear hb1 c0 d0 d1
 rcases hok : V.okR n a with _ | _
 ·have HR : Hid (V.chkP n a m b = 1) := zvq (by rw [HF.out, hok]; rfl)
  clear hok
  go_wp2
  go_ret
  exact ⟨zn HR.out.symm, HB1.out⟩
 ·have HOK := zvq hok
  clear hok
  go_wp2_with fail
  refine (zar m (.slice ba b.length bc) b w1 HM1.out (HVB.out.below HB1.out) HSB.out HLB.out).mono ?_
  rintro e w2 ⟨rfl, hb2⟩
  have j0 := za hb2 k0
  have j1 := za hb2 k1
  have HB2 := zvr HB1 hb2
  clear hb2 k0 k1 k2
  rcases hok2 : V.okR m b with _ | _
  ·have HR : Hid (V.chkP n a m b = 1) := zvq (by rw [HF.out, HOK.out, hok2]; rfl)
   clear hok2
   exact zzw
  ·have HOK2 := zvq hok2
   clear hok2
   by_cases hnm : n = m
   ·have HR : Hid (V.chkP n a m b = 0) := zvq (by rw [HF.out, HOK.out, HOK2.out, hnm]; simp)
    have hq : (n != m) = false := by simp [hnm]
    clear hnm
    exact zzw
   ·have HR : Hid (V.chkP n a m b = 14) := zvq (by rw [HF.out, HOK.out, HOK2.out]; simp [hnm])
    have hq : (n != m) = true := by simpa using hnm
    clear hnm
    exact zzw
theorem zml (n m : Int) (va vb : Value) (a b : List V.Itv) (K : Nat) (f : Bool -> Bool -> Bool) (w : World) (hm : zg w) (hva : Itvs w va a) (hvb : Itvs w vb b) (hsa : Lens a) (hsb : Lens b) (hla : a.length ≤ maxLen) (hlb : b.length ≤ maxLen)
  (eg : ∀ args w, (callFunc K args).run Tryz.prog w = .ok (.enter K args) w) (hK : ∀ (x y : Bool) W, Calls Tryz.prog K #[.bool x, .bool y] W fun e w' => e = .returned (.bool (f x y)) /\ W = w') :
  Calls Tryz.prog 154 #[setV n va, setV m vb, .func (.func K) #[] #[]] w (js (V.opP f n a m b) w) := by
 have HVA := zvq hva
 have HVB := zvq hvb
 obtain ⟨aa, ac, rfl⟩ := hva.slice
 obtain ⟨ba, bc, rfl⟩ := hvb.slice
 have HSA := zvq hsa
 have HSB := zvq hsb
 have HLA := zvq hla
 have HLB := zvq hlb
 have HKK := zvq hK
 have HEG := zvq eg
 have HF : Hid (V.opP f n a m b = if V.chkP n a m b = 0 then V.limP n (V.opL n f a b) else (0, [], V.chkP n a m b)) := zvq rfl
 have H3 := zvq (xp w (.cells #[.int .i64 n, .slice aa a.length ac] 32) (.cells #[.int .i64 m, .slice ba b.length bc] 32) (.cells #[.int .i64 0, .slice none 0 0] 32))
 have hb0 : Below w.heap.size w (((w.alloc (.cells #[.int .i64 n, .slice aa a.length ac] 32)).alloc (.cells #[.int .i64 m, .slice ba b.length bc] 32)).alloc (.cells #[.int .i64 0, .slice none 0 0] 32)) := (((zvt _ _).alloc (zvs _) _).alloc (by simp) _).alloc (by simp; omega) _
 have HB0 := zvq hb0
 have HM0 := zvq (hm.below hb0)
 clear hva hvb hsa hsb hla hlb hm hb0 hK eg
 unfold setV
 go_enter Tryz.func154, Tryz.ntmps154
 go_wp2_with fail
 generalize ((w.alloc (.cells #[.int .i64 n, .slice aa a.length ac] 32)).alloc (.cells #[.int .i64 m, .slice ba b.length bc] 32)).alloc (.cells #[.int .i64 0, .slice none 0 0] 32) = w0 at *
 refine (zqm n m (.slice aa a.length ac) (.slice ba b.length bc) a b w0 HM0.out (HVA.out.below HB0.out) (HVB.out.below HB0.out) HSA.out HSB.out HLA.out HLB.out).mono ?_
 rintro e w1 ⟨rfl, hb1⟩
 have hsz := H3.out.2.2.2
 have K0 := (hb1.block _ (show w.heap.size < w0.heap.size by omega)).trans H3.out.1
 have K1 := (hb1.block _ (show w.heap.size + 1 < w0.heap.size by omega)).trans H3.out.2.1
 have K2 := (hb1.block _ (show w.heap.size + 1 + 1 < w0.heap.size by omega)).trans H3.out.2.2.1
 have HK := zvq (And.intro K0 (And.intro K1 K2))
 have HB1 := zvr HB0 hb1
 have HM1 := zvq (HM0.out.below hb1)
 clear hb1 K0 K1 K2
 by_cases hz : V.chkP n a m b = 0
 ·obtain ⟨oka, okb, rfl⟩ := V.zve hz
  have HOA := zvq oka
  have HOB := zvq okb
  have HR : Hid (V.opP f n a n b = V.limP n (V.opL n f a b)) := zvq (by rw [HF.out, if_pos hz])
  have HLEN := zvq (V.zts f oka okb)
  rw [hz]
  have hc0 : w1.cell? ⟨w.heap.size, 0, none⟩ = some (.int .i64 n) := zvp HK.out.1 0
  have hc1 : w1.cell? ⟨w.heap.size, 1, none⟩ = some (.slice aa a.length ac) := zvp HK.out.1 1
  have hd0 : w1.cell? ⟨w.heap.size + 1, 0, none⟩ = some (.int .i64 n) := zvp HK.out.2.1 0
  have hd1 : w1.cell? ⟨w.heap.size + 1, 1, none⟩ = some (.slice ba b.length bc) := zvp HK.out.2.1 1
  clear oka okb hz
  go_wp2_with fail
  refine (ze2 n a b (.slice aa a.length ac) (.slice ba b.length bc) K f w1 HM1.out HOA.out HOB.out (HVA.out.below HB1.out) (HVB.out.below HB1.out) HEG.out HKK.out).mono ?_
  rintro e w2 ⟨u, rfl, hu, how, hb2⟩
  obtain ⟨ua, uc, rfl⟩ := hu.slice
  have HU := zvq hu
  have HOW := zvq how
  have HB2 := zvr HB1 hb2
  have HK2 := zvq ((hb2.block _ (Array.getElem?_eq_some_iff.1 HK.out.2.2).1).trans HK.out.2.2)
  have hsz1 : w.heap.size + 1 + 1 < w1.heap.size := (Array.getElem?_eq_some_iff.1 HK.out.2.2).1
  clear hu how hb2 hc0 hc1 hd0 hd1
  unfold setV
  go_wp2_with fail
  refine (zmo n (.slice ua (V.opL n f a b).length uc) _ w2 HU.out (by have := HLEN.out; omega)).mono ?_
  rintro e w3 ⟨u3, rfl, hu3, hb3⟩
  have HU3 := zvq hu3
  have hsl : ∃ p q r, u3 = .slice p q r := by
   rcases hu3 with ⟨rfl, _⟩ | ⟨rfl, _⟩
   ·exact ⟨_, _, _, rfl⟩
   ·exact ⟨_, _, _, rfl⟩
  obtain ⟨p3, q3, r3, rfl⟩ := hsl
  have HB3 := zvr HB2 hb3
  have HK3 := zvq ((hb3.block _ (Array.getElem?_eq_some_iff.1 HK2.out).1).trans HK2.out)
  have HU4 := zvq (HU.out.below hb3)
  clear hu3 hb3
  obtain ⟨r, hr⟩ : ∃ r, r = V.limP n (V.opL n f a b) := ⟨_, rfl⟩
  rw [← hr] at HU3 HR ⊢
  clear hr
  obtain ⟨k1, l1, c1⟩ := r
  unfold setV
  go_wp2_with (first | (refine zi rfl 32 _ _ rfl (w.heap.size + 1 + 1) #[.int .i64 0, .slice none 0 0] _ HK3.out rfl #[.int .i64 k1, .slice p3 q3 r3] rfl rfl (by kernel_rfl) (zt _ _ _ _) ?_; intro W2 hp2; have z0 : W2.cell? ⟨w.heap.size + 1 + 1, 0, none⟩ = some (.int .i64 k1) := zvp hp2.here 0; have z1 : W2.cell? ⟨w.heap.size + 1 + 1, 1, none⟩ = some (.slice p3 q3 r3) := zvp hp2.here 1) | fail)
  have HOF : Hid (∀ c, (Value.slice p3 q3 r3).ownBlock = some c -> w1.heap.size ≤ c) := zvq (fun c hc => by
    rcases HU3.out with ⟨e, _⟩ | ⟨e, _⟩
    · rw [e] at hc; exact HOW.out c hc
    · rw [e] at hc; cases hc)
  have HIV : Hid (Itvs W2 (.slice p3 q3 r3) l1) := zvq (hp2.itvs (by
    rcases HU3.out with ⟨e, e2⟩ | ⟨e, e2⟩
    · rw [e, e2]; exact HU4.out
    · rw [e, e2]; exact Itvs.nil _) (fun c hc => by have := HOF.out c hc; omega))
  have HBF := zvq (hp2.below HB3.out (by omega))
  have HSZ := zvq HB1.out.size
  clear hp2
  exact bodyPost_ret (v := .tuple #[.agg #[.int .i64 k1, .slice p3 q3 r3], .int .i64 c1]) (by simp [results, Tryz.results154, go_sem, z0, z1]) rfl (by rw [HR.out]; exact ⟨_, rfl, HIV.out, (fun c hc => by have := HOF.out c hc; have := HSZ.out; omega), HBF.out⟩)
 ·have HR : Hid (V.opP f n a m b = (0, [], V.chkP n a m b)) := zvq (by rw [HF.out, if_neg hz])
  have hq : (V.chkP n a m b != 0) = true := by simpa using hz
  generalize V.chkP n a m b = z at *
  clear hz
  go_wp2_with (first | (refine zi rfl 32 _ _ rfl (w.heap.size + 1 + 1) #[.int .i64 0, .slice none 0 0] _ HK.out.2.2 rfl #[.int .i64 0, .slice none 0 0] rfl rfl (by kernel_rfl) (zt _ _ _ _) ?_; intro W2 hp2; have z0 : W2.cell? ⟨w.heap.size + 1 + 1, 0, none⟩ = some (.int .i64 0) := zvp hp2.here 0; have z1 : W2.cell? ⟨w.heap.size + 1 + 1, 1, none⟩ = some (.slice none 0 0) := zvp hp2.here 1) | fail)
  have HBF := zvq (hp2.below HB1.out (by omega))
  clear hp2
  exact bodyPost_ret (v := .tuple #[.agg #[.int .i64 0, .slice none 0 0], .int .i64 z]) (by simp [results, Tryz.results154, go_sem, z0, z1]) rfl (by rw [HR.out]; exact js.zero HBF.out _)
def yh (n : Int) (r : Option (List V.Itv)) (w : World) (e : Ending) (w' : World) : Prop :=
 ∃ (m : Int) (u : Value) (l : List V.Itv) (b : Bool), e = .returned (.tuple #[setV m u, .bool b]) /\ (b = false /\ r = none ∨ b = true /\ m = n /\ r = some l) /\ Itvs w' u l /\ (∀ c, u.ownBlock = some c -> w.heap.size ≤ c) /\ Below w.heap.size w w'
theorem yh.no {n : Int} {w w' : World} (h : Below w.heap.size w w') : yh n none w (.returned (.tuple #[setV 0 (.slice none 0 0), .bool false])) w' :=
 ⟨0, _, [], false, rfl, .inl ⟨rfl, rfl⟩, Itvs.nil _, (fun c hc => by cases hc), h⟩
theorem yh.yes {n : Int} {w w' : World} {u : Value} {l : List V.Itv} {r : Option (List V.Itv)} (hr : r = some l) (h : Below w.heap.size w w') (hu : Itvs w' u l) (ho : ∀ c, u.ownBlock = some c -> w.heap.size ≤ c) : yh n r w (.returned (.tuple #[setV n u, .bool true])) w' :=
 ⟨n, u, l, true, rfl, .inr ⟨rfl, rfl, hr⟩, hu, ho, h⟩
theorem zjl {n : Int} {out : List V.Itv} {L : List V.Bs} {k : Nat} {y : V.Itv} (hk : k < L.length) (hy : V.jp n L[k] = some y) : V.xn n out (L.drop k) = V.xn n (V.opL n V.andF out [y]) (L.drop (k + 1)) := by
 rw [List.drop_eq_getElem_cons hk, V.xn, hy]
theorem zj7 {n : Int} {out : List V.Itv} {L : List V.Bs} {k : Nat} (hk : k < L.length) (hy : V.jp n L[k] = none) : V.xn n out (L.drop k) = none := by
 rw [List.drop_eq_getElem_cons hk, V.xn, hy]
theorem zjh {w : World} {b : Nat} {y : V.Itv} (h : w.heap[b]? = some (.cells (itvC y) 87 (0, 0))) : Itvs w (.slice (some ⟨b, 0, none⟩) 1 1) [y] := by
 refine ⟨_, 1, rfl, fun j hj => ?_⟩
 obtain rfl : j = 0 := by simpa using hj
 exact ⟨b, 0, rfl, (Array.getElem?_eq_some_iff.1 h).1, zvp h 0, zvp h 1, zvp h 2, zvp h 3⟩
theorem zso (x y : Bool) (w : World) : Calls Tryz.prog 153 #[.bool x, .bool y] w fun e w' => e = .returned (.bool (V.andF x y)) /\ w = w' := by
 cases x <;> cases y
 all_goals
  go_enter Tryz.func153, Tryz.ntmps153
  go_wp2
  go_ret
  exact ⟨rfl, rfl⟩
structure AltInv (n : Int) (w : World) (B X G : Nat) (L : List V.Bs) (out : List V.Itv) (u : Value) (W : World) : Prop where
 below : Below w.heap.size w W
 res : W.heap[B]? = some (.cells #[.int .i64 0, .slice none 0 0] 32 (0, 0))
 box : W.heap[X]? = some (.cells #[.int .i64 n, u] 32 (0, 0))
 one : V.One n out
 set : Itvs W u out
 own : ∀ c, u.ownBlock = some c -> w.heap.size ≤ c /\ c ≠ X /\ c ≠ B
 txt : ∀ j (h : j < L.length), W.cell? ⟨G, j, none⟩ = some (.string ⟨L[j].toArray⟩)
theorem AltInv.later {n : Int} {w W W' : World} {B X G : Nat} {L : List V.Bs} {out : List V.Itv} {u : Value} (h : AltInv n w B X G L out u W) (hb : Below W.heap.size W W') : AltInv n w B X G L out u W' :=
 ⟨h.below.trans (hb.mono h.below.size), kr hb h.res, kr hb h.box, h.one, h.set.below hb, h.own, fun j hj => za hb (h.txt j hj)⟩
theorem AltInv.put {n : Int} {w W W' : World} {B X G : Nat} {L : List V.Bs} {out out' : List V.Itv} {u u' : Value} (h : AltInv n w B X G L out u W) (hp : PutAt W W' X #[.int .i64 n, u'] 32) (hX : w.heap.size ≤ X) (hBX : B ≠ X) (hGX : G ≠ X)
  (ho : V.One n out') (hs : Itvs W u' out') (hw : ∀ c, u'.ownBlock = some c -> w.heap.size ≤ c /\ c ≠ X /\ c ≠ B) : AltInv n w B X G L out' u' W' :=
 ⟨hp.below h.below hX, hp.other h.res hBX, hp.here, ho, hp.itvs hs (fun c hc => (hw c hc).2.1), hw, fun j hj => hp.cell (h.txt j hj) hGX⟩
theorem zww {P : Prop} (h : P := by
 obtain ⟨p5, q5, rfl⟩ := hu5.slice
 have HI5 := zvq (HI4.out.later hb5)
 have HU5 := zvq hu5
 have HO5 := zvq (fun c hc => by
   have h1 := how5 c hc
   rw [HZ4.out] at h1
   exact (show w.heap.size ≤ c /\ c ≠ w.heap.size + 2 /\ c ≠ w.heap.size by have := HS2.out; omega))
 have HONE := zvq (HI2.out.one.and ⟨HOK.out, by simp⟩)
 have HEQ : Hid (V.altP n s = V.xn n (V.opL n V.andF out [y]) (L.drop (k + 1))) := zvq (by rw [HE.out, HST.out y HC.out])
 clear hu5 how5 hb5 y0 y1
 unfold setV
 go_wp2_with (first | (refine zi rfl 32 _ _ rfl (w.heap.size + 2) _ _ HI5.out.box rfl #[.int .i64 n, .slice p5 (V.opL n V.andF out [y]).length q5] rfl rfl (by kernel_rfl) (zt _ _ _ _) ?_; intro W6 hp6) | fail)
 have HI6 := zvq (HI5.out.put hp6 (by omega) (by omega) (by omega) HONE.out HU5.out HO5.out)
 clear hp6
 go_roundw
 case rel => exact ⟨k + 1, _, _, by omega, by go_num, HEQ.out, HI6.out⟩
 case measure => simp [intOf]; omega) : P := h
theorem zy2 {P : Prop} (h : P := by
 refine ⟨HB1.out.trans (hb2.mono HB1.out.size), kr hb2 HR1.out, kr hb2 HX1.out, V.zja HN.out, HS1.out.below hb2, (fun c hc => ?_), (fun j hj => ?_)⟩
 ·simp [Value.ownBlock] at hc; omega
 ·rw [hW2, World.cell?_alloc_new]; exact yj _ j hj) : P := h
theorem zf0 (n : Int) (s : V.Bs) (w : World) (hm : zg w) (hn : V.scheme n = true) (hs : s.length ≤ 100000) :
  Calls Tryz.prog 125 #[.int .i64 n, .string ⟨s.toArray⟩] w (yh n (V.altP n s) w) := by
 have HN := zvq hn
 have HM := zvq hm
 have HLS := zvq hs
 have HF : Hid (V.altP n s = if s = V.zcu then some [] else if s = [42] then some [V.noI] else V.xn n [V.noI] (V.zd 32 s)) := zvq rfl
 have HSZ : Hid ((ByteArray.mk s.toArray).size ≤ 100000) := zvq (by simpa [ByteArray.size] using hs)
 have HSD : Hid ((ByteArray.mk s.toArray).data.toList = s) := zvq rfl
 have hb0 : Below w.heap.size w (w.alloc (.cells #[.int .i64 0, .slice none 0 0] 32)) := (zvt _ w).alloc (zvs _) _
 have K0 : Hid ((w.alloc (.cells #[.int .i64 0, .slice none 0 0] 32)).heap[w.heap.size]? = some (.cells #[.int .i64 0, .slice none 0 0] 32 (0, 0))) := zvq (by rw [heap_alloc, if_pos rfl])
 have HB0 := zvq hb0
 clear hb0 hm hs hn
 generalize (ByteArray.mk s.toArray) = S at *
 by_cases h1 : s = V.zcu
 ·have HT : (S.toList == [110, 111, 110, 101]) = true := by rw [ByteArray.toList_eq, HSD.out, h1]; rfl
  have HR : Hid (V.altP n s = some []) := zvq (by rw [HF.out, if_pos h1])
  clear h1
  go_enter Tryz.func125, Tryz.ntmps125
  go_wp2_with (first | (refine zi rfl 32 _ _ rfl w.heap.size #[.int .i64 0, .slice none 0 0] _ K0.out rfl #[.int .i64 n, .slice none 0 0] rfl rfl (by kernel_rfl) (zt _ _ _ _) ?_; intro W2 hp2; have z0 : W2.cell? ⟨w.heap.size, 0, none⟩ = some (.int .i64 n) := zvp hp2.here 0; have z1 : W2.cell? ⟨w.heap.size, 1, none⟩ = some (.slice none 0 0) := zvp hp2.here 1) | fail)
  have HBF := zvq (hp2.below HB0.out (zvs _))
  clear hp2
  exact bodyPost_ret (v := .tuple #[.agg #[.int .i64 n, .slice none 0 0], .bool true]) (by simp [results, Tryz.results125, go_sem, z0, z1]) rfl (yh.yes HR.out HBF.out (Itvs.nil _) (fun c hc => by cases hc))
 ·have HT : (S.toList == [110, 111, 110, 101]) = false := by rw [zvu, ByteArray.toList_eq, HSD.out]; exact h1
  have HF1 : Hid (V.altP n s = if s = [42] then some [V.noI] else V.xn n [V.noI] (V.zd 32 s)) := zvq (by rw [HF.out, if_neg h1])
  obtain ⟨W0, hW0⟩ : ∃ W0, W0 = (w.alloc (.cells #[.int .i64 0, .slice none 0 0] 32)).alloc (.cells #[.string ⟨#[]⟩, .int .i64 0, .string ⟨#[]⟩, .int .i64 0] 87) := ⟨_, rfl⟩
  obtain ⟨W1, hW1⟩ : ∃ W1, W1 = W0.alloc (.cells #[.int .i64 n, .slice (some ⟨w.heap.size + 1, 0, none⟩) 1 1] 32) := ⟨_, rfl⟩
  have hz0 : W0.heap.size = w.heap.size + 2 := by rw [hW0]; simp
  have hI : W0.heap[w.heap.size + 1]? = some (.cells (itvC V.noI) 87 (0, 0)) := by rw [hW0, heap_alloc, if_pos (by simp)]; rfl
  have hb1 : Below W0.heap.size W0 W1 := by rw [hW1]; exact (zvt _ _).alloc (zvs _) _
  have hB1 : Below w.heap.size w W1 := by rw [hW1, hW0]; exact ((HB0.out.alloc (by simp) _).alloc (by simp; omega) _)
  have hR1 : W1.heap[w.heap.size]? = some (.cells #[.int .i64 0, .slice none 0 0] 32 (0, 0)) := by rw [hW1, heap_alloc, if_neg (by omega), hW0, heap_alloc, if_neg (by simp)]; exact K0.out
  have hX1 : W1.heap[w.heap.size + 2]? = some (.cells #[.int .i64 n, .slice (some ⟨w.heap.size + 1, 0, none⟩) 1 1] 32 (0, 0)) := by rw [hW1, heap_alloc, if_pos (by omega)]
  have hz1 : W1.heap.size = w.heap.size + 3 := by rw [hW1]; simp; omega
  have hS1 : Itvs W1 (.slice (some ⟨w.heap.size + 1, 0, none⟩) 1 1) [V.noI] := (zjh hI).below hb1
  have HW1 : Hid (((w.alloc (.cells #[.int .i64 0, .slice none 0 0] 32)).alloc (.cells #[.string ⟨#[]⟩, .int .i64 0, .string ⟨#[]⟩, .int .i64 0] 87)).alloc (.cells #[.int .i64 n, .slice (some ⟨w.heap.size + 1, 0, none⟩) 1 1] 32) = W1) := zvq (by rw [hW1, hW0])
  have HB1 := zvq hB1
  have HR1 := zvq hR1
  have HX1 := zvq hX1
  have HZ1 := zvq hz1
  have HS1 := zvq hS1
  clear hW0 hW1 hz0 hI hb1 hB1 hR1 hX1 hz1 hS1 h1
  go_enter Tryz.func125, Tryz.ntmps125
  by_cases h2 : s = [42]
  ·have HT2 : (S.toList == [42]) = true := by rw [ByteArray.toList_eq, HSD.out, h2]; rfl
   have HR : Hid (V.altP n s = some [V.noI]) := zvq (by rw [HF1.out, if_pos h2])
   clear h2
   go_wp2_with (first | (refine zi rfl 32 _ _ rfl w.heap.size #[.int .i64 0, .slice none 0 0] _ (by rw [HW1.out]; exact HR1.out) rfl #[.int .i64 n, .slice (some ⟨w.heap.size + 1, 0, none⟩) 1 1] rfl rfl (by kernel_rfl) (zt _ _ _ _) ?_; rw [HW1.out]; intro W2 hp2; have z0 : W2.cell? ⟨w.heap.size, 0, none⟩ = some (.int .i64 n) := zvp hp2.here 0; have z1 : W2.cell? ⟨w.heap.size, 1, none⟩ = some (.slice (some ⟨w.heap.size + 1, 0, none⟩) 1 1) := zvp hp2.here 1) | fail)
   have HBF := zvq (hp2.below HB1.out (zvs _))
   have HIV := zvq (hp2.itvs HS1.out (fun c hc => by simp [Value.ownBlock] at hc; omega))
   clear hp2
   exact bodyPost_ret (v := .tuple #[.agg #[.int .i64 n, .slice (some ⟨w.heap.size + 1, 0, none⟩) 1 1], .bool true]) (by simp [results, Tryz.results125, go_sem, z0, z1]) rfl (yh.yes HR.out HBF.out HIV.out (fun c hc => by simp [Value.ownBlock] at hc; omega))
  ·have HT2 : (S.toList == [42]) = false := by rw [zvu, ByteArray.toList_eq, HSD.out]; exact h2
   have HF2 : Hid (V.altP n s = V.xn n [V.noI] (V.zd 32 s)) := zvq (by rw [HF1.out, if_neg h2])
   have HPL : Hid (∀ x ∈ V.zd 32 s, x.length ≤ 100000) := zvq (fun x hx => Nat.le_trans (kb 32 s x hx) HLS.out)
   have HLL : Hid ((V.zd 32 s).length ≤ 100001) := zvq (Nat.le_trans (jm 32 s) (by have := HLS.out; omega))
   clear h2
   go_wp2_with fail
   rw [HW1.out]
   refine (kn S 32 W1 (HM.out.below HB1.out) (by have := HSZ.out; omega)).mono ?_
   rintro e W2 ⟨rfl, hW2⟩
   rw [HSD.out] at hW2 ⊢
   have hb2 : Below W1.heap.size W1 W2 := by rw [hW2]; exact (zvt _ _).alloc (zvs _) _
   have hINV : AltInv n w w.heap.size (w.heap.size + 2) W1.heap.size (V.zd 32 s) [V.noI] (.slice (some ⟨w.heap.size + 1, 0, none⟩) 1 1) W2 := by
    exact zy2
   have HINV := zvq hINV
   have hz1 : W1.heap.size = w.heap.size + 3 := HZ1.out
   have hz2 : W2.heap.size = w.heap.size + 4 := by rw [hW2]; simp; omega
   have hll : (V.zd 32 s).length ≤ 100001 := HLL.out
   clear hb2 hINV hW2
   rw [hz1] at HINV ⊢
   clear hz1
   have HZ2 := zvq hz2
   clear hz2
   have HNEQ : Hid (V.altP n s = V.xn n [V.noI] ((V.zd 32 s).drop 0)) := zvq HF2.out
   generalize V.zd 32 s = L at *
   go_wp2_with fail
   go_loopw [25] (fun iv wx => ∃ (k : Nat) (out : List V.Itv) (u : Value), k ≤ L.length /\ iv = .int .i64 k /\ V.altP n s = V.xn n out (L.drop k) /\ AltInv n w w.heap.size (w.heap.size + 2) (w.heap.size + 3) L out u wx) (fun iv _ => L.length - (intOf iv).toNat)
   case atStart => exact ⟨0, _, _, Nat.zero_le _, rfl, HNEQ.out, HINV.out⟩
   case round =>
    obtain ⟨k, out, u, hk, rfl, heq, hinv⟩ := hrel
    have HE := zvq heq
    have HI := zvq hinv
    obtain ⟨p, q, rfl⟩ := hinv.set.slice
    clear heq hinv
    have x0 : wr.cell? ⟨w.heap.size + 1 + 1, 0, none⟩ = some (.int .i64 n) := zvp HI.out.box 0
    have x1 : wr.cell? ⟨w.heap.size + 1 + 1, 1, none⟩ = some (.slice p out.length q) := zvp HI.out.box 1
    by_cases hlt : k < L.length
    ·have hc := HI.out.txt k hlt
     have hi1 : (0 : Int) ≤ (k : Int) := by omega
     have hi2 : (k : Int) < (L.length : Int) := by omega
     have HLX := zvq (HPL.out _ (List.getElem_mem hlt))
     have HST := zvq (fun (y : V.Itv) hy => zjl (n := n) (out := out) (y := y) hlt hy)
     have HNO := zvq (fun hy => zj7 (n := n) (out := out) hlt hy)
     generalize L[k] = x at *
     go_wp2_with fail
     refine (zi0 n x wr (HM.out.below HI.out.below) HLX.out).mono ?_
     rintro e w2 ⟨y, b, rfl, hor, hb2⟩
     have HOR := zvq hor
     have HI2 := zvq (HI.out.later hb2)
     clear hor hb2 hc x0 x1
     have x0 : w2.cell? ⟨w.heap.size + 1 + 1, 0, none⟩ = some (.int .i64 n) := zvp HI2.out.box 0
     have x1 : w2.cell? ⟨w.heap.size + 1 + 1, 1, none⟩ = some (.slice p out.length q) := zvp HI2.out.box 1
     unfold itvV
     rcases b with _ | _
     ·have HR : Hid (V.altP n s = none) := zvq (by
        rcases HOR.out with ⟨_, h⟩ | ⟨h, _⟩
        · rw [HE.out, HNO.out h]
        · cases h)
      have HBY := zvq ((zvt w2.heap.size w2).alloc (zvs _) (.cells (itvC y) 87))
      go_wp2_with (first | (refine zi rfl 32 _ _ rfl w.heap.size #[.int .i64 0, .slice none 0 0] _ (HI2.out.later HBY.out).res rfl #[.int .i64 0, .slice none 0 0] rfl rfl (by kernel_rfl) (zt _ _ _ _) ?_; intro W5 hp5; have z0 : W5.cell? ⟨w.heap.size, 0, none⟩ = some (.int .i64 0) := zvp hp5.here 0; have z1 : W5.cell? ⟨w.heap.size, 1, none⟩ = some (.slice none 0 0) := zvp hp5.here 1) | fail)
      have HBF := zvq (hp5.below (HI2.out.later HBY.out).below (zvs _))
      clear hp5
      exact bodyPost_ret (v := .tuple #[.agg #[.int .i64 0, .slice none 0 0], .bool false]) (by simp [results, Tryz.results125, go_sem, z0, z1]) rfl (by rw [HR.out]; exact yh.no HBF.out)
     ·have HC : Hid (V.jp n x = some y) := zvq (by
        rcases HOR.out with ⟨h, _⟩ | ⟨_, h⟩
        · cases h
        · exact h)
      have HOK := zvq (V.zkd HN.out HC.out)
      have hbY : Below w2.heap.size w2 ((w2.alloc (.cells (itvC y) 87)).alloc (.cells (itvC y) 87)) := ((zvt _ _).alloc (zvs _) _).alloc (by simp) _
      have HY : Hid (((w2.alloc (.cells (itvC y) 87)).alloc (.cells (itvC y) 87)).heap[w2.heap.size + 1]? = some (.cells (itvC y) 87 (0, 0))) := zvq (by rw [heap_alloc, if_pos (by simp)])
      have HI4 := zvq (HI2.out.later hbY)
      have HZ4 : Hid (((w2.alloc (.cells (itvC y) 87)).alloc (.cells (itvC y) 87)).heap.size = w2.heap.size + 2) := zvq (by simp)
      have hb3 : Below w2.heap.size w2 (w2.alloc (.cells (itvC y) 87)) := (zvt _ _).alloc (zvs _) _
      have y0 : (w2.alloc (.cells (itvC y) 87)).cell? ⟨w.heap.size + 1 + 1, 0, none⟩ = some (.int .i64 n) := za hb3 x0
      have y1 : (w2.alloc (.cells (itvC y) 87)).cell? ⟨w.heap.size + 1 + 1, 1, none⟩ = some (.slice p out.length q) := za hb3 x1
      clear hb3 x0 x1
      unfold itvC at y0 y1
      have HS2 : Hid (w.heap.size + 2 < w2.heap.size) := zvq ((Array.getElem?_eq_some_iff.1 HI2.out.box).1)
      clear hbY
      go_wp2_with fail
      refine (ze2 n out [y] (.slice p out.length q) (.slice (some ⟨w2.heap.size + 1, 0, none⟩) 1 1) 153 V.andF ((w2.alloc (.cells (itvC y) 87)).alloc (.cells (itvC y) 87)) (HM.out.below HI4.out.below) HI4.out.one.ok HOK.out HI4.out.set (zjh HY.out) (enters_of Tryz.func153 (by kernel_rfl) rfl) (fun x y W => zso x y W)).mono ?_
      rintro e w5 ⟨u5, rfl, hu5, how5, hb5⟩
      exact zww
    ·obtain rfl : k = L.length := by omega
     have HR : Hid (V.altP n s = some out) := zvq (by rw [HE.out, List.drop_length]; rfl)
     go_wp2_with (first | (refine zi rfl 32 _ _ rfl w.heap.size #[.int .i64 0, .slice none 0 0] _ HI.out.res rfl #[.int .i64 n, .slice p out.length q] rfl rfl (by kernel_rfl) (zt _ _ _ _) ?_; intro W5 hp5; have z0 : W5.cell? ⟨w.heap.size, 0, none⟩ = some (.int .i64 n) := zvp hp5.here 0; have z1 : W5.cell? ⟨w.heap.size, 1, none⟩ = some (.slice p out.length q) := zvp hp5.here 1) | fail)
     have HBF := zvq (hp5.below HI.out.below (zvs _))
     have HIV := zvq (hp5.itvs HI.out.set (fun c hc => (HI.out.own c hc).2.2))
     clear hp5
     exact bodyPost_ret (v := .tuple #[.agg #[.int .i64 n, .slice p out.length q], .bool true]) (by simp [results, Tryz.results125, go_sem, z0, z1]) rfl (yh.yes HR.out HBF.out HIV.out (fun c hc => (HI.out.own c hc).1))
end Go.Proofs.YtiloljoancdcbaaGreatDoor
