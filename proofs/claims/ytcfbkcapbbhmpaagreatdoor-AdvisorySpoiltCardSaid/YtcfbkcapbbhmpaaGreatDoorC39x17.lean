import Derived.Test.YtcfbkcapbbhmpaaGreatDoorC39x16
import Derived.StillTailTactics
set_option linter.all false
set_option maxRecDepth 100000
set_option maxHeartbeats 6400000
namespace Go.Proofs.YtcfbkcapbbhmpaaGreatDoor
open Go.RowKit
theorem vu : ∀ a b : V.Bs, Op.bytesLess a b = decide (V.cb a b < 0)
 | [], [] => rfl
 | [], _ :: _ => rfl
 | _ :: _, [] => rfl
 | x :: a, y :: b => by
  unfold Op.bytesLess
  rcases V.zjn x y a b with ⟨h, e⟩ | ⟨h, e⟩ | ⟨h, e⟩
  ·rw [e]; simp [h]
  ·subst h
   have : ¬ x < x := by simp
   rw [e, ← vu a b]; simp [this]
  ·exact z0d
theorem z0k {P : Prop} (h : P := by
 clear h
 go_enter Tryz.func168, Tryz.ntmps168
 go_wp2
 go_ret
 exact ⟨by rw [HR.out]; rfl, rfl⟩) : P := h
theorem zs8 (a b : V.Bs) (w : World) : Calls Tryz.prog 168 #[.string ⟨a.toArray⟩, .string ⟨b.toArray⟩] w fun e w' => e = .returned (.string ⟨(V.lesser a b).toArray⟩) /\ w = w' := by
 have HF : Hid (V.lesser a b = if Lib.compareBytes b a < 0 then b else a) := zwe rfl
 by_cases h : Lib.compareBytes b a < 0
 ·have HR : Hid (V.lesser a b = b) := zwe (by rw [HF.out, if_pos h])
  have hl : Op.bytesLess b a = true := by rw [vu]; exact decide_eq_true h
  exact z0k
 ·have HR : Hid (V.lesser a b = a) := zwe (by rw [HF.out, if_neg h])
  have hl : Op.bytesLess b a = false := by rw [vu]; exact decide_eq_false h
  exact z0k
theorem PutAt.itvs {w W : World} {g : Nat} {new : Array Value} {t : TypeId} {u : Value} {l : List V.Itv} (h : PutAt w W g new t) (hu : Itvs w u l) (hne : ∀ c, u.ownBlock = some c -> c ≠ g) : Itvs W u l := by
 obtain ⟨a, cap, rfl, hc⟩ := hu
 refine ⟨a, cap, rfl, fun j hj => ?_⟩
 obtain ⟨b, off, rfl, hlt, h0, h1, h2, h3⟩ := hc j hj
 have hb := hne b rfl
 exact ⟨b, off, rfl, by rw [h.size]; exact hlt, h.cell h0 hb, h.cell h1 hb, h.cell h2 hb, h.cell h3 hb⟩
theorem xl {W : World} {Z g o : Nat} {u v x : Value} (hne : g ≠ Z) (h : W.cell? ⟨g, o, none⟩ = some x) : ((W.setCell ⟨Z, 0, none⟩ u).setCell ⟨Z, 1, none⟩ v).drew.cell? ⟨g, o, none⟩ = some x := by
 rw [World.cell?_drew, World.cell?_setCell_other _ _ _ _ (by intro e; injection e with e1; exact hne e1.symm), World.cell?_setCell_other _ _ _ _ (by intro e; injection e with e1; exact hne e1.symm)]
 exact h
theorem zo0 {W : World} {Z : Nat} {p q u v : Value} {t : TypeId} (hZ : W.heap[Z]? = some (.cells #[p, q] t (0, 0))) : PutAt W (((W.setCell ⟨Z, 0, none⟩ u).setCell ⟨Z, 1, none⟩ v).drew) Z #[u, v] t := by
 have h1 := zhx (o := 0) hZ u
 have h2 := zhx (o := 1) h1.here v
 exact ⟨h2.here, h2.size.trans h1.size, World.grownBy.trans (World.grownBy.trans h1.grown h2.grown) ⟨rfl, rfl, rfl, zwg _, fun _ _ _ => rfl⟩⟩
namespace V
theorem step_l {n : Int} {f : Bool -> Bool -> Bool} {x y : Bool} {L M : List Cut} {i j : Nat} (hi : i < L.length) (h : j = M.length ∨ ∃ hj : j < M.length, cutC n L[i] M[j] < 0) :
  comb n f x y (f x y) (L.drop i) (M.drop j) = emit L[i] (f (!x) y) (f x y) (comb n f (!x) y (f (!x) y) (L.drop (i + 1)) (M.drop j)) := by
 rw [List.drop_eq_getElem_cons hi]
 rcases h with rfl | ⟨hj, h⟩
 ·rw [List.drop_length]; exact ztr ..
 ·rw [List.drop_eq_getElem_cons hj]; exact zp3 h
theorem step_r {n : Int} {f : Bool -> Bool -> Bool} {x y : Bool} {L M : List Cut} {i j : Nat} (hj : j < M.length) (h : i = L.length ∨ ∃ hi : i < L.length, 0 < cutC n L[i] M[j]) :
  comb n f x y (f x y) (L.drop i) (M.drop j) = emit M[j] (f x (!y)) (f x y) (comb n f x (!y) (f x (!y)) (L.drop i) (M.drop (j + 1))) := by
 rw [List.drop_eq_getElem_cons hj]
 rcases h with rfl | ⟨hi, h⟩
 ·rw [List.drop_length]; exact ztm ..
 ·rw [List.drop_eq_getElem_cons hi]; exact zql h
theorem step_b {n : Int} {f : Bool -> Bool -> Bool} {x y : Bool} {L M : List Cut} {i j : Nat} (hi : i < L.length) (hj : j < M.length) (h : cutC n L[i] M[j] = 0) :
  comb n f x y (f x y) (L.drop i) (M.drop j) = emit (lesser L[i].1 M[j].1, L[i].2) (f (!x) (!y)) (f x y) (comb n f (!x) (!y) (f (!x) (!y)) (L.drop (i + 1)) (M.drop (j + 1))) := by
 rw [List.drop_eq_getElem_cons hi, List.drop_eq_getElem_cons hj]
 exact zqf h
end V
structure CbInv (n : Int) (f : Bool -> Bool -> Bool) (xa xb : Bool) (L M : List V.Cut) (W0 : World) (i j : Nat) (R : List V.Cut) (out : Value) (W : World) : Prop where
 hi : i ≤ L.length
 hj : j ≤ M.length
 row : BRow W W0.heap.size out (V.alt (f xa xb) R)
 now : f (V.par xa i) (V.par xb j) = V.par (f xa xb) R.length
 res : V.comb n f xa xb (f xa xb) L M = R ++ V.comb n f (V.par xa i) (V.par xb j) (f (V.par xa i) (V.par xb j)) (L.drop i) (M.drop j)
 below : Below W0.heap.size W0 W
 len : R.length ≤ i + j
theorem CbInv.next {n : Int} {f : Bool -> Bool -> Bool} {xa xb : Bool} {L M : List V.Cut} {W0 W : World} {i j : Nat} {R : List V.Cut} {out : Value} (h : CbInv n f xa xb L M W0 i j R out W) {i' j' : Nat} {c : V.Cut} (hi : i' ≤ L.length) (hj : j' ≤ M.length)
  {x' y' : Bool} (hst : V.comb n f (V.par xa i) (V.par xb j) (f (V.par xa i) (V.par xb j)) (L.drop i) (M.drop j) = V.emit c (f x' y') (f (V.par xa i) (V.par xb j)) (V.comb n f x' y' (f x' y') (L.drop i') (M.drop j'))) (hx : V.par xa i' = x') (hy : V.par xb j' = y') (hlen : i + j + 1 ≤ i' + j') (out' : Value) (W' : World) (hB : Below W0.heap.size W0 W') :
  (f x' y' = V.par (f xa xb) R.length -> BRow W' W0.heap.size out' (V.alt (f xa xb) R) -> CbInv n f xa xb L M W0 i' j' R out' W') /\
  (f x' y' ≠ V.par (f xa xb) R.length -> BRow W' W0.heap.size out' (V.alt (f xa xb) R ++ [(c, !V.par (f xa xb) R.length)]) -> CbInv n f xa xb L M W0 i' j' (R ++ [c]) out' W') := by
 have hr := h.res
 rw [hst] at hr
 have hl := h.len
 subst hx hy
 constructor
 ·intro he hrow
  refine ⟨hi, hj, hrow, he, ?_, hB, by omega⟩
  rw [hr, h.now]
  unfold V.emit
  rw [if_pos he]
 ·intro he hrow
  refine ⟨hi, hj, ?_, ?_, ?_, hB, by simp; omega⟩
  ·rw [V.zr8]; exact hrow
  ·rw [List.length_append, List.length_singleton, V.zy]
   cases hq : f (V.par xa i') (V.par xb j') <;> cases hp : V.par (f xa xb) R.length <;> simp_all
  ·rw [hr, h.now]
   unfold V.emit
   rw [if_neg he, List.append_assoc]
   rfl
theorem zwl {P : Prop} (h : P := by
 rcases hnx : fx with _ | _
 ·have HNX := zwe hnx
  clear hnx
  rcases hnw : V.par (f xa xb) R.length with _ | _
  ·have HNW := zwe hnw
   clear hnw
   have HIN := zwe ((HNEXT.out _ W2 HBW.out).1 (by rw [HNX.out, HNW.out]) HR2.out)
   go_wp2
   go_roundw
   case rel => exact ⟨_, _, _, by go_num, by go_num, by first | rfl | rw [HPX.out], by first | rfl | rw [HPY.out], by rw [HNW.out], HIN.out⟩
   case measure => simp [intOf]; omega
  ·have HNW := zwe hnw
   clear hnw
   have HNB : Hid (∀ j0 u, (ko (cc, false))[j0]? = some u -> (W2.alloc (.cells #[.string ⟨cc.1.toArray⟩, .bool cc.2, .bool false] 198)).cell? ⟨W2.heap.size, j0, none⟩ = some u) := zwe (fun j0 u hu => by rw [World.cell?_alloc_new]; simpa [ko] using hu)
   have HBN := zwe ((zwh W2.heap.size W2).alloc (zwg _) (.cells #[.string ⟨cc.1.toArray⟩, .bool cc.2, .bool false] 198))
   go_wp2_with (first | (refine zl jy (by decide) ke xc (by decide) rfl _ _ 194 rfl Tryz.underlying194 w4.heap.size (.slice oa (V.alt (f xa xb) R).length oc) (V.alt (f xa xb) R) rfl (GRow.below HR2.out HBN.out) W2.heap.size (cc, false) rfl HNB.out (by rw [V.ym]; omega) (by have := HBW.out.size; have := HBN.out.size; omega) ?_; intro v9 W9 hr9 hg9) | fail)
   have hb9 : Below w4.heap.size w4 W9 := (HBW.out.trans (HBN.out.mono HBW.out.size)).trans (zk hg9 (GRow.block HR2.out) (zwg _) (by have := HBW.out.size; have := HBN.out.size; omega))
   have HIN := zwe ((HNEXT.out v9 W9 hb9).2 (by rw [HNX.out, HNW.out]; decide) (by rw [HNW.out]; exact hr9))
   have HPN : Hid (V.par (f xa xb) (R ++ [cc]).length = false) := zwe (by rw [List.length_append, List.length_singleton, V.zy, HNW.out]; rfl)
   clear hr9 hg9 hb9 c0 c1
   go_roundw
   case rel => exact ⟨_, _, _, by go_num, by go_num, by first | rfl | rw [HPX.out], by first | rfl | rw [HPY.out], by rw [HPN.out], HIN.out⟩
   case measure => simp [intOf]; omega
 ·have HNX := zwe hnx
  clear hnx
  rcases hnw : V.par (f xa xb) R.length with _ | _
  ·have HNW := zwe hnw
   clear hnw
   have HNB : Hid (∀ j0 u, (ko (cc, true))[j0]? = some u -> (W2.alloc (.cells #[.string ⟨cc.1.toArray⟩, .bool cc.2, .bool true] 198)).cell? ⟨W2.heap.size, j0, none⟩ = some u) := zwe (fun j0 u hu => by rw [World.cell?_alloc_new]; simpa [ko] using hu)
   have HBN := zwe ((zwh W2.heap.size W2).alloc (zwg _) (.cells #[.string ⟨cc.1.toArray⟩, .bool cc.2, .bool true] 198))
   go_wp2_with (first | (refine zl jy (by decide) ke xc (by decide) rfl _ _ 194 rfl Tryz.underlying194 w4.heap.size (.slice oa (V.alt (f xa xb) R).length oc) (V.alt (f xa xb) R) rfl (GRow.below HR2.out HBN.out) W2.heap.size (cc, true) rfl HNB.out (by rw [V.ym]; omega) (by have := HBW.out.size; have := HBN.out.size; omega) ?_; intro v9 W9 hr9 hg9) | fail)
   have hb9 : Below w4.heap.size w4 W9 := (HBW.out.trans (HBN.out.mono HBW.out.size)).trans (zk hg9 (GRow.block HR2.out) (zwg _) (by have := HBW.out.size; have := HBN.out.size; omega))
   have HIN := zwe ((HNEXT.out v9 W9 hb9).2 (by rw [HNX.out, HNW.out]; decide) (by rw [HNW.out]; exact hr9))
   have HPN : Hid (V.par (f xa xb) (R ++ [cc]).length = true) := zwe (by rw [List.length_append, List.length_singleton, V.zy, HNW.out]; rfl)
   clear hr9 hg9 hb9 c0 c1
   go_roundw
   case rel => exact ⟨_, _, _, by go_num, by go_num, by first | rfl | rw [HPX.out], by first | rfl | rw [HPY.out], by rw [HPN.out], HIN.out⟩
   case measure => simp [intOf]; omega
  ·have HNW := zwe hnw
   clear hnw
   have HIN := zwe ((HNEXT.out _ W2 HBW.out).1 (by rw [HNX.out, HNW.out]) HR2.out)
   go_wp2
   go_roundw
   case rel => exact ⟨_, _, _, by go_num, by go_num, by first | rfl | rw [HPX.out], by first | rfl | rw [HPY.out], by rw [HNW.out], HIN.out⟩
   case measure => simp [intOf]; omega) : P := h
theorem z0a {P : Prop} (h : P := by
 have h1 := V.zhp xb M j hjl
 have := List.getElem?_eq_getElem (l := V.alt xb M) (i := j) (by rw [HML.out]; exact hjl)
 rw [h1, V.zy] at this
 exact (Option.some.inj this).symm) : P := h
theorem z0b {P : Prop} (h : P := by
 have h1 := V.zhp xa L i hil
 have := List.getElem?_eq_getElem (l := V.alt xa L) (i := i) (by rw [HLL.out]; exact hil)
 rw [h1, V.zy] at this
 exact (Option.some.inj this).symm) : P := h
theorem zfe (n : Int) (a b : List V.Itv) (va vb : Value) (K : Nat) (f : Bool -> Bool -> Bool) (w : World) (hm : zg w) (ha : V.Ok n a) (hb : V.Ok n b) (hva : Itvs w va a) (hvb : Itvs w vb b)
  (eg : ∀ args w, (callFunc K args).run Tryz.prog w = .ok (.enter K args) w) (hK : ∀ (x y : Bool) W, Calls Tryz.prog K #[.bool x, .bool y] W fun e w' => e = .returned (.bool (f x y)) /\ W = w') :
  Calls Tryz.prog 139 #[setV n va, setV n vb, .func (.func K) #[] #[]] w fun e w' => ∃ u, e = .returned (setV n u) /\ Itvs w' u (V.opL n f a b) /\ (∀ c, u.ownBlock = some c -> w.heap.size ≤ c) /\ Below w.heap.size w w' := by
 have HK := zwe hK
 have HVA := zwe hva
 have HVB := zwe hvb
 obtain ⟨aa, ac, rfl⟩ := hva.slice
 obtain ⟨ba, bc, rfl⟩ := hvb.slice
 have HA := zwe ha
 have HB := zwe hb
 have hla := ha.len
 have hlb := hb.len
 obtain ⟨hb0, hc0, _, hz0⟩ := ze8 w #[.int .i64 n, .slice aa a.length ac] #[.int .i64 n, .slice ba b.length bc] 45 45
 have hb1 : Below w.heap.size w (((w.alloc (.cells #[.int .i64 n, .slice aa a.length ac] 45)).alloc (.cells #[.int .i64 n, .slice ba b.length bc] 45)).alloc (.cells #[.int .i64 0, .slice none 0 0] 45)) := hb0.alloc (by rw [hz0]; omega) _
 have h3 := xr w (.cells #[.int .i64 n, .slice aa a.length ac] 45) (.cells #[.int .i64 n, .slice ba b.length bc] 45) (.cells #[.int .i64 0, .slice none 0 0] 45)
 have H3 := zwe h3
 have HB1 := zwe hb1
 have HM1 := zwe (hm.below hb1)
 clear hK hva hvb ha hb hb0 hc0 hz0 hb1 h3 hm
 unfold setV
 go_enter Tryz.func139, Tryz.ntmps139
 go_wp2_with fail
 generalize (((w.alloc (.cells #[.int .i64 n, .slice aa a.length ac] 45)).alloc (.cells #[.int .i64 n, .slice ba b.length bc] 45)).alloc (.cells #[.int .i64 0, .slice none 0 0] 45)) = w1 at *
 refine (zfm n (.slice aa a.length ac) a w1 (HVA.out.below HB1.out) (by omega)).mono ?_
 rintro e w2 ⟨lv, rfl, hlv, hb2⟩
 have HL2 := zwe (BRow.bords hlv)
 have HB2 := zwf HB1 hb2
 have HM2 := zwe (HM1.out.below hb2)
 have K0 := hb2.block _ (show w.heap.size < w1.heap.size by have := H3.out.2.2.2; omega)
 have K1 := hb2.block _ (show w.heap.size + 1 < w1.heap.size by have := H3.out.2.2.2; omega)
 have K2 := hb2.block _ (show w.heap.size + 1 + 1 < w1.heap.size by have := H3.out.2.2.2; omega)
 rw [H3.out.1] at K0
 rw [H3.out.2.1] at K1
 rw [H3.out.2.2.1] at K2
 have c0 : w2.cell? ⟨w.heap.size + 1, 0, none⟩ = some (.int .i64 n) := zwd K1 0
 have c1 : w2.cell? ⟨w.heap.size + 1, 1, none⟩ = some (.slice ba b.length bc) := zwd K1 1
 have HK2 := zwe (And.intro K0 K2)
 clear hlv hb2 K0 K1 K2
 go_wp2_with fail
 refine (zfm n (.slice ba b.length bc) b w2 (HVB.out.below HB2.out) (by omega)).mono ?_
 rintro e w3 ⟨mv, rfl, hmv, hb3⟩
 have HM3 := zwe (BRow.bords hmv)
 have HL3 := zwe (Bords.below HL2.out hb3)
 have HB3 := zwf HB2 hb3
 have HMX := zwe (HM2.out.below hb3)
 have K0 := hb3.block _ (Array.getElem?_eq_some_iff.1 HK2.out.1).1
 have K2 := hb3.block _ (Array.getElem?_eq_some_iff.1 HK2.out.2).1
 rw [HK2.out.1] at K0
 rw [HK2.out.2] at K2
 have HK3 := zwe (And.intro K0 K2)
 rw [V.zlq HA.out.ord] at HL3
 rw [V.zlq HB.out.ord] at HM3
 clear hmv hb3 K0 K2 c0 c1 HL2 HM2 HK2 HM1 HB2
 obtain ⟨xa, hxa⟩ : ∃ x, x = V.zr a := ⟨_, rfl⟩
 obtain ⟨xb, hxb⟩ : ∃ x, x = V.zr b := ⟨_, rfl⟩
 have HOP : Hid (V.opL n f a b = V.ofC (V.start (f xa xb)) (V.comb n f xa xb (f xa xb) (V.zh a) (V.zh b))) := zwe (by rw [hxa, hxb]; rfl)
 have HOA := zwe HA.out.cuts
 have HOB := zwe HB.out.cuts
 have hlL := V.zam a
 have hlM := V.zam b
 rw [← hxa] at HL3 ⊢
 rw [← hxb] at HM3 ⊢
 generalize V.zh a = L at *
 generalize V.zh b = M at *
 obtain ⟨la, lc, rfl⟩ := HL3.out.slice
 obtain ⟨ma, mc, rfl⟩ := HM3.out.slice
 have HLL := zwe (V.ym xa L)
 have HML := zwe (V.ym xb M)
 rw [HLL.out] at HL3 ⊢
 rw [HML.out] at HM3 ⊢
 have HN := zwe HA.out.sch
 clear hxa hxb HA HB HVA HVB HB1
 go_wp2_with fail
 refine (HK.out xa xb w3).mono ?_
 rintro e w4' ⟨rfl, rfl⟩
 obtain ⟨w4, hw4⟩ : ∃ w4, w4 = w3 := ⟨_, rfl⟩
 subst hw4
 go_wp2
 go_loopw [8, 10, 12, 13, 14, 15] (fun xv yv nv ov iv jv wx => ∃ (i j : Nat) (R : List V.Cut), iv = .int .i64 i /\ jv = .int .i64 j /\ xv = .bool (V.par xa i) /\ yv = .bool (V.par xb j) /\ nv = .bool (V.par (f xa xb) R.length) /\ CbInv n f xa xb L M w4 i j R ov wx) (fun _ _ _ _ iv jv _ => (L.length - (intOf iv).toNat) + (M.length - (intOf jv).toNat))
 case atStart => exact ⟨0, 0, [], rfl, rfl, rfl, rfl, rfl, Nat.zero_le _, Nat.zero_le _, GRow.nil _ _, rfl, rfl, zwh _ _, by simp⟩
 case round =>
  obtain ⟨i, j, R, rfl, rfl, rfl, rfl, rfl, hinv⟩ := hrel
  have HINV := zwe hinv
  obtain ⟨oa, oc, rfl⟩ := GRow.slice hinv.row
  have hi := hinv.hi
  have hj := hinv.hj
  clear hinv
  by_cases hil : i < L.length
  ·by_cases hjl : j < M.length
   ·obtain ⟨g, off, rfl, hgl, h0, h1, h2⟩ := HL3.out.at i (by rw [HLL.out]; exact hil)
    have hge : (V.alt xa L)[i]'(by rw [HLL.out]; exact hil) = (L[i], !V.par xa i) := by
     exact z0b
    rw [hge] at h0 h1 h2
    replace h0 := za HINV.out.below h0
    replace h1 := za HINV.out.below h1
    replace h2 := za HINV.out.below h2
    have hi1 : (0 : Int) ≤ (i : Int) := by omega
    have hi2 : (i : Int) < (L.length : Int) := by omega
    clear hge
    obtain ⟨g2, off2, rfl, mhgl, mh0, mh1, mh2⟩ := HM3.out.at j (by rw [HML.out]; exact hjl)
    have mhge : (V.alt xb M)[j]'(by rw [HML.out]; exact hjl) = (M[j], !V.par xb j) := by
     exact z0a
    rw [mhge] at mh0 mh1 mh2
    replace mh0 := za HINV.out.below mh0
    replace mh1 := za HINV.out.below mh1
    replace mh2 := za HINV.out.below mh2
    have mhi1 : (0 : Int) ≤ (j : Int) := by omega
    have mhi2 : (j : Int) < (M.length : Int) := by omega
    clear mhge
    have hsc : wr.cell? ⟨w.heap.size, 0, none⟩ = some (.int .i64 n) := zwd ((HINV.out.below.block _ (Array.getElem?_eq_some_iff.1 HK3.out.1).1).trans HK3.out.1) 0
    have HVL : Hid (V.valid n L[i].1 = true) := zwe (HOA.out _ (List.getElem_mem hil))
    have HVM : Hid (V.valid n M[j].1 = true) := zwe (HOB.out _ (List.getElem_mem hjl))
    have HMR := zwe (HMX.out.below HINV.out.below)
    have hq1 : ((j : Int) == (M.length : Int)) = false := by rw [zwi]; omega
    have hq2 : ((i : Int) == (L.length : Int)) = false := by rw [zwi]; omega
    go_wp2_with fail
    go_region_held3 (fun W' => zg W' /\ W'.cell? ⟨w.heap.size, 0, none⟩ = some (.int .i64 n) /\ W'.cell? ⟨g, off + i * 3, none⟩ = some (.string ⟨L[i].1.toArray⟩) /\ W'.cell? ⟨g, off + i * 3 + 1, none⟩ = some (.bool L[i].2) /\ W'.cell? ⟨g2, off2 + j * 3, none⟩ = some (.string ⟨M[j].1.toArray⟩) /\ W'.cell? ⟨g2, off2 + j * 3 + 1, none⟩ = some (.bool M[j].2))
     (first
       | (exact ⟨HMR.out, hsc, h0, h1, mh0, mh1⟩)
       | (go_split_ands; exact ⟨zg.below (by assumption) hbq, zwk hbq, zwk hbq, zwk hbq, zwk hbq, zwk hbq⟩)
       | go_keep)
     (first
       | (go_at_call 96; refine (xe n L[i] M[j] _ (by first | assumption | exact And.left (by assumption)) HN.out HVL.out HVM.out).mono ?_; rintro e wq ⟨rfl, hbq⟩))
    have hbQ : Below wr.heap.size wr wq := ((zwh wr.heap.size wr).drew).trans (show Below wr.heap.size wr.drew wq from hbq)
    have HBX := zwe (HINV.out.below.trans (hbQ.mono HINV.out.below.size))
    have HRX : Hid (BRow wq w4.heap.size (.slice oa (V.alt (f xa xb) R).length oc) (V.alt (f xa xb) R)) := zwe (GRow.below HINV.out.row hbQ)
    replace h0 := za hbQ h0
    replace h1 := za hbQ h1
    replace h2 := za hbQ h2
    replace mh0 := za hbQ mh0
    replace mh1 := za hbQ mh1
    replace mh2 := za hbQ mh2
    clear hbq hbQ hsc
    obtain ⟨z, hz⟩ : ∃ z, V.cutC n L[i] M[j] = z := ⟨_, rfl⟩
    rw [hz]
    have HZC := zwe hz
    clear hz
    by_cases hz1 : z < 0
    ·have hz2 : z ≤ 0 := by omega
     have hz3 : ¬ 0 ≤ z := by omega
     have hz4 : ¬ 0 < z := by omega
     have hz5 : (z == 0) = false := by rw [zwi]; omega
     have hbZ : Below wq.heap.size wq (wq.alloc (.cells #[.string ⟨#[]⟩, .bool false] 135)) := (zwh _ wq).alloc (zwg _) _
     replace h0 := za hbZ h0
     replace h1 := za hbZ h1
     replace h2 := za hbZ h2
     have z0 : (wq.alloc (.cells #[.string ⟨#[]⟩, .bool false] 135)).cell? ⟨wq.heap.size, 0, none⟩ = some (.string ⟨#[]⟩) := by rw [World.cell?_alloc_new]; rfl
     have z1 : (wq.alloc (.cells #[.string ⟨#[]⟩, .bool false] 135)).cell? ⟨wq.heap.size, 1, none⟩ = some (.bool false) := by rw [World.cell?_alloc_new]; rfl
     have f0 : (wq.alloc (.cells #[.string ⟨#[]⟩, .bool false] 135)).frozen? ⟨wq.heap.size, 0, none⟩ = false := by rw [zz, if_pos rfl]
     have f1 : (wq.alloc (.cells #[.string ⟨#[]⟩, .bool false] 135)).frozen? ⟨wq.heap.size, 1, none⟩ = false := by rw [zz, if_pos rfl]
     have HZ : Hid ((wq.alloc (.cells #[.string ⟨#[]⟩, .bool false] 135)).heap[wq.heap.size]? = some (.cells #[.string ⟨#[]⟩, .bool false] 135 (0, 0))) := zwe (by rw [heap_alloc, if_pos rfl])
     have HBZ := zwe hbZ
     have hgZ : g ≠ wq.heap.size := by have := HBX.out.size; omega
     clear hbZ
     go_wp2_with fail
     generalize wq.alloc (.cells #[.string ⟨#[]⟩, .bool false] 135) = W1 at *
     go_region_held3 (fun W' => W'.cell? ⟨g, off + i * 3, none⟩ = some (.string ⟨L[i].1.toArray⟩) /\ W'.cell? ⟨g, off + i * 3 + 1, none⟩ = some (.bool L[i].2) /\ W'.cell? ⟨g, off + i * 3 + 2, none⟩ = some (.bool (!V.par xa i)))
      (first
        | (exact ⟨h0, h1, h2⟩)
        | (exact ⟨xl hgZ h0, xl hgZ h1, xl hgZ h2⟩)
        | go_keep)
      (fail)
     have hw2 := zo0 (u := .string ⟨L[i].1.toArray⟩) (v := .bool L[i].2) HZ.out
     have HW2 := zwe hw2.here
     have HBW := zwe (HBX.out.trans (hw2.below HBZ.out (zwg _) |>.mono HBX.out.size))
     have HR2 : Hid (BRow (((W1.setCell ⟨wq.heap.size, 0, none⟩ (.string ⟨L[i].1.toArray⟩)).setCell ⟨wq.heap.size, 1, none⟩ (.bool L[i].2)).drew) w4.heap.size (.slice oa (V.alt (f xa xb) R).length oc) (V.alt (f xa xb) R)) := zwe (GRow.below HRX.out (hw2.below HBZ.out (zwg _)))
     clear hw2 z0 z1 f0 f1 h0 h1 h2
     generalize ((W1.setCell ⟨wq.heap.size, 0, none⟩ (.string ⟨L[i].1.toArray⟩)).setCell ⟨wq.heap.size, 1, none⟩ (.bool L[i].2)).drew = W2 at *
     go_wp2_with fail
     refine (HK.out (!V.par xa i) (V.par xb j) W2).mono ?_
     rintro e w' ⟨rfl, rfl⟩
     have HST := zwe (V.step_l (n := n) (f := f) (x := V.par xa i) (y := V.par xb j) hil (.inr ⟨hjl, by rw [HZC.out]; exact hz1⟩))
     have HNEXT := zwe (HINV.out.next (i' := (i + 1)) (j' := j) (c := L[i]) (by omega) (by omega) HST.out (V.zy _ _) rfl (by omega))
     have HPX : Hid (V.par xa (i + 1) = !V.par xa i) := zwe (V.zy _ _)
     have HPY : Hid (V.par xb (j + 1) = !V.par xb j) := zwe (V.zy _ _)
     have hlenR := HINV.out.len
     obtain ⟨cc, hcc⟩ : ∃ cc : V.Cut, cc = L[i] := ⟨_, rfl⟩
     rw [← hcc] at HNEXT
     have c0 : W2.cell? ⟨wq.heap.size, 0, none⟩ = some (.string ⟨cc.1.toArray⟩) := by rw [hcc]; exact zwd HW2.out 0
     have c1 : W2.cell? ⟨wq.heap.size, 1, none⟩ = some (.bool cc.2) := by rw [hcc]; exact zwd HW2.out 1
     clear hcc HST
     generalize f (!V.par xa i) (V.par xb j) = fx at *
     exact zwl
    ·by_cases hz2 : 0 < z
     ·have hz3 : 0 ≤ z := by omega
      have hz4 : ¬ z ≤ 0 := by omega
      have hz5 : (z == 0) = false := by rw [zwi]; omega
      have hbN : Below wq.heap.size wq (wq.alloc (.cells #[.string ⟨M[j].1.toArray⟩, .bool M[j].2] 135)) := (zwh _ wq).alloc (zwg _) _
      have mk2 := za hbN mh2
      have hbZ : Below wq.heap.size wq (wq.alloc (.cells #[.string ⟨#[]⟩, .bool false] 135)) := (zwh _ wq).alloc (zwg _) _
      replace mh0 := za hbZ mh0
      replace mh1 := za hbZ mh1
      replace mh2 := za hbZ mh2
      have HW2 : Hid ((wq.alloc (.cells #[.string ⟨M[j].1.toArray⟩, .bool M[j].2] 135)).heap[wq.heap.size]? = some (.cells #[.string ⟨M[j].1.toArray⟩, .bool M[j].2] 135 (0, 0))) := zwe (by rw [heap_alloc, if_pos rfl])
      have HBW := zwf HBX hbN
      have HR2 : Hid (BRow (wq.alloc (.cells #[.string ⟨M[j].1.toArray⟩, .bool M[j].2] 135)) w4.heap.size (.slice oa (V.alt (f xa xb) R).length oc) (V.alt (f xa xb) R)) := zwe (GRow.below HRX.out hbN)
      have hgZ2 : g2 ≠ wq.heap.size := by have := HBX.out.size; omega
      clear hbN hbZ
      go_wp2_with fail
      generalize wq.alloc (.cells #[.string ⟨M[j].1.toArray⟩, .bool M[j].2] 135) = W2 at *
      refine (HK.out (V.par xa i) (!V.par xb j) W2).mono ?_
      rintro e w' ⟨rfl, rfl⟩
      have HST := zwe (V.step_r (n := n) (f := f) (x := V.par xa i) (y := V.par xb j) hjl (.inr ⟨hil, by rw [HZC.out]; exact hz2⟩))
      have HNEXT := zwe (HINV.out.next (i' := i) (j' := (j + 1)) (c := M[j]) (by omega) (by omega) HST.out rfl (V.zy _ _) (by omega))
      have HPX : Hid (V.par xa (i + 1) = !V.par xa i) := zwe (V.zy _ _)
      have HPY : Hid (V.par xb (j + 1) = !V.par xb j) := zwe (V.zy _ _)
      have hlenR := HINV.out.len
      obtain ⟨cc, hcc⟩ : ∃ cc : V.Cut, cc = M[j] := ⟨_, rfl⟩
      rw [← hcc] at HNEXT
      have c0 : W2.cell? ⟨wq.heap.size, 0, none⟩ = some (.string ⟨cc.1.toArray⟩) := by rw [hcc]; exact zwd HW2.out 0
      have c1 : W2.cell? ⟨wq.heap.size, 1, none⟩ = some (.bool cc.2) := by rw [hcc]; exact zwd HW2.out 1
      clear hcc HST
      generalize f (V.par xa i) (!V.par xb j) = fx at *
      exact zwl
     ·obtain rfl : z = 0 := by omega
      have hbZ : Below wq.heap.size wq (wq.alloc (.cells #[.string ⟨#[]⟩, .bool false] 135)) := (zwh _ wq).alloc (zwg _) _
      replace h0 := za hbZ h0
      replace h1 := za hbZ h1
      replace h2 := za hbZ h2
      replace mh0 := za hbZ mh0
      replace mh1 := za hbZ mh1
      replace mh2 := za hbZ mh2
      have z0 : (wq.alloc (.cells #[.string ⟨#[]⟩, .bool false] 135)).cell? ⟨wq.heap.size, 0, none⟩ = some (.string ⟨#[]⟩) := by rw [World.cell?_alloc_new]; rfl
      have z1 : (wq.alloc (.cells #[.string ⟨#[]⟩, .bool false] 135)).cell? ⟨wq.heap.size, 1, none⟩ = some (.bool false) := by rw [World.cell?_alloc_new]; rfl
      have f0 : (wq.alloc (.cells #[.string ⟨#[]⟩, .bool false] 135)).frozen? ⟨wq.heap.size, 0, none⟩ = false := by rw [zz, if_pos rfl]
      have f1 : (wq.alloc (.cells #[.string ⟨#[]⟩, .bool false] 135)).frozen? ⟨wq.heap.size, 1, none⟩ = false := by rw [zz, if_pos rfl]
      have HZ : Hid ((wq.alloc (.cells #[.string ⟨#[]⟩, .bool false] 135)).heap[wq.heap.size]? = some (.cells #[.string ⟨#[]⟩, .bool false] 135 (0, 0))) := zwe (by rw [heap_alloc, if_pos rfl])
      have HBZ := zwe hbZ
      have hgZ : g ≠ wq.heap.size := by have := HBX.out.size; omega
      clear hbZ
      go_wp2_with fail
      generalize wq.alloc (.cells #[.string ⟨#[]⟩, .bool false] 135) = W1 at *
      go_region_held3 (fun W' => W'.cell? ⟨g, off + i * 3, none⟩ = some (.string ⟨L[i].1.toArray⟩) /\ W'.cell? ⟨g, off + i * 3 + 1, none⟩ = some (.bool L[i].2) /\ W'.cell? ⟨g, off + i * 3 + 2, none⟩ = some (.bool (!V.par xa i)))
       (first
         | (exact ⟨h0, h1, h2⟩)
         | (exact ⟨xl hgZ h0, xl hgZ h1, xl hgZ h2⟩)
         | go_keep)
       (fail)
      have hw2 := zo0 (u := .string ⟨L[i].1.toArray⟩) (v := .bool L[i].2) HZ.out
      have hgZ2 : g2 ≠ wq.heap.size := by have := HBX.out.size; omega
      have HZ2 := zwe hw2.here
      have HBZ2 := zwe (hw2.below HBZ.out (zwg _))
      have n0 := xl (u := .string ⟨L[i].1.toArray⟩) (v := .bool L[i].2) hgZ2 mh0
      have n2 := xl (u := .string ⟨L[i].1.toArray⟩) (v := .bool L[i].2) hgZ2 mh2
      clear hw2 z0 z1 f0 f1 h0 h1 h2 mh0 mh1 mh2
      generalize ((W1.setCell ⟨wq.heap.size, 0, none⟩ (.string ⟨L[i].1.toArray⟩)).setCell ⟨wq.heap.size, 1, none⟩ (.bool L[i].2)).drew = W5 at *
      have y0 : W5.cell? ⟨wq.heap.size, 0, none⟩ = some (.string ⟨L[i].1.toArray⟩) := zwd HZ2.out 0
      have yf : W5.frozen? ⟨wq.heap.size, 0, none⟩ = false := Lib.frozen_of_heap HZ2.out 0
      go_wp2_with fail
      go_still_tail 8, (by kernel_rfl)
      change wpList _ _ _ _ _ W5.drew
      have hbd : Below W5.heap.size W5 W5.drew := (zwh _ W5).drew
      have HZ6 : Hid (W5.drew.heap[wq.heap.size]? = some (.cells #[.string ⟨L[i].1.toArray⟩, .bool L[i].2] 135 (0, 0))) := HZ2
      have HB6 := zwf HBZ2 hbd
      have k2 := za hbd n2
      clear hbd n0 n2 y0 yf HZ2 HBZ2
      generalize W5.drew = W6 at *
      go_wp2_with fail
      refine (zs8 L[i].1 M[j].1 _).mono ?_
      rintro e w' ⟨rfl, rfl⟩
      go_wp2_with (first | (refine zan rfl 9 _ _ rfl wq.heap.size 0 #[.string ⟨L[i].1.toArray⟩, .bool L[i].2] _ HZ6.out (by simp) rfl (.string ⟨(V.lesser L[i].1 M[j].1).toArray⟩) rfl zoz rfl ?_; intro W2 hp2; have q2 := hp2.cell k2 hgZ2) | fail)
      have HW2 : Hid (W2.heap[wq.heap.size]? = some (.cells #[.string ⟨(V.lesser L[i].1 M[j].1).toArray⟩, .bool L[i].2] 135 (0, 0))) := zwe hp2.here
      have hbw := hp2.below HB6.out (zwg _)
      have HBW := zwf HBX hbw
      have HR2 : Hid (BRow W2 w4.heap.size (.slice oa (V.alt (f xa xb) R).length oc) (V.alt (f xa xb) R)) := zwe (GRow.below HRX.out hbw)
      clear hbw hp2 k2
      refine (HK.out (!V.par xa i) (!V.par xb j) W2).mono ?_
      rintro e w' ⟨rfl, rfl⟩
      have HST := zwe (V.step_b (n := n) (f := f) (x := V.par xa i) (y := V.par xb j) hil hjl HZC.out)
      have HNEXT := zwe (HINV.out.next (i' := (i + 1)) (j' := (j + 1)) (c := (V.lesser L[i].1 M[j].1, L[i].2)) (by omega) (by omega) HST.out (V.zy _ _) (V.zy _ _) (by omega))
      have HPX : Hid (V.par xa (i + 1) = !V.par xa i) := zwe (V.zy _ _)
      have HPY : Hid (V.par xb (j + 1) = !V.par xb j) := zwe (V.zy _ _)
      have hlenR := HINV.out.len
      obtain ⟨cc, hcc⟩ : ∃ cc : V.Cut, cc = (V.lesser L[i].1 M[j].1, L[i].2) := ⟨_, rfl⟩
      rw [← hcc] at HNEXT
      have c0 : W2.cell? ⟨wq.heap.size, 0, none⟩ = some (.string ⟨cc.1.toArray⟩) := by rw [hcc]; exact zwd HW2.out 0
      have c1 : W2.cell? ⟨wq.heap.size, 1, none⟩ = some (.bool cc.2) := by rw [hcc]; exact zwd HW2.out 1
      clear hcc HST
      generalize f (!V.par xa i) (!V.par xb j) = fx at *
      exact zwl
   ·obtain rfl : j = M.length := by omega
    have HBX := zwe HINV.out.below
    have HRX := zwe HINV.out.row
    obtain ⟨g, off, rfl, hgl, h0, h1, h2⟩ := HL3.out.at i (by rw [HLL.out]; exact hil)
    have hge : (V.alt xa L)[i]'(by rw [HLL.out]; exact hil) = (L[i], !V.par xa i) := by
     exact z0b
    rw [hge] at h0 h1 h2
    replace h0 := za HINV.out.below h0
    replace h1 := za HINV.out.below h1
    replace h2 := za HINV.out.below h2
    have hi1 : (0 : Int) ≤ (i : Int) := by omega
    have hi2 : (i : Int) < (L.length : Int) := by omega
    clear hge
    have hbZ : Below wr.heap.size wr (wr.alloc (.cells #[.string ⟨#[]⟩, .bool false] 135)) := (zwh _ wr).alloc (zwg _) _
    replace h0 := za hbZ h0
    replace h1 := za hbZ h1
    replace h2 := za hbZ h2
    have z0 : (wr.alloc (.cells #[.string ⟨#[]⟩, .bool false] 135)).cell? ⟨wr.heap.size, 0, none⟩ = some (.string ⟨#[]⟩) := by rw [World.cell?_alloc_new]; rfl
    have z1 : (wr.alloc (.cells #[.string ⟨#[]⟩, .bool false] 135)).cell? ⟨wr.heap.size, 1, none⟩ = some (.bool false) := by rw [World.cell?_alloc_new]; rfl
    have f0 : (wr.alloc (.cells #[.string ⟨#[]⟩, .bool false] 135)).frozen? ⟨wr.heap.size, 0, none⟩ = false := by rw [zz, if_pos rfl]
    have f1 : (wr.alloc (.cells #[.string ⟨#[]⟩, .bool false] 135)).frozen? ⟨wr.heap.size, 1, none⟩ = false := by rw [zz, if_pos rfl]
    have HZ : Hid ((wr.alloc (.cells #[.string ⟨#[]⟩, .bool false] 135)).heap[wr.heap.size]? = some (.cells #[.string ⟨#[]⟩, .bool false] 135 (0, 0))) := zwe (by rw [heap_alloc, if_pos rfl])
    have HBZ := zwe hbZ
    have hgZ : g ≠ wr.heap.size := by have := HBX.out.size; omega
    clear hbZ
    go_wp2_with fail
    generalize wr.alloc (.cells #[.string ⟨#[]⟩, .bool false] 135) = W1 at *
    go_region_held3 (fun W' => W'.cell? ⟨g, off + i * 3, none⟩ = some (.string ⟨L[i].1.toArray⟩) /\ W'.cell? ⟨g, off + i * 3 + 1, none⟩ = some (.bool L[i].2) /\ W'.cell? ⟨g, off + i * 3 + 2, none⟩ = some (.bool (!V.par xa i)))
     (first
       | (exact ⟨h0, h1, h2⟩)
       | (exact ⟨xl hgZ h0, xl hgZ h1, xl hgZ h2⟩)
       | go_keep)
     (fail)
    have hw2 := zo0 (u := .string ⟨L[i].1.toArray⟩) (v := .bool L[i].2) HZ.out
    have HW2 := zwe hw2.here
    have HBW := zwe (HBX.out.trans (hw2.below HBZ.out (zwg _) |>.mono HBX.out.size))
    have HR2 : Hid (BRow (((W1.setCell ⟨wr.heap.size, 0, none⟩ (.string ⟨L[i].1.toArray⟩)).setCell ⟨wr.heap.size, 1, none⟩ (.bool L[i].2)).drew) w4.heap.size (.slice oa (V.alt (f xa xb) R).length oc) (V.alt (f xa xb) R)) := zwe (GRow.below HRX.out (hw2.below HBZ.out (zwg _)))
    clear hw2 z0 z1 f0 f1 h0 h1 h2
    generalize ((W1.setCell ⟨wr.heap.size, 0, none⟩ (.string ⟨L[i].1.toArray⟩)).setCell ⟨wr.heap.size, 1, none⟩ (.bool L[i].2)).drew = W2 at *
    go_wp2_with fail
    refine (HK.out (!V.par xa i) (V.par xb M.length) W2).mono ?_
    rintro e w' ⟨rfl, rfl⟩
    have HST := zwe (V.step_l (n := n) (f := f) (x := V.par xa i) (y := V.par xb M.length) (M := M) (j := M.length) hil (.inl rfl))
    have HNEXT := zwe (HINV.out.next (i' := (i + 1)) (j' := M.length) (c := L[i]) (by omega) (by omega) HST.out (V.zy _ _) rfl (by omega))
    have HPX : Hid (V.par xa (i + 1) = !V.par xa i) := zwe (V.zy _ _)
    have HPY : Hid (V.par xb (M.length + 1) = !V.par xb M.length) := zwe (V.zy _ _)
    have hlenR := HINV.out.len
    obtain ⟨cc, hcc⟩ : ∃ cc : V.Cut, cc = L[i] := ⟨_, rfl⟩
    rw [← hcc] at HNEXT
    have c0 : W2.cell? ⟨wr.heap.size, 0, none⟩ = some (.string ⟨cc.1.toArray⟩) := by rw [hcc]; exact zwd HW2.out 0
    have c1 : W2.cell? ⟨wr.heap.size, 1, none⟩ = some (.bool cc.2) := by rw [hcc]; exact zwd HW2.out 1
    clear hcc HST
    generalize f (!V.par xa i) (V.par xb M.length) = fx at *
    exact zwl
  ·obtain rfl : i = L.length := by omega
   by_cases hjl : j < M.length
   ·have HBX := zwe HINV.out.below
    have HRX := zwe HINV.out.row
    have hq1 : ((j : Int) == (M.length : Int)) = false := by rw [zwi]; omega
    obtain ⟨g2, off2, rfl, mhgl, mh0, mh1, mh2⟩ := HM3.out.at j (by rw [HML.out]; exact hjl)
    have mhge : (V.alt xb M)[j]'(by rw [HML.out]; exact hjl) = (M[j], !V.par xb j) := by
     exact z0a
    rw [mhge] at mh0 mh1 mh2
    replace mh0 := za HINV.out.below mh0
    replace mh1 := za HINV.out.below mh1
    replace mh2 := za HINV.out.below mh2
    have mhi1 : (0 : Int) ≤ (j : Int) := by omega
    have mhi2 : (j : Int) < (M.length : Int) := by omega
    clear mhge
    have hbN : Below wr.heap.size wr (wr.alloc (.cells #[.string ⟨M[j].1.toArray⟩, .bool M[j].2] 135)) := (zwh _ wr).alloc (zwg _) _
    have mk2 := za hbN mh2
    have hbZ : Below wr.heap.size wr (wr.alloc (.cells #[.string ⟨#[]⟩, .bool false] 135)) := (zwh _ wr).alloc (zwg _) _
    replace mh0 := za hbZ mh0
    replace mh1 := za hbZ mh1
    replace mh2 := za hbZ mh2
    have HW2 : Hid ((wr.alloc (.cells #[.string ⟨M[j].1.toArray⟩, .bool M[j].2] 135)).heap[wr.heap.size]? = some (.cells #[.string ⟨M[j].1.toArray⟩, .bool M[j].2] 135 (0, 0))) := zwe (by rw [heap_alloc, if_pos rfl])
    have HBW := zwf HBX hbN
    have HR2 : Hid (BRow (wr.alloc (.cells #[.string ⟨M[j].1.toArray⟩, .bool M[j].2] 135)) w4.heap.size (.slice oa (V.alt (f xa xb) R).length oc) (V.alt (f xa xb) R)) := zwe (GRow.below HRX.out hbN)
    have hgZ2 : g2 ≠ wr.heap.size := by have := HBX.out.size; omega
    clear hbN hbZ
    go_wp2_with fail
    generalize wr.alloc (.cells #[.string ⟨M[j].1.toArray⟩, .bool M[j].2] 135) = W2 at *
    refine (HK.out (V.par xa L.length) (!V.par xb j) W2).mono ?_
    rintro e w' ⟨rfl, rfl⟩
    have HST := zwe (V.step_r (n := n) (f := f) (x := V.par xa L.length) (y := V.par xb j) (L := L) (i := L.length) hjl (.inl rfl))
    have HNEXT := zwe (HINV.out.next (i' := L.length) (j' := (j + 1)) (c := M[j]) (by omega) (by omega) HST.out rfl (V.zy _ _) (by omega))
    have HPX : Hid (V.par xa (L.length + 1) = !V.par xa L.length) := zwe (V.zy _ _)
    have HPY : Hid (V.par xb (j + 1) = !V.par xb j) := zwe (V.zy _ _)
    have hlenR := HINV.out.len
    obtain ⟨cc, hcc⟩ : ∃ cc : V.Cut, cc = M[j] := ⟨_, rfl⟩
    rw [← hcc] at HNEXT
    have c0 : W2.cell? ⟨wr.heap.size, 0, none⟩ = some (.string ⟨cc.1.toArray⟩) := by rw [hcc]; exact zwd HW2.out 0
    have c1 : W2.cell? ⟨wr.heap.size, 1, none⟩ = some (.bool cc.2) := by rw [hcc]; exact zwd HW2.out 1
    clear hcc HST
    generalize f (V.par xa L.length) (!V.par xb j) = fx at *
    exact zwl
   ·obtain rfl : j = M.length := by omega
    have HRES : Hid (V.comb n f xa xb (f xa xb) L M = R) := zwe (by
      rw [HINV.out.res, List.drop_length, List.drop_length, V.comb, List.append_nil])
    have hsc : wr.cell? ⟨w.heap.size, 0, none⟩ = some (.int .i64 n) := zwd ((HINV.out.below.block _ (Array.getElem?_eq_some_iff.1 HK3.out.1).1).trans HK3.out.1) 0
    have HK6 := zwe ((HINV.out.below.block _ (Array.getElem?_eq_some_iff.1 HK3.out.2).1).trans HK3.out.2)
    have hlen := HINV.out.len
    have HBW := zwe (HB3.out.trans (HINV.out.below.mono HB3.out.size))
    go_wp2_with fail
    refine (zq3 n (f xa xb) _ R wr (BRow.bords HINV.out.row) (by omega)).mono ?_
    rintro e W9 ⟨u, rfl, hu, how, hb9⟩
    obtain ⟨ua, uc, rfl⟩ := hu.slice
    have HOW := zwe how
    have hszr := (Array.getElem?_eq_some_iff.1 HK6.out).1
    have HU := zwe hu
    have HK9 := zwe ((hb9.block _ (Array.getElem?_eq_some_iff.1 HK6.out).1).trans HK6.out)
    have HB9 := zwf HBW hb9
    clear hu hb9 hsc how
    unfold setV
    go_wp2_with (first | (refine zi rfl 45 _ _ rfl (w.heap.size + 1 + 1) #[.int .i64 0, .slice none 0 0] _ HK9.out rfl #[.int .i64 n, .slice ua (V.ofC (V.start (f xa xb)) R).length uc] rfl rfl (by kernel_rfl) (zt _ _ _ _) ?_; intro W2 hp2; have z0 : W2.cell? ⟨w.heap.size + 1 + 1, 0, none⟩ = some (.int .i64 n) := zwd hp2.here 0; have z1 : W2.cell? ⟨w.heap.size + 1 + 1, 1, none⟩ = some (.slice ua (V.ofC (V.start (f xa xb)) R).length uc) := zwd hp2.here 1) | fail)
    have HIV : Hid (Itvs W2 (.slice ua (V.ofC (V.start (f xa xb)) R).length uc) (V.opL n f a b)) := zwe (by rw [HOP.out, HRES.out]; exact hp2.itvs HU.out (fun c hc => by have := HOW.out c hc; omega))
    have HBF := zwe (hp2.below HB9.out (by omega))
    have HOF : Hid (∀ c, (Value.slice ua (V.ofC (V.start (f xa xb)) R).length uc).ownBlock = some c -> w.heap.size ≤ c) := zwe (fun c hc => by have := HOW.out c hc; omega)
    clear hp2
    exact bodyPost_ret (v := .agg #[.int .i64 n, .slice ua (V.ofC (V.start (f xa xb)) R).length uc]) (by simp [results, Tryz.results139, go_sem, z0, z1]) rfl ⟨_, rfl, HIV.out, HOF.out, HBF.out⟩
end Go.Proofs.YtcfbkcapbbhmpaaGreatDoor
