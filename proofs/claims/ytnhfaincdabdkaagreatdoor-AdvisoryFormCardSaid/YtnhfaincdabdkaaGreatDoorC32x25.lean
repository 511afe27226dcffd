/-
  Lemmas for the law.
-/
import Derived.Test.YtnhfaincdabdkaaGreatDoorC32x24
import Derived.StillTailTactics
set_option linter.all false
set_option maxRecDepth 100000
set_option maxHeartbeats 6400000
namespace Go.Proofs.YtnhfaincdabdkaaGreatDoor
open Go.RowKit
theorem uj : ∀ a b : V.Bs, Op.bytesLess a b = decide (V.cb a b < 0)
 | [], [] => rfl
 | [], _ :: _ => rfl
 | _ :: _, [] => rfl
 | x :: a, y :: b => by
  unfold Op.bytesLess
  rcases V.zh9 x y a b with ⟨h, e⟩ | ⟨h, e⟩ | ⟨h, e⟩
  ·rw [e]; simp [h]
  ·subst h
   have : ¬ x < x := by simp
   rw [e, ← uj a b]; simp [this]
  ·exact zxb
theorem zxj {P : Prop} (h : P := by
 clear h
 go_enter Tryz.func230, Tryz.ntmps230
 go_wp2
 go_ret
 exact ⟨by rw [HR.out]; rfl, rfl⟩) : P := h
theorem zrg (a b : V.Bs) (w : World) : Calls Tryz.prog 230 #[.string ⟨a.toArray⟩, .string ⟨b.toArray⟩] w fun e w' => e = .returned (.string ⟨(V.lesser a b).toArray⟩) /\ w = w' := by
 have HF : Hid (V.lesser a b = if Lib.compareBytes b a < 0 then b else a) := zuq rfl
 by_cases h : Lib.compareBytes b a < 0
 ·have HR : Hid (V.lesser a b = b) := zuq (by rw [HF.out, if_pos h])
  have hl : Op.bytesLess b a = true := by rw [uj]; exact decide_eq_true h
  exact zxj
 ·have HR : Hid (V.lesser a b = a) := zuq (by rw [HF.out, if_neg h])
  have hl : Op.bytesLess b a = false := by rw [uj]; exact decide_eq_false h
  exact zxj
theorem PutAt.itvs {w W : World} {g : Nat} {new : Array Value} {t : TypeId} {u : Value} {l : List V.Itv} (h : PutAt w W g new t) (hu : Itvs w u l) (hne : ∀ c, u.ownBlock = some c -> c ≠ g) : Itvs W u l := by
 obtain ⟨a, cap, rfl, hc⟩ := hu
 refine ⟨a, cap, rfl, fun j hj => ?_⟩
 obtain ⟨b, off, rfl, hlt, h0, h1, h2, h3⟩ := hc j hj
 have hb := hne b rfl
 exact ⟨b, off, rfl, by rw [h.size]; exact hlt, h.cell h0 hb, h.cell h1 hb, h.cell h2 hb, h.cell h3 hb⟩
theorem xc {W : World} {Z g o : Nat} {u v x : Value} (hne : g ≠ Z) (h : W.cell? ⟨g, o, none⟩ = some x) : ((W.setCell ⟨Z, 0, none⟩ u).setCell ⟨Z, 1, none⟩ v).drew.cell? ⟨g, o, none⟩ = some x := by
 rw [World.cell?_drew, World.cell?_setCell_other _ _ _ _ (by intro e; injection e with e1; exact hne e1.symm), World.cell?_setCell_other _ _ _ _ (by intro e; injection e with e1; exact hne e1.symm)]
 exact h
theorem zna {W : World} {Z : Nat} {p q u v : Value} {t : TypeId} (hZ : W.heap[Z]? = some (.cells #[p, q] t (0, 0))) : PutAt W (((W.setCell ⟨Z, 0, none⟩ u).setCell ⟨Z, 1, none⟩ v).drew) Z #[u, v] t := by
 have h1 := zgv (o := 0) hZ u
 have h2 := zgv (o := 1) h1.here v
 exact ⟨h2.here, h2.size.trans h1.size, World.grownBy.trans (World.grownBy.trans h1.grown h2.grown) ⟨rfl, rfl, rfl, zus _, fun _ _ _ => rfl⟩⟩
namespace V
theorem step_l {n : Int} {f : Bool -> Bool -> Bool} {x y : Bool} {L M : List Cut} {i j : Nat} (hi : i < L.length) (h : j = M.length ∨ ∃ hj : j < M.length, cutC n L[i] M[j] < 0) :
  comb n f x y (f x y) (L.drop i) (M.drop j) = emit L[i] (f (!x) y) (f x y) (comb n f (!x) y (f (!x) y) (L.drop (i + 1)) (M.drop j)) := by
 rw [List.drop_eq_getElem_cons hi]
 rcases h with rfl | ⟨hj, h⟩
 ·rw [List.drop_length]; exact zry ..
 ·rw [List.drop_eq_getElem_cons hj]; exact zn8 h
theorem step_r {n : Int} {f : Bool -> Bool -> Bool} {x y : Bool} {L M : List Cut} {i j : Nat} (hj : j < M.length) (h : i = L.length ∨ ∃ hi : i < L.length, 0 < cutC n L[i] M[j]) :
  comb n f x y (f x y) (L.drop i) (M.drop j) = emit M[j] (f x (!y)) (f x y) (comb n f x (!y) (f x (!y)) (L.drop i) (M.drop (j + 1))) := by
 rw [List.drop_eq_getElem_cons hj]
 rcases h with rfl | ⟨hi, h⟩
 ·rw [List.drop_length]; exact zrv ..
 ·rw [List.drop_eq_getElem_cons hi]; exact zoq h
theorem step_b {n : Int} {f : Bool -> Bool -> Bool} {x y : Bool} {L M : List Cut} {i j : Nat} (hi : i < L.length) (hj : j < M.length) (h : cutC n L[i] M[j] = 0) :
  comb n f x y (f x y) (L.drop i) (M.drop j) = emit (lesser L[i].1 M[j].1, L[i].2) (f (!x) (!y)) (f x y) (comb n f (!x) (!y) (f (!x) (!y)) (L.drop (i + 1)) (M.drop (j + 1))) := by
 rw [List.drop_eq_getElem_cons hi, List.drop_eq_getElem_cons hj]
 exact zok h
end V
structure CbInv (n : Int) (f : Bool -> Bool -> Bool) (xa xb : Bool) (L M : List V.Cut) (W0 : World) (i j : Nat) (R : List V.Cut) (out : Value) (W : World) : Prop where
 hi : i ≤ L.length
 hj : j ≤ M.length
 row : BRow W W0.heap.size out (V.alt (f xa xb) R)
 now : f (V.par xa i) (V.par xb j) = V.par (f xa xb) R.length
 res : V.comb n f xa xb (f xa xb) L M = R ++ V.comb n f (V.par xa i) (V.par xb j) (f (V.par xa i) (V.par xb j)) (L.drop i) (M.drop j)
 below : Below W0.heap.size W0 W
 len : R.length ≤ i + j
theorem CbInv.next {n : Int} {f : Bool -> Bool -> Bool} {xa xb : Bool} {L M : List V.Cut} {W0 W : World} {i j : Nat} {R : List V.Cut} {out : Value} (h : CbInv n f xa xb L M W0 i j R out W) {i' j' : Nat} {c : V.Cut} (hi : i' ≤ L.length) (hj : j' ≤ M.length)
  {x' y' : Bool} (hst : V.comb n f (V.par xa i) (V.par xb j) (f (V.par xa i) (V.par xb j)) (L.drop i) (M.drop j) = V.emit c (f x' y') (f (V.par xa i) (V.par xb j)) (V.comb n f x' y' (f x' y') (L.drop i') (M.drop j'))) (hx : V.par xa i' = x') (hy : V.par xb j' = y') (hlen : i + j + 1 ≤ i' + j') (out' : Value) (W' : World) (hB : Below W0.heap.size W0 W') :
  (f x' y' = V.par (f xa xb) R.length -> BRow W' W0.heap.size out' (V.alt (f xa xb) R) -> CbInv n f xa xb L M W0 i' j' R out' W') /\
  (f x' y' ≠ V.par (f xa xb) R.length -> BRow W' W0.heap.size out' (V.alt (f xa xb) R ++ [(c, !V.par (f xa xb) R.length)]) -> CbInv n f xa xb L M W0 i' j' (R ++ [c]) out' W') := by
 have hr := h.res
 rw [hst] at hr
 have hl := h.len
 subst hx hy
 constructor
 ·intro he hrow
  refine ⟨hi, hj, hrow, he, ?_, hB, by omega⟩
  rw [hr, h.now]
  unfold V.emit
  rw [if_pos he]
 ·intro he hrow
  refine ⟨hi, hj, ?_, ?_, ?_, hB, by simp; omega⟩
  ·rw [V.zqf]; exact hrow
  ·rw [List.length_append, List.length_singleton, V.zv]
   cases hq : f (V.par xa i') (V.par xb j') <;> cases hp : V.par (f xa xb) R.length <;> simp_all
  ·rw [hr, h.now]
   unfold V.emit
   rw [if_neg he, List.append_assoc]
   rfl
theorem zv5 {P : Prop} (h : P := by
 have HNW := zuq hnw
 clear hnw
 have HIN := zuq ((HNEXT.out _ W2 HBW.out).1 (by rw [HNX.out, HNW.out]) HR2.out)
 go_wp2
 go_roundw
 case rel => exact ⟨(i + 1), (j + 1), R, by go_num, by go_num, by rw [HPX.out], by rw [HPY.out], by rw [HNW.out], HIN.out⟩
 case measure => simp [intOf]; omega) : P := h
theorem zv9 {P : Prop} (h : P := by
 have HNW := zuq hnw
 clear hnw
 have HIN := zuq ((HNEXT.out _ W2 HBW.out).1 (by rw [HNX.out, HNW.out]) HR2.out)
 go_wp2
 go_roundw
 case rel => exact ⟨L.length, (j + 1), R, by go_num, by go_num, rfl, by rw [HPY.out], by rw [HNW.out], HIN.out⟩
 case measure => simp [intOf]; omega) : P := h
theorem zwa {P : Prop} (h : P := by
 have HNW := zuq hnw
 clear hnw
 have HIN := zuq ((HNEXT.out _ W2 HBW.out).1 (by rw [HNX.out, HNW.out]) HR2.out)
 go_wp2
 go_roundw
 case rel => exact ⟨(i + 1), M.length, R, by go_num, by go_num, by rw [HPX.out], rfl, by rw [HNW.out], HIN.out⟩
 case measure => simp [intOf]; omega) : P := h
theorem zwc {P : Prop} (h : P := by
 have HNW := zuq hnw
 clear hnw
 have HIN := zuq ((HNEXT.out _ W2 HBW.out).1 (by rw [HNX.out, HNW.out]) HR2.out)
 go_wp2
 go_roundw
 case rel => exact ⟨i, (j + 1), R, by go_num, by go_num, rfl, by rw [HPY.out], by rw [HNW.out], HIN.out⟩
 case measure => simp [intOf]; omega) : P := h
theorem zwd {P : Prop} (h : P := by
 have HNW := zuq hnw
 clear hnw
 have HIN := zuq ((HNEXT.out _ W2 HBW.out).1 (by rw [HNX.out, HNW.out]) HR2.out)
 go_wp2
 go_roundw
 case rel => exact ⟨(i + 1), j, R, by go_num, by go_num, by rw [HPX.out], rfl, by rw [HNW.out], HIN.out⟩
 case measure => simp [intOf]; omega) : P := h
theorem zwl {P : Prop} (h : P := by
 clear hr9 hg9 hb9 c0 c1
 go_roundw
 case rel => exact ⟨(i + 1), (j + 1), R ++ [(V.lesser L[i].1 M[j].1, L[i].2)], by go_num, by go_num, by rw [HPX.out], by rw [HPY.out], by rw [HPN.out], HIN.out⟩
 case measure => simp [intOf]; omega) : P := h
theorem zwx {P : Prop} (h : P := by
 clear hr9 hg9 hb9 c0 c1
 go_roundw
 case rel => exact ⟨L.length, (j + 1), R ++ [M[j]], by go_num, by go_num, rfl, by rw [HPY.out], by rw [HPN.out], HIN.out⟩
 case measure => simp [intOf]; omega) : P := h
theorem zwy {P : Prop} (h : P := by
 clear hr9 hg9 hb9 c0 c1
 go_roundw
 case rel => exact ⟨(i + 1), M.length, R ++ [L[i]], by go_num, by go_num, by rw [HPX.out], rfl, by rw [HPN.out], HIN.out⟩
 case measure => simp [intOf]; omega) : P := h
theorem zw0 {P : Prop} (h : P := by
 clear hr9 hg9 hb9 c0 c1
 go_roundw
 case rel => exact ⟨i, (j + 1), R ++ [M[j]], by go_num, by go_num, rfl, by rw [HPY.out], by rw [HPN.out], HIN.out⟩
 case measure => simp [intOf]; omega) : P := h
theorem zw1 {P : Prop} (h : P := by
 clear hr9 hg9 hb9 c0 c1
 go_roundw
 case rel => exact ⟨(i + 1), j, R ++ [L[i]], by go_num, by go_num, by rw [HPX.out], rfl, by rw [HPN.out], HIN.out⟩
 case measure => simp [intOf]; omega) : P := h
theorem zw9 {P : Prop} (h : P := by
 have h1 := V.zgo xb M j hjl
 have := List.getElem?_eq_getElem (l := V.alt xb M) (i := j) (by rw [HML.out]; exact hjl)
 rw [h1, V.zv] at this
 exact (Option.some.inj this).symm) : P := h
theorem zxa {P : Prop} (h : P := by
 have h1 := V.zgo xa L i hil
 have := List.getElem?_eq_getElem (l := V.alt xa L) (i := i) (by rw [HLL.out]; exact hil)
 rw [h1, V.zv] at this
 exact (Option.some.inj this).symm) : P := h
theorem zem (n : Int) (a b : List V.Itv) (va vb : Value) (K : Nat) (f : Bool -> Bool -> Bool) (w : World) (hm : zg w) (ha : V.Ok n a) (hb : V.Ok n b) (hva : Itvs w va a) (hvb : Itvs w vb b)
  (eg : ∀ args w, (callFunc K args).run Tryz.prog w = .ok (.enter K args) w) (hK : ∀ (x y : Bool) W, Calls Tryz.prog K #[.bool x, .bool y] W fun e w' => e = .returned (.bool (f x y)) /\ W = w') :
  Calls Tryz.prog 209 #[setV n va, setV n vb, .func (.func K) #[] #[]] w fun e w' => ∃ u, e = .returned (setV n u) /\ Itvs w' u (V.opL n f a b) /\ (∀ c, u.ownBlock = some c -> w.heap.size ≤ c) /\ Below w.heap.size w w' := by
 have HK := zuq hK
 have HVA := zuq hva
 have HVB := zuq hvb
 obtain ⟨aa, ac, rfl⟩ := hva.slice
 obtain ⟨ba, bc, rfl⟩ := hvb.slice
 have HA := zuq ha
 have HB := zuq hb
 have hla := ha.len
 have hlb := hb.len
 obtain ⟨hb0, hc0, _, hz0⟩ := zei w #[.int .i64 n, .slice aa a.length ac] #[.int .i64 n, .slice ba b.length bc] 48 48
 have hb1 : Below w.heap.size w (((w.alloc (.cells #[.int .i64 n, .slice aa a.length ac] 48)).alloc (.cells #[.int .i64 n, .slice ba b.length bc] 48)).alloc (.cells #[.int .i64 0, .slice none 0 0] 48)) := hb0.alloc (by rw [hz0]; omega) _
 have h3 := xh w (.cells #[.int .i64 n, .slice aa a.length ac] 48) (.cells #[.int .i64 n, .slice ba b.length bc] 48) (.cells #[.int .i64 0, .slice none 0 0] 48)
 have H3 := zuq h3
 have HB1 := zuq hb1
 have HM1 := zuq (hm.below hb1)
 clear hK hva hvb ha hb hb0 hc0 hz0 hb1 h3 hm
 unfold setV
 go_enter Tryz.func209, Tryz.ntmps209
 go_wp2_with fail
 generalize (((w.alloc (.cells #[.int .i64 n, .slice aa a.length ac] 48)).alloc (.cells #[.int .i64 n, .slice ba b.length bc] 48)).alloc (.cells #[.int .i64 0, .slice none 0 0] 48)) = w1 at *
 refine (zew n (.slice aa a.length ac) a w1 (HVA.out.below HB1.out) (by omega)).mono ?_
 rintro e w2 ⟨lv, rfl, hlv, hb2⟩
 have HL2 := zuq (BRow.bords hlv)
 have HB2 := zur HB1 hb2
 have HM2 := zuq (HM1.out.below hb2)
 have K0 := hb2.block _ (show w.heap.size < w1.heap.size by have := H3.out.2.2.2; omega)
 have K1 := hb2.block _ (show w.heap.size + 1 < w1.heap.size by have := H3.out.2.2.2; omega)
 have K2 := hb2.block _ (show w.heap.size + 1 + 1 < w1.heap.size by have := H3.out.2.2.2; omega)
 rw [H3.out.1] at K0
 rw [H3.out.2.1] at K1
 rw [H3.out.2.2.1] at K2
 have c0 : w2.cell? ⟨w.heap.size + 1, 0, none⟩ = some (.int .i64 n) := zup K1 0
 have c1 : w2.cell? ⟨w.heap.size + 1, 1, none⟩ = some (.slice ba b.length bc) := zup K1 1
 have HK2 := zuq (And.intro K0 K2)
 clear hlv hb2 K0 K1 K2
 go_wp2_with fail
 refine (zew n (.slice ba b.length bc) b w2 (HVB.out.below HB2.out) (by omega)).mono ?_
 rintro e w3 ⟨mv, rfl, hmv, hb3⟩
 have HM3 := zuq (BRow.bords hmv)
 have HL3 := zuq (Bords.below HL2.out hb3)
 have HB3 := zur HB2 hb3
 have HMX := zuq (HM2.out.below hb3)
 have K0 := hb3.block _ (Array.getElem?_eq_some_iff.1 HK2.out.1).1
 have K2 := hb3.block _ (Array.getElem?_eq_some_iff.1 HK2.out.2).1
 rw [HK2.out.1] at K0
 rw [HK2.out.2] at K2
 have HK3 := zuq (And.intro K0 K2)
 rw [V.zj6 HA.out.ord] at HL3
 rw [V.zj6 HB.out.ord] at HM3
 clear hmv hb3 K0 K2 c0 c1 HL2 HM2 HK2 HM1 HB2
 obtain ⟨xa, hxa⟩ : ∃ x, x = V.zo a := ⟨_, rfl⟩
 obtain ⟨xb, hxb⟩ : ∃ x, x = V.zo b := ⟨_, rfl⟩
 have HOP : Hid (V.opL n f a b = V.ofC (V.start (f xa xb)) (V.comb n f xa xb (f xa xb) (V.zh a) (V.zh b))) := zuq (by rw [hxa, hxb]; rfl)
 have HOA := zuq HA.out.cuts
 have HOB := zuq HB.out.cuts
 have hlL := V.vx a
 have hlM := V.vx b
 rw [← hxa] at HL3 ⊢
 rw [← hxb] at HM3 ⊢
 generalize V.zh a = L at *
 generalize V.zh b = M at *
 obtain ⟨la, lc, rfl⟩ := HL3.out.slice
 obtain ⟨ma, mc, rfl⟩ := HM3.out.slice
 have HLL := zuq (V.xr xa L)
 have HML := zuq (V.xr xb M)
 rw [HLL.out] at HL3 ⊢
 rw [HML.out] at HM3 ⊢
 have HN := zuq HA.out.sch
 clear hxa hxb HA HB HVA HVB HB1
 go_wp2_with fail
 refine (HK.out xa xb w3).mono ?_
 rintro e w4' ⟨rfl, rfl⟩
 obtain ⟨w4, hw4⟩ : ∃ w4, w4 = w3 := ⟨_, rfl⟩
 subst hw4
 go_wp2
 go_loopw [8, 10, 12, 13, 14, 15] (fun xv yv nv ov iv jv wx => ∃ (i j : Nat) (R : List V.Cut), iv = .int .i64 i /\ jv = .int .i64 j /\ xv = .bool (V.par xa i) /\ yv = .bool (V.par xb j) /\ nv = .bool (V.par (f xa xb) R.length) /\ CbInv n f xa xb L M w4 i j R ov wx) (fun _ _ _ _ iv jv _ => (L.length - (intOf iv).toNat) + (M.length - (intOf jv).toNat))
 case atStart => exact ⟨0, 0, [], rfl, rfl, rfl, rfl, rfl, Nat.zero_le _, Nat.zero_le _, GRow.nil _ _, rfl, rfl, zut _ _, by simp⟩
 case round =>
  obtain ⟨i, j, R, rfl, rfl, rfl, rfl, rfl, hinv⟩ := hrel
  have HINV := zuq hinv
  obtain ⟨oa, oc, rfl⟩ := GRow.slice hinv.row
  have hi := hinv.hi
  have hj := hinv.hj
  clear hinv
  by_cases hil : i < L.length
  ·by_cases hjl : j < M.length
   ·obtain ⟨g, off, rfl, hgl, h0, h1, h2⟩ := HL3.out.at i (by rw [HLL.out]; exact hil)
    have hge : (V.alt xa L)[i]'(by rw [HLL.out]; exact hil) = (L[i], !V.par xa i) := by
     exact zxa
    rw [hge] at h0 h1 h2
    replace h0 := za HINV.out.below h0
    replace h1 := za HINV.out.below h1
    replace h2 := za HINV.out.below h2
    have hi1 : (0 : Int) ≤ (i : Int) := by omega
    have hi2 : (i : Int) < (L.length : Int) := by omega
    clear hge
    obtain ⟨g2, off2, rfl, mhgl, mh0, mh1, mh2⟩ := HM3.out.at j (by rw [HML.out]; exact hjl)
    have mhge : (V.alt xb M)[j]'(by rw [HML.out]; exact hjl) = (M[j], !V.par xb j) := by
     exact zw9
    rw [mhge] at mh0 mh1 mh2
    replace mh0 := za HINV.out.below mh0
    replace mh1 := za HINV.out.below mh1
    replace mh2 := za HINV.out.below mh2
    have mhi1 : (0 : Int) ≤ (j : Int) := by omega
    have mhi2 : (j : Int) < (M.length : Int) := by omega
    clear mhge
    have hsc : wr.cell? ⟨w.heap.size, 0, none⟩ = some (.int .i64 n) := zup ((HINV.out.below.block _ (Array.getElem?_eq_some_iff.1 HK3.out.1).1).trans HK3.out.1) 0
    have HVL : Hid (V.valid n L[i].1 = true) := zuq (HOA.out _ (List.getElem_mem hil))
    have HVM : Hid (V.valid n M[j].1 = true) := zuq (HOB.out _ (List.getElem_mem hjl))
    have HMR := zuq (HMX.out.below HINV.out.below)
    have hq1 : ((j : Int) == (M.length : Int)) = false := by rw [zuu]; omega
    have hq2 : ((i : Int) == (L.length : Int)) = false := by rw [zuu]; omega
    go_wp2_with fail
    go_region_held3 (fun W' => zg W' /\ W'.cell? ⟨w.heap.size, 0, none⟩ = some (.int .i64 n) /\ W'.cell? ⟨g, off + i * 3, none⟩ = some (.string ⟨L[i].1.toArray⟩) /\ W'.cell? ⟨g, off + i * 3 + 1, none⟩ = some (.bool L[i].2) /\ W'.cell? ⟨g2, off2 + j * 3, none⟩ = some (.string ⟨M[j].1.toArray⟩) /\ W'.cell? ⟨g2, off2 + j * 3 + 1, none⟩ = some (.bool M[j].2))
     (first
       | (exact ⟨HMR.out, hsc, h0, h1, mh0, mh1⟩)
       | (go_split_ands; exact ⟨zg.below (by assumption) hbq, zuw hbq, zuw hbq, zuw hbq, zuw hbq, zuw hbq⟩)
       | go_keep)
     (first
       | (go_at_call 85; refine (ko n L[i] M[j] _ (by first | assumption | exact And.left (by assumption)) HN.out HVL.out HVM.out).mono ?_; rintro e wq ⟨rfl, hbq⟩))
    have hbQ : Below wr.heap.size wr wq := ((zut wr.heap.size wr).drew).trans (show Below wr.heap.size wr.drew wq from hbq)
    have HBX := zuq (HINV.out.below.trans (hbQ.mono HINV.out.below.size))
    have HRX : Hid (BRow wq w4.heap.size (.slice oa (V.alt (f xa xb) R).length oc) (V.alt (f xa xb) R)) := zuq (GRow.below HINV.out.row hbQ)
    replace h0 := za hbQ h0
    replace h1 := za hbQ h1
    replace h2 := za hbQ h2
    replace mh0 := za hbQ mh0
    replace mh1 := za hbQ mh1
    replace mh2 := za hbQ mh2
    clear hbq hbQ hsc
    obtain ⟨z, hz⟩ : ∃ z, V.cutC n L[i] M[j] = z := ⟨_, rfl⟩
    rw [hz]
    have HZC := zuq hz
    clear hz
    by_cases hz1 : z < 0
    ·have hz2 : z ≤ 0 := by omega
     have hz3 : ¬ 0 ≤ z := by omega
     have hz4 : ¬ 0 < z := by omega
     have hz5 : (z == 0) = false := by rw [zuu]; omega
     have hbZ : Below wq.heap.size wq (wq.alloc (.cells #[.string ⟨#[]⟩, .bool false] 118)) := (zut _ wq).alloc (zus _) _
     replace h0 := za hbZ h0
     replace h1 := za hbZ h1
     replace h2 := za hbZ h2
     have z0 : (wq.alloc (.cells #[.string ⟨#[]⟩, .bool false] 118)).cell? ⟨wq.heap.size, 0, none⟩ = some (.string ⟨#[]⟩) := by rw [World.cell?_alloc_new]; rfl
     have z1 : (wq.alloc (.cells #[.string ⟨#[]⟩, .bool false] 118)).cell? ⟨wq.heap.size, 1, none⟩ = some (.bool false) := by rw [World.cell?_alloc_new]; rfl
     have f0 : (wq.alloc (.cells #[.string ⟨#[]⟩, .bool false] 118)).frozen? ⟨wq.heap.size, 0, none⟩ = false := by rw [zu, if_pos rfl]
     have f1 : (wq.alloc (.cells #[.string ⟨#[]⟩, .bool false] 118)).frozen? ⟨wq.heap.size, 1, none⟩ = false := by rw [zu, if_pos rfl]
     have HZ : Hid ((wq.alloc (.cells #[.string ⟨#[]⟩, .bool false] 118)).heap[wq.heap.size]? = some (.cells #[.string ⟨#[]⟩, .bool false] 118 (0, 0))) := zuq (by rw [heap_alloc, if_pos rfl])
     have HBZ := zuq hbZ
     have hgZ : g ≠ wq.heap.size := by have := HBX.out.size; omega
     clear hbZ
     go_wp2_with fail
     generalize wq.alloc (.cells #[.string ⟨#[]⟩, .bool false] 118) = W1 at *
     go_region_held3 (fun W' => W'.cell? ⟨g, off + i * 3, none⟩ = some (.string ⟨L[i].1.toArray⟩) /\ W'.cell? ⟨g, off + i * 3 + 1, none⟩ = some (.bool L[i].2) /\ W'.cell? ⟨g, off + i * 3 + 2, none⟩ = some (.bool (!V.par xa i)))
      (first
        | (exact ⟨h0, h1, h2⟩)
        | (exact ⟨xc hgZ h0, xc hgZ h1, xc hgZ h2⟩)
        | go_keep)
      (fail)
     have hw2 := zna (u := .string ⟨L[i].1.toArray⟩) (v := .bool L[i].2) HZ.out
     have HW2 := zuq hw2.here
     have HBW := zuq (HBX.out.trans (hw2.below HBZ.out (zus _) |>.mono HBX.out.size))
     have HR2 : Hid (BRow (((W1.setCell ⟨wq.heap.size, 0, none⟩ (.string ⟨L[i].1.toArray⟩)).setCell ⟨wq.heap.size, 1, none⟩ (.bool L[i].2)).drew) w4.heap.size (.slice oa (V.alt (f xa xb) R).length oc) (V.alt (f xa xb) R)) := zuq (GRow.below HRX.out (hw2.below HBZ.out (zus _)))
     clear hw2 z0 z1 f0 f1 h0 h1 h2
     generalize ((W1.setCell ⟨wq.heap.size, 0, none⟩ (.string ⟨L[i].1.toArray⟩)).setCell ⟨wq.heap.size, 1, none⟩ (.bool L[i].2)).drew = W2 at *
     go_wp2_with fail
     refine (HK.out (!V.par xa i) (V.par xb j) W2).mono ?_
     rintro e w' ⟨rfl, rfl⟩
     have HST := zuq (V.step_l (n := n) (f := f) (x := V.par xa i) (y := V.par xb j) hil (.inr ⟨hjl, by rw [HZC.out]; exact hz1⟩))
     have HNEXT := zuq (HINV.out.next (i' := (i + 1)) (j' := j) (c := L[i]) (by omega) (by omega) HST.out (V.zv _ _) rfl (by omega))
     have HPX : Hid (V.par xa (i + 1) = !V.par xa i) := zuq (V.zv _ _)
     have HPY : Hid (V.par xb (j + 1) = !V.par xb j) := zuq (V.zv _ _)
     have hlenR := HINV.out.len
     rcases hnx : f (!V.par xa i) (V.par xb j) with _ | _
     ·have HNX := zuq hnx
      clear hnx
      rcases hnw : V.par (f xa xb) R.length with _ | _
      ·exact zwd
      ·have HNW := zuq hnw
       clear hnw
       have HNB : Hid (∀ j0 u, (jz (L[i], false))[j0]? = some u -> (W2.alloc (.cells #[.string ⟨(L[i] : V.Cut).1.toArray⟩, .bool (L[i] : V.Cut).2, .bool false] 244)).cell? ⟨W2.heap.size, j0, none⟩ = some u) := zuq (fun j0 u hu => by rw [World.cell?_alloc_new]; simpa [jz] using hu)
       have HBN := zuq ((zut W2.heap.size W2).alloc (zus _) (.cells #[.string ⟨(L[i] : V.Cut).1.toArray⟩, .bool (L[i] : V.Cut).2, .bool false] 244))
       have c0 : W2.cell? ⟨wq.heap.size, 0, none⟩ = some (.string ⟨(L[i] : V.Cut).1.toArray⟩) := zup HW2.out 0
       have c1 : W2.cell? ⟨wq.heap.size, 1, none⟩ = some (.bool (L[i] : V.Cut).2) := zup HW2.out 1
       go_wp2_with (first | (refine zp jf (by decide) jo km (by decide) rfl _ _ 240 rfl Tryz.underlying240 w4.heap.size (.slice oa (V.alt (f xa xb) R).length oc) (V.alt (f xa xb) R) rfl (GRow.below HR2.out HBN.out) W2.heap.size (L[i], false) rfl HNB.out (by rw [V.xr]; omega) (by have := HBW.out.size; have := HBN.out.size; omega) ?_; intro v9 W9 hr9 hg9) | fail)
       have hb9 : Below w4.heap.size w4 W9 := (HBW.out.trans (HBN.out.mono HBW.out.size)).trans (zl hg9 (GRow.block HR2.out) (zus _) (by have := HBW.out.size; have := HBN.out.size; omega))
       have HIN := zuq ((HNEXT.out v9 W9 hb9).2 (by rw [HNX.out, HNW.out]; decide) (by rw [HNW.out]; exact hr9))
       have HPN : Hid (V.par (f xa xb) (R ++ [L[i]]).length = false) := zuq (by rw [List.length_append, List.length_singleton, V.zv, HNW.out]; rfl)
       exact zw1
     ·have HNX := zuq hnx
      clear hnx
      rcases hnw : V.par (f xa xb) R.length with _ | _
      ·have HNW := zuq hnw
       clear hnw
       have HNB : Hid (∀ j0 u, (jz (L[i], true))[j0]? = some u -> (W2.alloc (.cells #[.string ⟨(L[i] : V.Cut).1.toArray⟩, .bool (L[i] : V.Cut).2, .bool true] 244)).cell? ⟨W2.heap.size, j0, none⟩ = some u) := zuq (fun j0 u hu => by rw [World.cell?_alloc_new]; simpa [jz] using hu)
       have HBN := zuq ((zut W2.heap.size W2).alloc (zus _) (.cells #[.string ⟨(L[i] : V.Cut).1.toArray⟩, .bool (L[i] : V.Cut).2, .bool true] 244))
       have c0 : W2.cell? ⟨wq.heap.size, 0, none⟩ = some (.string ⟨(L[i] : V.Cut).1.toArray⟩) := zup HW2.out 0
       have c1 : W2.cell? ⟨wq.heap.size, 1, none⟩ = some (.bool (L[i] : V.Cut).2) := zup HW2.out 1
       go_wp2_with (first | (refine zp jf (by decide) jo km (by decide) rfl _ _ 240 rfl Tryz.underlying240 w4.heap.size (.slice oa (V.alt (f xa xb) R).length oc) (V.alt (f xa xb) R) rfl (GRow.below HR2.out HBN.out) W2.heap.size (L[i], true) rfl HNB.out (by rw [V.xr]; omega) (by have := HBW.out.size; have := HBN.out.size; omega) ?_; intro v9 W9 hr9 hg9) | fail)
       have hb9 : Below w4.heap.size w4 W9 := (HBW.out.trans (HBN.out.mono HBW.out.size)).trans (zl hg9 (GRow.block HR2.out) (zus _) (by have := HBW.out.size; have := HBN.out.size; omega))
       have HIN := zuq ((HNEXT.out v9 W9 hb9).2 (by rw [HNX.out, HNW.out]; decide) (by rw [HNW.out]; exact hr9))
       have HPN : Hid (V.par (f xa xb) (R ++ [L[i]]).length = true) := zuq (by rw [List.length_append, List.length_singleton, V.zv, HNW.out]; rfl)
       exact zw1
      ·exact zwd
    ·by_cases hz2 : 0 < z
     ·have hz3 : 0 ≤ z := by omega
      have hz4 : ¬ z ≤ 0 := by omega
      have hz5 : (z == 0) = false := by rw [zuu]; omega
      have hbN : Below wq.heap.size wq (wq.alloc (.cells #[.string ⟨M[j].1.toArray⟩, .bool M[j].2] 118)) := (zut _ wq).alloc (zus _) _
      have mk2 := za hbN mh2
      have hbZ : Below wq.heap.size wq (wq.alloc (.cells #[.string ⟨#[]⟩, .bool false] 118)) := (zut _ wq).alloc (zus _) _
      replace mh0 := za hbZ mh0
      replace mh1 := za hbZ mh1
      replace mh2 := za hbZ mh2
      have HW2 : Hid ((wq.alloc (.cells #[.string ⟨M[j].1.toArray⟩, .bool M[j].2] 118)).heap[wq.heap.size]? = some (.cells #[.string ⟨M[j].1.toArray⟩, .bool M[j].2] 118 (0, 0))) := zuq (by rw [heap_alloc, if_pos rfl])
      have HBW := zur HBX hbN
      have HR2 : Hid (BRow (wq.alloc (.cells #[.string ⟨M[j].1.toArray⟩, .bool M[j].2] 118)) w4.heap.size (.slice oa (V.alt (f xa xb) R).length oc) (V.alt (f xa xb) R)) := zuq (GRow.below HRX.out hbN)
      have hgZ2 : g2 ≠ wq.heap.size := by have := HBX.out.size; omega
      clear hbN hbZ
      go_wp2_with fail
      generalize wq.alloc (.cells #[.string ⟨M[j].1.toArray⟩, .bool M[j].2] 118) = W2 at *
      refine (HK.out (V.par xa i) (!V.par xb j) W2).mono ?_
      rintro e w' ⟨rfl, rfl⟩
      have HST := zuq (V.step_r (n := n) (f := f) (x := V.par xa i) (y := V.par xb j) hjl (.inr ⟨hil, by rw [HZC.out]; exact hz2⟩))
      have HNEXT := zuq (HINV.out.next (i' := i) (j' := (j + 1)) (c := M[j]) (by omega) (by omega) HST.out rfl (V.zv _ _) (by omega))
      have HPX : Hid (V.par xa (i + 1) = !V.par xa i) := zuq (V.zv _ _)
      have HPY : Hid (V.par xb (j + 1) = !V.par xb j) := zuq (V.zv _ _)
      have hlenR := HINV.out.len
      rcases hnx : f (V.par xa i) (!V.par xb j) with _ | _
      ·have HNX := zuq hnx
       clear hnx
       rcases hnw : V.par (f xa xb) R.length with _ | _
       ·exact zwc
       ·have HNW := zuq hnw
        clear hnw
        have HNB : Hid (∀ j0 u, (jz (M[j], false))[j0]? = some u -> (W2.alloc (.cells #[.string ⟨(M[j] : V.Cut).1.toArray⟩, .bool (M[j] : V.Cut).2, .bool false] 244)).cell? ⟨W2.heap.size, j0, none⟩ = some u) := zuq (fun j0 u hu => by rw [World.cell?_alloc_new]; simpa [jz] using hu)
        have HBN := zuq ((zut W2.heap.size W2).alloc (zus _) (.cells #[.string ⟨(M[j] : V.Cut).1.toArray⟩, .bool (M[j] : V.Cut).2, .bool false] 244))
        have c0 : W2.cell? ⟨wq.heap.size, 0, none⟩ = some (.string ⟨(M[j] : V.Cut).1.toArray⟩) := zup HW2.out 0
        have c1 : W2.cell? ⟨wq.heap.size, 1, none⟩ = some (.bool (M[j] : V.Cut).2) := zup HW2.out 1
        go_wp2_with (first | (refine zp jf (by decide) jo km (by decide) rfl _ _ 240 rfl Tryz.underlying240 w4.heap.size (.slice oa (V.alt (f xa xb) R).length oc) (V.alt (f xa xb) R) rfl (GRow.below HR2.out HBN.out) W2.heap.size (M[j], false) rfl HNB.out (by rw [V.xr]; omega) (by have := HBW.out.size; have := HBN.out.size; omega) ?_; intro v9 W9 hr9 hg9) | fail)
        have hb9 : Below w4.heap.size w4 W9 := (HBW.out.trans (HBN.out.mono HBW.out.size)).trans (zl hg9 (GRow.block HR2.out) (zus _) (by have := HBW.out.size; have := HBN.out.size; omega))
        have HIN := zuq ((HNEXT.out v9 W9 hb9).2 (by rw [HNX.out, HNW.out]; decide) (by rw [HNW.out]; exact hr9))
        have HPN : Hid (V.par (f xa xb) (R ++ [M[j]]).length = false) := zuq (by rw [List.length_append, List.length_singleton, V.zv, HNW.out]; rfl)
        exact zw0
      ·have HNX := zuq hnx
       clear hnx
       rcases hnw : V.par (f xa xb) R.length with _ | _
       ·have HNW := zuq hnw
        clear hnw
        have HNB : Hid (∀ j0 u, (jz (M[j], true))[j0]? = some u -> (W2.alloc (.cells #[.string ⟨(M[j] : V.Cut).1.toArray⟩, .bool (M[j] : V.Cut).2, .bool true] 244)).cell? ⟨W2.heap.size, j0, none⟩ = some u) := zuq (fun j0 u hu => by rw [World.cell?_alloc_new]; simpa [jz] using hu)
        have HBN := zuq ((zut W2.heap.size W2).alloc (zus _) (.cells #[.string ⟨(M[j] : V.Cut).1.toArray⟩, .bool (M[j] : V.Cut).2, .bool true] 244))
        have c0 : W2.cell? ⟨wq.heap.size, 0, none⟩ = some (.string ⟨(M[j] : V.Cut).1.toArray⟩) := zup HW2.out 0
        have c1 : W2.cell? ⟨wq.heap.size, 1, none⟩ = some (.bool (M[j] : V.Cut).2) := zup HW2.out 1
        go_wp2_with (first | (refine zp jf (by decide) jo km (by decide) rfl _ _ 240 rfl Tryz.underlying240 w4.heap.size (.slice oa (V.alt (f xa xb) R).length oc) (V.alt (f xa xb) R) rfl (GRow.below HR2.out HBN.out) W2.heap.size (M[j], true) rfl HNB.out (by rw [V.xr]; omega) (by have := HBW.out.size; have := HBN.out.size; omega) ?_; intro v9 W9 hr9 hg9) | fail)
        have hb9 : Below w4.heap.size w4 W9 := (HBW.out.trans (HBN.out.mono HBW.out.size)).trans (zl hg9 (GRow.block HR2.out) (zus _) (by have := HBW.out.size; have := HBN.out.size; omega))
        have HIN := zuq ((HNEXT.out v9 W9 hb9).2 (by rw [HNX.out, HNW.out]; decide) (by rw [HNW.out]; exact hr9))
        have HPN : Hid (V.par (f xa xb) (R ++ [M[j]]).length = true) := zuq (by rw [List.length_append, List.length_singleton, V.zv, HNW.out]; rfl)
        exact zw0
       ·exact zwc
     ·obtain rfl : z = 0 := by omega
      have hbZ : Below wq.heap.size wq (wq.alloc (.cells #[.string ⟨#[]⟩, .bool false] 118)) := (zut _ wq).alloc (zus _) _
      replace h0 := za hbZ h0
      replace h1 := za hbZ h1
      replace h2 := za hbZ h2
      replace mh0 := za hbZ mh0
      replace mh1 := za hbZ mh1
      replace mh2 := za hbZ mh2
      have z0 : (wq.alloc (.cells #[.string ⟨#[]⟩, .bool false] 118)).cell? ⟨wq.heap.size, 0, none⟩ = some (.string ⟨#[]⟩) := by rw [World.cell?_alloc_new]; rfl
      have z1 : (wq.alloc (.cells #[.string ⟨#[]⟩, .bool false] 118)).cell? ⟨wq.heap.size, 1, none⟩ = some (.bool false) := by rw [World.cell?_alloc_new]; rfl
      have f0 : (wq.alloc (.cells #[.string ⟨#[]⟩, .bool false] 118)).frozen? ⟨wq.heap.size, 0, none⟩ = false := by rw [zu, if_pos rfl]
      have f1 : (wq.alloc (.cells #[.string ⟨#[]⟩, .bool false] 118)).frozen? ⟨wq.heap.size, 1, none⟩ = false := by rw [zu, if_pos rfl]
      have HZ : Hid ((wq.alloc (.cells #[.string ⟨#[]⟩, .bool false] 118)).heap[wq.heap.size]? = some (.cells #[.string ⟨#[]⟩, .bool false] 118 (0, 0))) := zuq (by rw [heap_alloc, if_pos rfl])
      have HBZ := zuq hbZ
      have hgZ : g ≠ wq.heap.size := by have := HBX.out.size; omega
      clear hbZ
      go_wp2_with fail
      generalize wq.alloc (.cells #[.string ⟨#[]⟩, .bool false] 118) = W1 at *
      go_region_held3 (fun W' => W'.cell? ⟨g, off + i * 3, none⟩ = some (.string ⟨L[i].1.toArray⟩) /\ W'.cell? ⟨g, off + i * 3 + 1, none⟩ = some (.bool L[i].2) /\ W'.cell? ⟨g, off + i * 3 + 2, none⟩ = some (.bool (!V.par xa i)))
       (first
         | (exact ⟨h0, h1, h2⟩)
         | (exact ⟨xc hgZ h0, xc hgZ h1, xc hgZ h2⟩)
         | go_keep)
       (fail)
      have hw2 := zna (u := .string ⟨L[i].1.toArray⟩) (v := .bool L[i].2) HZ.out
      have hgZ2 : g2 ≠ wq.heap.size := by have := HBX.out.size; omega
      have HZ2 := zuq hw2.here
      have HBZ2 := zuq (hw2.below HBZ.out (zus _))
      have n0 := xc (u := .string ⟨L[i].1.toArray⟩) (v := .bool L[i].2) hgZ2 mh0
      have n2 := xc (u := .string ⟨L[i].1.toArray⟩) (v := .bool L[i].2) hgZ2 mh2
      clear hw2 z0 z1 f0 f1 h0 h1 h2 mh0 mh1 mh2
      generalize ((W1.setCell ⟨wq.heap.size, 0, none⟩ (.string ⟨L[i].1.toArray⟩)).setCell ⟨wq.heap.size, 1, none⟩ (.bool L[i].2)).drew = W5 at *
      have y0 : W5.cell? ⟨wq.heap.size, 0, none⟩ = some (.string ⟨L[i].1.toArray⟩) := zup HZ2.out 0
      have yf : W5.frozen? ⟨wq.heap.size, 0, none⟩ = false := Lib.frozen_of_heap HZ2.out 0
      go_wp2_with fail
      go_still_tail 8, (by kernel_rfl)
      change wpList _ _ _ _ _ W5.drew
      have hbd : Below W5.heap.size W5 W5.drew := (zut _ W5).drew
      have HZ6 : Hid (W5.drew.heap[wq.heap.size]? = some (.cells #[.string ⟨L[i].1.toArray⟩, .bool L[i].2] 118 (0, 0))) := HZ2
      have HB6 := zur HBZ2 hbd
      have k2 := za hbd n2
      clear hbd n0 n2 y0 yf HZ2 HBZ2
      generalize W5.drew = W6 at *
      go_wp2_with fail
      refine (zrg L[i].1 M[j].1 _).mono ?_
      rintro e w' ⟨rfl, rfl⟩
      go_wp2_with (first | (refine vy rfl 9 _ _ rfl wq.heap.size 0 #[.string ⟨L[i].1.toArray⟩, .bool L[i].2] _ HZ6.out (by simp) rfl (.string ⟨(V.lesser L[i].1 M[j].1).toArray⟩) rfl zm9 rfl ?_; intro W2 hp2; have q2 := hp2.cell k2 hgZ2) | fail)
      have HW2 : Hid (W2.heap[wq.heap.size]? = some (.cells #[.string ⟨(V.lesser L[i].1 M[j].1).toArray⟩, .bool L[i].2] 118 (0, 0))) := zuq hp2.here
      have hbw := hp2.below HB6.out (zus _)
      have HBW := zur HBX hbw
      have HR2 : Hid (BRow W2 w4.heap.size (.slice oa (V.alt (f xa xb) R).length oc) (V.alt (f xa xb) R)) := zuq (GRow.below HRX.out hbw)
      clear hbw hp2 k2
      refine (HK.out (!V.par xa i) (!V.par xb j) W2).mono ?_
      rintro e w' ⟨rfl, rfl⟩
      have HST := zuq (V.step_b (n := n) (f := f) (x := V.par xa i) (y := V.par xb j) hil hjl HZC.out)
      have HNEXT := zuq (HINV.out.next (i' := (i + 1)) (j' := (j + 1)) (c := (V.lesser L[i].1 M[j].1, L[i].2)) (by omega) (by omega) HST.out (V.zv _ _) (V.zv _ _) (by omega))
      have HPX : Hid (V.par xa (i + 1) = !V.par xa i) := zuq (V.zv _ _)
      have HPY : Hid (V.par xb (j + 1) = !V.par xb j) := zuq (V.zv _ _)
      have hlenR := HINV.out.len
      rcases hnx : f (!V.par xa i) (!V.par xb j) with _ | _
      ·have HNX := zuq hnx
       clear hnx
       rcases hnw : V.par (f xa xb) R.length with _ | _
       ·exact zv5
       ·have HNW := zuq hnw
        clear hnw
        have HNB : Hid (∀ j0 u, (jz ((V.lesser L[i].1 M[j].1, L[i].2), false))[j0]? = some u -> (W2.alloc (.cells #[.string ⟨((V.lesser L[i].1 M[j].1, L[i].2) : V.Cut).1.toArray⟩, .bool ((V.lesser L[i].1 M[j].1, L[i].2) : V.Cut).2, .bool false] 244)).cell? ⟨W2.heap.size, j0, none⟩ = some u) := zuq (fun j0 u hu => by rw [World.cell?_alloc_new]; simpa [jz] using hu)
        have HBN := zuq ((zut W2.heap.size W2).alloc (zus _) (.cells #[.string ⟨((V.lesser L[i].1 M[j].1, L[i].2) : V.Cut).1.toArray⟩, .bool ((V.lesser L[i].1 M[j].1, L[i].2) : V.Cut).2, .bool false] 244))
        have c0 : W2.cell? ⟨wq.heap.size, 0, none⟩ = some (.string ⟨((V.lesser L[i].1 M[j].1, L[i].2) : V.Cut).1.toArray⟩) := zup HW2.out 0
        have c1 : W2.cell? ⟨wq.heap.size, 1, none⟩ = some (.bool ((V.lesser L[i].1 M[j].1, L[i].2) : V.Cut).2) := zup HW2.out 1
        go_wp2_with (first | (refine zp jf (by decide) jo km (by decide) rfl _ _ 240 rfl Tryz.underlying240 w4.heap.size (.slice oa (V.alt (f xa xb) R).length oc) (V.alt (f xa xb) R) rfl (GRow.below HR2.out HBN.out) W2.heap.size ((V.lesser L[i].1 M[j].1, L[i].2), false) rfl HNB.out (by rw [V.xr]; omega) (by have := HBW.out.size; have := HBN.out.size; omega) ?_; intro v9 W9 hr9 hg9) | fail)
        have hb9 : Below w4.heap.size w4 W9 := (HBW.out.trans (HBN.out.mono HBW.out.size)).trans (zl hg9 (GRow.block HR2.out) (zus _) (by have := HBW.out.size; have := HBN.out.size; omega))
        have HIN := zuq ((HNEXT.out v9 W9 hb9).2 (by rw [HNX.out, HNW.out]; decide) (by rw [HNW.out]; exact hr9))
        have HPN : Hid (V.par (f xa xb) (R ++ [(V.lesser L[i].1 M[j].1, L[i].2)]).length = false) := zuq (by rw [List.length_append, List.length_singleton, V.zv, HNW.out]; rfl)
        exact zwl
      ·have HNX := zuq hnx
       clear hnx
       rcases hnw : V.par (f xa xb) R.length with _ | _
       ·have HNW := zuq hnw
        clear hnw
        have HNB : Hid (∀ j0 u, (jz ((V.lesser L[i].1 M[j].1, L[i].2), true))[j0]? = some u -> (W2.alloc (.cells #[.string ⟨((V.lesser L[i].1 M[j].1, L[i].2) : V.Cut).1.toArray⟩, .bool ((V.lesser L[i].1 M[j].1, L[i].2) : V.Cut).2, .bool true] 244)).cell? ⟨W2.heap.size, j0, none⟩ = some u) := zuq (fun j0 u hu => by rw [World.cell?_alloc_new]; simpa [jz] using hu)
        have HBN := zuq ((zut W2.heap.size W2).alloc (zus _) (.cells #[.string ⟨((V.lesser L[i].1 M[j].1, L[i].2) : V.Cut).1.toArray⟩, .bool ((V.lesser L[i].1 M[j].1, L[i].2) : V.Cut).2, .bool true] 244))
        have c0 : W2.cell? ⟨wq.heap.size, 0, none⟩ = some (.string ⟨((V.lesser L[i].1 M[j].1, L[i].2) : V.Cut).1.toArray⟩) := zup HW2.out 0
        have c1 : W2.cell? ⟨wq.heap.size, 1, none⟩ = some (.bool ((V.lesser L[i].1 M[j].1, L[i].2) : V.Cut).2) := zup HW2.out 1
        go_wp2_with (first | (refine zp jf (by decide) jo km (by decide) rfl _ _ 240 rfl Tryz.underlying240 w4.heap.size (.slice oa (V.alt (f xa xb) R).length oc) (V.alt (f xa xb) R) rfl (GRow.below HR2.out HBN.out) W2.heap.size ((V.lesser L[i].1 M[j].1, L[i].2), true) rfl HNB.out (by rw [V.xr]; omega) (by have := HBW.out.size; have := HBN.out.size; omega) ?_; intro v9 W9 hr9 hg9) | fail)
        have hb9 : Below w4.heap.size w4 W9 := (HBW.out.trans (HBN.out.mono HBW.out.size)).trans (zl hg9 (GRow.block HR2.out) (zus _) (by have := HBW.out.size; have := HBN.out.size; omega))
        have HIN := zuq ((HNEXT.out v9 W9 hb9).2 (by rw [HNX.out, HNW.out]; decide) (by rw [HNW.out]; exact hr9))
        have HPN : Hid (V.par (f xa xb) (R ++ [(V.lesser L[i].1 M[j].1, L[i].2)]).length = true) := zuq (by rw [List.length_append, List.length_singleton, V.zv, HNW.out]; rfl)
        exact zwl
       ·exact zv5
   ·obtain rfl : j = M.length := by omega
    have HBX := zuq HINV.out.below
    have HRX := zuq HINV.out.row
    obtain ⟨g, off, rfl, hgl, h0, h1, h2⟩ := HL3.out.at i (by rw [HLL.out]; exact hil)
    have hge : (V.alt xa L)[i]'(by rw [HLL.out]; exact hil) = (L[i], !V.par xa i) := by
     exact zxa
    rw [hge] at h0 h1 h2
    replace h0 := za HINV.out.below h0
    replace h1 := za HINV.out.below h1
    replace h2 := za HINV.out.below h2
    have hi1 : (0 : Int) ≤ (i : Int) := by omega
    have hi2 : (i : Int) < (L.length : Int) := by omega
    clear hge
    have hbZ : Below wr.heap.size wr (wr.alloc (.cells #[.string ⟨#[]⟩, .bool false] 118)) := (zut _ wr).alloc (zus _) _
    replace h0 := za hbZ h0
    replace h1 := za hbZ h1
    replace h2 := za hbZ h2
    have z0 : (wr.alloc (.cells #[.string ⟨#[]⟩, .bool false] 118)).cell? ⟨wr.heap.size, 0, none⟩ = some (.string ⟨#[]⟩) := by rw [World.cell?_alloc_new]; rfl
    have z1 : (wr.alloc (.cells #[.string ⟨#[]⟩, .bool false] 118)).cell? ⟨wr.heap.size, 1, none⟩ = some (.bool false) := by rw [World.cell?_alloc_new]; rfl
    have f0 : (wr.alloc (.cells #[.string ⟨#[]⟩, .bool false] 118)).frozen? ⟨wr.heap.size, 0, none⟩ = false := by rw [zu, if_pos rfl]
    have f1 : (wr.alloc (.cells #[.string ⟨#[]⟩, .bool false] 118)).frozen? ⟨wr.heap.size, 1, none⟩ = false := by rw [zu, if_pos rfl]
    have HZ : Hid ((wr.alloc (.cells #[.string ⟨#[]⟩, .bool false] 118)).heap[wr.heap.size]? = some (.cells #[.string ⟨#[]⟩, .bool false] 118 (0, 0))) := zuq (by rw [heap_alloc, if_pos rfl])
    have HBZ := zuq hbZ
    have hgZ : g ≠ wr.heap.size := by have := HBX.out.size; omega
    clear hbZ
    go_wp2_with fail
    generalize wr.alloc (.cells #[.string ⟨#[]⟩, .bool false] 118) = W1 at *
    go_region_held3 (fun W' => W'.cell? ⟨g, off + i * 3, none⟩ = some (.string ⟨L[i].1.toArray⟩) /\ W'.cell? ⟨g, off + i * 3 + 1, none⟩ = some (.bool L[i].2) /\ W'.cell? ⟨g, off + i * 3 + 2, none⟩ = some (.bool (!V.par xa i)))
     (first
       | (exact ⟨h0, h1, h2⟩)
       | (exact ⟨xc hgZ h0, xc hgZ h1, xc hgZ h2⟩)
       | go_keep)
     (fail)
    have hw2 := zna (u := .string ⟨L[i].1.toArray⟩) (v := .bool L[i].2) HZ.out
    have HW2 := zuq hw2.here
    have HBW := zuq (HBX.out.trans (hw2.below HBZ.out (zus _) |>.mono HBX.out.size))
    have HR2 : Hid (BRow (((W1.setCell ⟨wr.heap.size, 0, none⟩ (.string ⟨L[i].1.toArray⟩)).setCell ⟨wr.heap.size, 1, none⟩ (.bool L[i].2)).drew) w4.heap.size (.slice oa (V.alt (f xa xb) R).length oc) (V.alt (f xa xb) R)) := zuq (GRow.below HRX.out (hw2.below HBZ.out (zus _)))
    clear hw2 z0 z1 f0 f1 h0 h1 h2
    generalize ((W1.setCell ⟨wr.heap.size, 0, none⟩ (.string ⟨L[i].1.toArray⟩)).setCell ⟨wr.heap.size, 1, none⟩ (.bool L[i].2)).drew = W2 at *
    go_wp2_with fail
    refine (HK.out (!V.par xa i) (V.par xb M.length) W2).mono ?_
    rintro e w' ⟨rfl, rfl⟩
    have HST := zuq (V.step_l (n := n) (f := f) (x := V.par xa i) (y := V.par xb M.length) (M := M) (j := M.length) hil (.inl rfl))
    have HNEXT := zuq (HINV.out.next (i' := (i + 1)) (j' := M.length) (c := L[i]) (by omega) (by omega) HST.out (V.zv _ _) rfl (by omega))
    have HPX : Hid (V.par xa (i + 1) = !V.par xa i) := zuq (V.zv _ _)
    have HPY : Hid (V.par xb (M.length + 1) = !V.par xb M.length) := zuq (V.zv _ _)
    have hlenR := HINV.out.len
    rcases hnx : f (!V.par xa i) (V.par xb M.length) with _ | _
    ·have HNX := zuq hnx
     clear hnx
     rcases hnw : V.par (f xa xb) R.length with _ | _
     ·exact zwa
     ·have HNW := zuq hnw
      clear hnw
      have HNB : Hid (∀ j0 u, (jz (L[i], false))[j0]? = some u -> (W2.alloc (.cells #[.string ⟨(L[i] : V.Cut).1.toArray⟩, .bool (L[i] : V.Cut).2, .bool false] 244)).cell? ⟨W2.heap.size, j0, none⟩ = some u) := zuq (fun j0 u hu => by rw [World.cell?_alloc_new]; simpa [jz] using hu)
      have HBN := zuq ((zut W2.heap.size W2).alloc (zus _) (.cells #[.string ⟨(L[i] : V.Cut).1.toArray⟩, .bool (L[i] : V.Cut).2, .bool false] 244))
      have c0 : W2.cell? ⟨wr.heap.size, 0, none⟩ = some (.string ⟨(L[i] : V.Cut).1.toArray⟩) := zup HW2.out 0
      have c1 : W2.cell? ⟨wr.heap.size, 1, none⟩ = some (.bool (L[i] : V.Cut).2) := zup HW2.out 1
      go_wp2_with (first | (refine zp jf (by decide) jo km (by decide) rfl _ _ 240 rfl Tryz.underlying240 w4.heap.size (.slice oa (V.alt (f xa xb) R).length oc) (V.alt (f xa xb) R) rfl (GRow.below HR2.out HBN.out) W2.heap.size (L[i], false) rfl HNB.out (by rw [V.xr]; omega) (by have := HBW.out.size; have := HBN.out.size; omega) ?_; intro v9 W9 hr9 hg9) | fail)
      have hb9 : Below w4.heap.size w4 W9 := (HBW.out.trans (HBN.out.mono HBW.out.size)).trans (zl hg9 (GRow.block HR2.out) (zus _) (by have := HBW.out.size; have := HBN.out.size; omega))
      have HIN := zuq ((HNEXT.out v9 W9 hb9).2 (by rw [HNX.out, HNW.out]; decide) (by rw [HNW.out]; exact hr9))
      have HPN : Hid (V.par (f xa xb) (R ++ [L[i]]).length = false) := zuq (by rw [List.length_append, List.length_singleton, V.zv, HNW.out]; rfl)
      exact zwy
    ·have HNX := zuq hnx
     clear hnx
     rcases hnw : V.par (f xa xb) R.length with _ | _
     ·have HNW := zuq hnw
      clear hnw
      have HNB : Hid (∀ j0 u, (jz (L[i], true))[j0]? = some u -> (W2.alloc (.cells #[.string ⟨(L[i] : V.Cut).1.toArray⟩, .bool (L[i] : V.Cut).2, .bool true] 244)).cell? ⟨W2.heap.size, j0, none⟩ = some u) := zuq (fun j0 u hu => by rw [World.cell?_alloc_new]; simpa [jz] using hu)
      have HBN := zuq ((zut W2.heap.size W2).alloc (zus _) (.cells #[.string ⟨(L[i] : V.Cut).1.toArray⟩, .bool (L[i] : V.Cut).2, .bool true] 244))
      have c0 : W2.cell? ⟨wr.heap.size, 0, none⟩ = some (.string ⟨(L[i] : V.Cut).1.toArray⟩) := zup HW2.out 0
      have c1 : W2.cell? ⟨wr.heap.size, 1, none⟩ = some (.bool (L[i] : V.Cut).2) := zup HW2.out 1
      go_wp2_with (first | (refine zp jf (by decide) jo km (by decide) rfl _ _ 240 rfl Tryz.underlying240 w4.heap.size (.slice oa (V.alt (f xa xb) R).length oc) (V.alt (f xa xb) R) rfl (GRow.below HR2.out HBN.out) W2.heap.size (L[i], true) rfl HNB.out (by rw [V.xr]; omega) (by have := HBW.out.size; have := HBN.out.size; omega) ?_; intro v9 W9 hr9 hg9) | fail)
      have hb9 : Below w4.heap.size w4 W9 := (HBW.out.trans (HBN.out.mono HBW.out.size)).trans (zl hg9 (GRow.block HR2.out) (zus _) (by have := HBW.out.size; have := HBN.out.size; omega))
      have HIN := zuq ((HNEXT.out v9 W9 hb9).2 (by rw [HNX.out, HNW.out]; decide) (by rw [HNW.out]; exact hr9))
      have HPN : Hid (V.par (f xa xb) (R ++ [L[i]]).length = true) := zuq (by rw [List.length_append, List.length_singleton, V.zv, HNW.out]; rfl)
      exact zwy
     ·exact zwa
  ·obtain rfl : i = L.length := by omega
   by_cases hjl : j < M.length
   ·have HBX := zuq HINV.out.below
    have HRX := zuq HINV.out.row
    have hq1 : ((j : Int) == (M.length : Int)) = false := by rw [zuu]; omega
    obtain ⟨g2, off2, rfl, mhgl, mh0, mh1, mh2⟩ := HM3.out.at j (by rw [HML.out]; exact hjl)
    have mhge : (V.alt xb M)[j]'(by rw [HML.out]; exact hjl) = (M[j], !V.par xb j) := by
     exact zw9
    rw [mhge] at mh0 mh1 mh2
    replace mh0 := za HINV.out.below mh0
    replace mh1 := za HINV.out.below mh1
    replace mh2 := za HINV.out.below mh2
    have mhi1 : (0 : Int) ≤ (j : Int) := by omega
    have mhi2 : (j : Int) < (M.length : Int) := by omega
    clear mhge
    have hbN : Below wr.heap.size wr (wr.alloc (.cells #[.string ⟨M[j].1.toArray⟩, .bool M[j].2] 118)) := (zut _ wr).alloc (zus _) _
    have mk2 := za hbN mh2
    have hbZ : Below wr.heap.size wr (wr.alloc (.cells #[.string ⟨#[]⟩, .bool false] 118)) := (zut _ wr).alloc (zus _) _
    replace mh0 := za hbZ mh0
    replace mh1 := za hbZ mh1
    replace mh2 := za hbZ mh2
    have HW2 : Hid ((wr.alloc (.cells #[.string ⟨M[j].1.toArray⟩, .bool M[j].2] 118)).heap[wr.heap.size]? = some (.cells #[.string ⟨M[j].1.toArray⟩, .bool M[j].2] 118 (0, 0))) := zuq (by rw [heap_alloc, if_pos rfl])
    have HBW := zur HBX hbN
    have HR2 : Hid (BRow (wr.alloc (.cells #[.string ⟨M[j].1.toArray⟩, .bool M[j].2] 118)) w4.heap.size (.slice oa (V.alt (f xa xb) R).length oc) (V.alt (f xa xb) R)) := zuq (GRow.below HRX.out hbN)
    have hgZ2 : g2 ≠ wr.heap.size := by have := HBX.out.size; omega
    clear hbN hbZ
    go_wp2_with fail
    generalize wr.alloc (.cells #[.string ⟨M[j].1.toArray⟩, .bool M[j].2] 118) = W2 at *
    refine (HK.out (V.par xa L.length) (!V.par xb j) W2).mono ?_
    rintro e w' ⟨rfl, rfl⟩
    have HST := zuq (V.step_r (n := n) (f := f) (x := V.par xa L.length) (y := V.par xb j) (L := L) (i := L.length) hjl (.inl rfl))
    have HNEXT := zuq (HINV.out.next (i' := L.length) (j' := (j + 1)) (c := M[j]) (by omega) (by omega) HST.out rfl (V.zv _ _) (by omega))
    have HPX : Hid (V.par xa (L.length + 1) = !V.par xa L.length) := zuq (V.zv _ _)
    have HPY : Hid (V.par xb (j + 1) = !V.par xb j) := zuq (V.zv _ _)
    have hlenR := HINV.out.len
    rcases hnx : f (V.par xa L.length) (!V.par xb j) with _ | _
    ·have HNX := zuq hnx
     clear hnx
     rcases hnw : V.par (f xa xb) R.length with _ | _
     ·exact zv9
     ·have HNW := zuq hnw
      clear hnw
      have HNB : Hid (∀ j0 u, (jz (M[j], false))[j0]? = some u -> (W2.alloc (.cells #[.string ⟨(M[j] : V.Cut).1.toArray⟩, .bool (M[j] : V.Cut).2, .bool false] 244)).cell? ⟨W2.heap.size, j0, none⟩ = some u) := zuq (fun j0 u hu => by rw [World.cell?_alloc_new]; simpa [jz] using hu)
      have HBN := zuq ((zut W2.heap.size W2).alloc (zus _) (.cells #[.string ⟨(M[j] : V.Cut).1.toArray⟩, .bool (M[j] : V.Cut).2, .bool false] 244))
      have c0 : W2.cell? ⟨wr.heap.size, 0, none⟩ = some (.string ⟨(M[j] : V.Cut).1.toArray⟩) := zup HW2.out 0
      have c1 : W2.cell? ⟨wr.heap.size, 1, none⟩ = some (.bool (M[j] : V.Cut).2) := zup HW2.out 1
      go_wp2_with (first | (refine zp jf (by decide) jo km (by decide) rfl _ _ 240 rfl Tryz.underlying240 w4.heap.size (.slice oa (V.alt (f xa xb) R).length oc) (V.alt (f xa xb) R) rfl (GRow.below HR2.out HBN.out) W2.heap.size (M[j], false) rfl HNB.out (by rw [V.xr]; omega) (by have := HBW.out.size; have := HBN.out.size; omega) ?_; intro v9 W9 hr9 hg9) | fail)
      have hb9 : Below w4.heap.size w4 W9 := (HBW.out.trans (HBN.out.mono HBW.out.size)).trans (zl hg9 (GRow.block HR2.out) (zus _) (by have := HBW.out.size; have := HBN.out.size; omega))
      have HIN := zuq ((HNEXT.out v9 W9 hb9).2 (by rw [HNX.out, HNW.out]; decide) (by rw [HNW.out]; exact hr9))
      have HPN : Hid (V.par (f xa xb) (R ++ [M[j]]).length = false) := zuq (by rw [List.length_append, List.length_singleton, V.zv, HNW.out]; rfl)
      exact zwx
    ·have HNX := zuq hnx
     clear hnx
     rcases hnw : V.par (f xa xb) R.length with _ | _
     ·have HNW := zuq hnw
      clear hnw
      have HNB : Hid (∀ j0 u, (jz (M[j], true))[j0]? = some u -> (W2.alloc (.cells #[.string ⟨(M[j] : V.Cut).1.toArray⟩, .bool (M[j] : V.Cut).2, .bool true] 244)).cell? ⟨W2.heap.size, j0, none⟩ = some u) := zuq (fun j0 u hu => by rw [World.cell?_alloc_new]; simpa [jz] using hu)
      have HBN := zuq ((zut W2.heap.size W2).alloc (zus _) (.cells #[.string ⟨(M[j] : V.Cut).1.toArray⟩, .bool (M[j] : V.Cut).2, .bool true] 244))
      have c0 : W2.cell? ⟨wr.heap.size, 0, none⟩ = some (.string ⟨(M[j] : V.Cut).1.toArray⟩) := zup HW2.out 0
      have c1 : W2.cell? ⟨wr.heap.size, 1, none⟩ = some (.bool (M[j] : V.Cut).2) := zup HW2.out 1
      go_wp2_with (first | (refine zp jf (by decide) jo km (by decide) rfl _ _ 240 rfl Tryz.underlying240 w4.heap.size (.slice oa (V.alt (f xa xb) R).length oc) (V.alt (f xa xb) R) rfl (GRow.below HR2.out HBN.out) W2.heap.size (M[j], true) rfl HNB.out (by rw [V.xr]; omega) (by have := HBW.out.size; have := HBN.out.size; omega) ?_; intro v9 W9 hr9 hg9) | fail)
      have hb9 : Below w4.heap.size w4 W9 := (HBW.out.trans (HBN.out.mono HBW.out.size)).trans (zl hg9 (GRow.block HR2.out) (zus _) (by have := HBW.out.size; have := HBN.out.size; omega))
      have HIN := zuq ((HNEXT.out v9 W9 hb9).2 (by rw [HNX.out, HNW.out]; decide) (by rw [HNW.out]; exact hr9))
      have HPN : Hid (V.par (f xa xb) (R ++ [M[j]]).length = true) := zuq (by rw [List.length_append, List.length_singleton, V.zv, HNW.out]; rfl)
      exact zwx
     ·exact zv9
   ·obtain rfl : j = M.length := by omega
    have HRES : Hid (V.comb n f xa xb (f xa xb) L M = R) := zuq (by
      rw [HINV.out.res, List.drop_length, List.drop_length, V.comb, List.append_nil])
    have hsc : wr.cell? ⟨w.heap.size, 0, none⟩ = some (.int .i64 n) := zup ((HINV.out.below.block _ (Array.getElem?_eq_some_iff.1 HK3.out.1).1).trans HK3.out.1) 0
    have HK6 := zuq ((HINV.out.below.block _ (Array.getElem?_eq_some_iff.1 HK3.out.2).1).trans HK3.out.2)
    have hlen := HINV.out.len
    have HBW := zuq (HB3.out.trans (HINV.out.below.mono HB3.out.size))
    go_wp2_with fail
    refine (zo9 n (f xa xb) _ R wr (BRow.bords HINV.out.row) (by omega)).mono ?_
    rintro e W9 ⟨u, rfl, hu, how, hb9⟩
    obtain ⟨ua, uc, rfl⟩ := hu.slice
    have HOW := zuq how
    have hszr := (Array.getElem?_eq_some_iff.1 HK6.out).1
    have HU := zuq hu
    have HK9 := zuq ((hb9.block _ (Array.getElem?_eq_some_iff.1 HK6.out).1).trans HK6.out)
    have HB9 := zur HBW hb9
    clear hu hb9 hsc how
    unfold setV
    go_wp2_with (first | (refine zi rfl 48 _ _ rfl (w.heap.size + 1 + 1) #[.int .i64 0, .slice none 0 0] _ HK9.out rfl #[.int .i64 n, .slice ua (V.ofC (V.start (f xa xb)) R).length uc] rfl rfl (by kernel_rfl) (zr _ _ _ _) ?_; intro W2 hp2; have z0 : W2.cell? ⟨w.heap.size + 1 + 1, 0, none⟩ = some (.int .i64 n) := zup hp2.here 0; have z1 : W2.cell? ⟨w.heap.size + 1 + 1, 1, none⟩ = some (.slice ua (V.ofC (V.start (f xa xb)) R).length uc) := zup hp2.here 1) | fail)
    have HIV : Hid (Itvs W2 (.slice ua (V.ofC (V.start (f xa xb)) R).length uc) (V.opL n f a b)) := zuq (by rw [HOP.out, HRES.out]; exact hp2.itvs HU.out (fun c hc => by have := HOW.out c hc; omega))
    have HBF := zuq (hp2.below HB9.out (by omega))
    have HOF : Hid (∀ c, (Value.slice ua (V.ofC (V.start (f xa xb)) R).length uc).ownBlock = some c -> w.heap.size ≤ c) := zuq (fun c hc => by have := HOW.out c hc; omega)
    clear hp2
    exact bodyPost_ret (v := .agg #[.int .i64 n, .slice ua (V.ofC (V.start (f xa xb)) R).length uc]) (by simp [results, Tryz.results209, go_sem, z0, z1]) rfl ⟨_, rfl, HIV.out, HOF.out, HBF.out⟩
end Go.Proofs.YtnhfaincdabdkaaGreatDoor
