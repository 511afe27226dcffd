/-
  Lemmas for the law.
-/
import Derived.Test.YtbikeahmldobkaaGreatDoorC50x34
import Derived.Test.YtbikeahmldobkaaGreatDoorC50x13
import Derived.Test.YtbikeahmldobkaaGreatDoorC50x18
import Derived.Test.YtbikeahmldobkaaGreatDoorC50x22
import Derived.Test.YtbikeahmldobkaaGreatDoorC50x19
set_option linter.all false
set_option maxRecDepth 100000
set_option maxHeartbeats 6400000
namespace Go.Proofs.YtbikeahmldobkaaGreatDoor
open Go.RowKit
namespace V
theorem cp_nil (n : Int) : kt n [] = none := rfl
theorem cp_one (n : Int) (a : UInt8) : kt n [a] = none := by
 unfold kt opOf
 by_cases h1 : a = 61
 ·subst h1; simp [zej]
 ·by_cases h2 : a = 60
  ·subst h2; simp [zej]
  ·by_cases h3 : a = 62
   ·subst h3; simp [zej]
   ·simp [h1, h2, h3]
theorem _root_.Go.Proofs.YtbikeahmldobkaaGreatDoor.zz8 {P : Prop} (h : P := by
 rcases h : valid n (61 :: r) with _ | _
 ·rfl
 ·exact absurd (List.mem_cons_self ..) (zmf h (c := 61) (by decide +kernel))) : P := h
theorem cp_dbl (n : Int) (r : Bs) : kt n (61 :: 61 :: r) = none := by
 have hv : valid n (61 :: r) = false := by
  exact zz8
 unfold kt opOf
 simp [hv]
theorem zvu (n : Int) (r : Bs) : valid n (61 :: r) = false := by
 exact zz8
theorem cp2_no {n : Int} {a : UInt8} {r : Bs} (ha : a ≠ 61) (hv : valid n r = false) : kt n (a :: 61 :: r) = none := by
 unfold kt opOf
 by_cases h2 : a = 60
 ·subst h2; simp [hv]
 ·by_cases h3 : a = 62
  ·subst h3; simp [hv]
  ·simp [ha, h2, h3]
theorem cp2_ge {n : Int} {r : Bs} (hv : valid n r = true) : kt n (62 :: 61 :: r) = some (zbm 0 r) := by
 unfold kt opOf; simp [hv]
theorem cp2_le {n : Int} {r : Bs} (hv : valid n r = true) : kt n (60 :: 61 :: r) = some (zbm 1 r) := by
 unfold kt opOf; simp [hv]
theorem cp2_else {n : Int} {a : UInt8} {r : Bs} (ha : a ≠ 61) (h2 : a ≠ 60) (h3 : a ≠ 62) : kt n (a :: 61 :: r) = none := by
 unfold kt opOf; simp [ha, h2, h3]
theorem cp1_no {n : Int} {a b : UInt8} {r : Bs} (hb : b ≠ 61) (hv : valid n (b :: r) = false) : kt n (a :: b :: r) = none := by
 unfold kt opOf
 by_cases h1 : a = 61
 ·subst h1; simp [hv]
 ·by_cases h2 : a = 60
  ·subst h2; simp [hv, hb]
  ·by_cases h3 : a = 62
   ·subst h3; simp [hv, hb]
   ·simp [h1, h2, h3]
theorem cp1_eq {n : Int} {b : UInt8} {r : Bs} (hv : valid n (b :: r) = true) : kt n (61 :: b :: r) = some (zbm 2 (b :: r)) := by
 unfold kt opOf; simp [hv]
theorem cp1_lt {n : Int} {b : UInt8} {r : Bs} (hb : b ≠ 61) (hv : valid n (b :: r) = true) : kt n (60 :: b :: r) = some (zbm 3 (b :: r)) := by
 unfold kt opOf; simp [hv, hb]
theorem cp1_gt {n : Int} {b : UInt8} {r : Bs} (hb : b ≠ 61) (hv : valid n (b :: r) = true) : kt n (62 :: b :: r) = some (zbm 4 (b :: r)) := by
 unfold kt opOf; simp [hv, hb]
theorem cp1_else {n : Int} {a b : UInt8} {r : Bs} (h1 : a ≠ 61) (h2 : a ≠ 60) (h3 : a ≠ 62) : kt n (a :: b :: r) = none := by
 unfold kt opOf; simp [h1, h2, h3]
end V
theorem zio {S : ByteArray} {k : Nat} {l : V.Bs} (h : S.data.toList.drop k = l) : S.extract k S.size = ⟨l.toArray⟩ := by
 apply ye
 rw [Lib.extract_to_end, h]
theorem ztl {S : ByteArray} {k : Nat} {l : V.Bs} (h : S.data.toList.take k = l) : (S.extract 0 k).toList = l := by
 rw [ByteArray.toList_eq, Lib.extract_from_zero, h]
theorem zui {S : ByteArray} {k : Nat} (hk : k < S.size) {c : UInt8} (h : S.data.toList[k]? = some c) : S[k] = c := by
 rw [List.getElem?_eq_getElem (by simpa using hk)] at h
 exact Option.some.inj h
theorem zws {P : Prop} (h : P := by
 go_wp2_with (first | (refine zy rfl 83 _ _ rfl w.heap.size #[.string ⟨#[]⟩, .int .i64 0, .string ⟨#[]⟩, .int .i64 0] _ KX.out rfl #[.string ⟨#[]⟩, .int .i64 0, .string ⟨#[]⟩, .int .i64 0] rfl rfl yx (by simp [Value.oneCell']) ?_; intro W2 hp2; have z0 := zwf hp2.here 0; have z1 := zwf hp2.here 1; have z2 := zwf hp2.here 2; have z3 := zwf hp2.here 3; have HBZ := zwg (hp2.below HB1.out (zwi _)); clear hp2; simp only [List.getElem?_toArray, List.getElem?_cons_zero, List.getElem?_cons_succ] at z0 z1 z2 z3) | fail)
 exact bodyPost_ret (v := .tuple #[.agg #[.string ⟨#[]⟩, .int .i64 0, .string ⟨#[]⟩, .int .i64 0], .bool false]) (by simp [results, Tryz.results164, go_sem, z0, z1, z2, z3]) rfl (jk (y := V.noI) (b := false) (by rw [HR.out]; rfl) HBZ.out)) : P := h
theorem zih (n : Int) (s : V.Bs) (w : World) (hm : zj w) (hs : s.length ≤ 100000) :
  Calls Tryz.prog 164 #[.int .i64 n, .string ⟨s.toArray⟩] w (zpe (V.kt n s) w) := by
 have g5 : Below w.heap.size w (w.alloc (.cells #[.string ⟨#[]⟩, .int .i64 0, .string ⟨#[]⟩, .int .i64 0] 83)) := (zwj _ w).alloc (zwi _) _
 have K0 : Hid ((w.alloc (.cells #[.string ⟨#[]⟩, .int .i64 0, .string ⟨#[]⟩, .int .i64 0] 83)).heap[w.heap.size]? = some (.cells #[.string ⟨#[]⟩, .int .i64 0, .string ⟨#[]⟩, .int .i64 0] 83 (0, 0))) := zwg (by rw [heap_alloc, if_pos rfl])
 have HB0 := zwg g5
 have g4 := zwg (hm.below g5)
 have h0 : Hid ((ByteArray.mk s.toArray).size ≤ 100000) := zwg (by simpa [ByteArray.size] using hs)
 have g2 : Hid ((ByteArray.mk s.toArray).data.toList = s) := zwg rfl
 clear g5 hm hs
 generalize (ByteArray.mk s.toArray) = S at *
 have g7 : Hid (S.size = s.length) := zwg (by rw [← g2.out]; rfl)
 have HV : ∀ k, Hid ((S.extract k S.size).size ≤ maxLen) := fun k => zwg (by
   have := h0.out
   unfold maxLen
   rw [ByteArray.size_extract]
   omega)
 have g6 := HV 1
 have h1 := HV 2
 clear HV
 rcases s with _ | ⟨a, _ | ⟨b, r⟩⟩
 ·have HT : (S.toList == []) = true := by rw [ByteArray.toList_eq, g2.out]; rfl
  have KX := K0
  go_enter Tryz.func164, Tryz.ntmps164
  go_wp2_with (first | (refine zy rfl 83 _ _ rfl w.heap.size #[.string ⟨#[]⟩, .int .i64 0, .string ⟨#[]⟩, .int .i64 0] _ KX.out rfl #[.string ⟨#[]⟩, .int .i64 0, .string ⟨#[]⟩, .int .i64 0] rfl rfl yx (by simp [Value.oneCell']) ?_; intro W2 hp2; have z0 := zwf hp2.here 0; have z1 := zwf hp2.here 1; have z2 := zwf hp2.here 2; have z3 := zwf hp2.here 3; have HBZ := zwg (hp2.below HB0.out (zwi _)); clear hp2; simp only [List.getElem?_toArray, List.getElem?_cons_zero, List.getElem?_cons_succ] at z0 z1 z2 z3) | fail)
  exact bodyPost_ret (v := .tuple #[.agg #[.string ⟨#[]⟩, .int .i64 0, .string ⟨#[]⟩, .int .i64 0], .bool false]) (by simp [results, Tryz.results164, go_sem, z0, z1, z2, z3]) rfl (jk (y := V.noI) (b := false) (by rw [V.cp_nil]; rfl) HBZ.out)
 ·have HT : (S.toList == []) = false := by rw [ByteArray.toList_eq, g2.out]; rfl
  have hz : S.size = 1 := g7.out
  have EX : Hid (S.extract 1 S.size = ⟨([] : V.Bs).toArray⟩) := zwg (zio (by rw [g2.out]; rfl))
  have g8 : ¬ 1 < S.size := by omega
  have g9 : 0 < S.size := by omega
  have h2 : 1 ≤ S.size := by omega
  clear hz
  go_enter Tryz.func164, Tryz.ntmps164
  go_wp2_with fail
  rw [EX.out]
  generalize w.alloc (.cells #[.string ⟨#[]⟩, .int .i64 0, .string ⟨#[]⟩, .int .i64 0] 83) = w0 at *
  refine (kr n ⟨([] : V.Bs).toArray⟩ w0 g4.out (by rw [← EX.out]; exact g6.out)).mono ?_
  rintro e w1 ⟨rfl, hb1⟩
  rw [jq]
  have KX := zwg (zal hb1 K0.out)
  have HB1 := zwh HB0 hb1
  clear hb1
  rw [V.zej]
  go_wp2_with (first | (refine zy rfl 83 _ _ rfl w.heap.size #[.string ⟨#[]⟩, .int .i64 0, .string ⟨#[]⟩, .int .i64 0] _ KX.out rfl #[.string ⟨#[]⟩, .int .i64 0, .string ⟨#[]⟩, .int .i64 0] rfl rfl yx (by simp [Value.oneCell']) ?_; intro W2 hp2; have z0 := zwf hp2.here 0; have z1 := zwf hp2.here 1; have z2 := zwf hp2.here 2; have z3 := zwf hp2.here 3; have HBZ := zwg (hp2.below HB1.out (zwi _)); clear hp2; simp only [List.getElem?_toArray, List.getElem?_cons_zero, List.getElem?_cons_succ] at z0 z1 z2 z3) | fail)
  exact bodyPost_ret (v := .tuple #[.agg #[.string ⟨#[]⟩, .int .i64 0, .string ⟨#[]⟩, .int .i64 0], .bool false]) (by simp [results, Tryz.results164, go_sem, z0, z1, z2, z3]) rfl (jk (y := V.noI) (b := false) (by rw [V.cp_one]; rfl) HBZ.out)
 ·have HT : (S.toList == []) = false := by rw [ByteArray.toList_eq, g2.out]; rfl
  have hz : S.size = r.length + 2 := g7.out
  have g8 : 1 < S.size := by omega
  have g9 : 0 < S.size := by omega
  have h2 : 2 ≤ S.size := by omega
  have hz4 : 1 ≤ S.size := by omega
  have g0 : S[0] = a := zui g9 (by rw [g2.out]; rfl)
  have g1 : S[1] = b := zui g8 (by rw [g2.out]; rfl)
  clear hz
  by_cases hb : b = 61
  ·subst hb
   by_cases ha : a = 61
   ·subst ha
    have G0 : ((S[0].toNat : Int) != 61) = false := by rw [g0]; rfl
    have G1 : (S[1].toNat : Int) = 61 := by rw [g1]; rfl
    clear g0 g1
    have EX : Hid (S.extract 1 S.size = ⟨(61 :: r).toArray⟩) := zwg (zio (by rw [g2.out]; rfl))
    go_enter Tryz.func164, Tryz.ntmps164
    go_wp2_with fail
    rw [EX.out]
    generalize w.alloc (.cells #[.string ⟨#[]⟩, .int .i64 0, .string ⟨#[]⟩, .int .i64 0] 83) = w0 at *
    refine (kr n ⟨(61 :: r).toArray⟩ w0 g4.out (by rw [← EX.out]; exact g6.out)).mono ?_
    rintro e w1 ⟨rfl, hb1⟩
    rw [jq]
    have KX := zwg (zal hb1 K0.out)
    have HB1 := zwh HB0 hb1
    clear hb1
    rw [V.zvu]
    go_wp2_with (first | (refine zy rfl 83 _ _ rfl w.heap.size #[.string ⟨#[]⟩, .int .i64 0, .string ⟨#[]⟩, .int .i64 0] _ KX.out rfl #[.string ⟨#[]⟩, .int .i64 0, .string ⟨#[]⟩, .int .i64 0] rfl rfl yx (by simp [Value.oneCell']) ?_; intro W2 hp2; have z0 := zwf hp2.here 0; have z1 := zwf hp2.here 1; have z2 := zwf hp2.here 2; have z3 := zwf hp2.here 3; have HBZ := zwg (hp2.below HB1.out (zwi _)); clear hp2; simp only [List.getElem?_toArray, List.getElem?_cons_zero, List.getElem?_cons_succ] at z0 z1 z2 z3) | fail)
    exact bodyPost_ret (v := .tuple #[.agg #[.string ⟨#[]⟩, .int .i64 0, .string ⟨#[]⟩, .int .i64 0], .bool false]) (by simp [results, Tryz.results164, go_sem, z0, z1, z2, z3]) rfl (jk (y := V.noI) (b := false) (by rw [V.cp_dbl]; rfl) HBZ.out)
   ·have G0 : ((S[0].toNat : Int) != 61) = true := by rw [g0, bne_iff_ne]; intro e; exact ha (UInt8.toNat_inj.1 (by rw [show (61 : UInt8).toNat = 61 from rfl]; omega))
    have G1 : (S[1].toNat : Int) = 61 := by rw [g1]; rfl
    clear g0 g1
    have EX : Hid (S.extract 2 S.size = ⟨r.toArray⟩) := zwg (zio (by rw [g2.out]; rfl))
    have ET : Hid ((S.extract 0 2).toList = [a, 61]) := zwg (ztl (by rw [g2.out]; rfl))
    have HA := zwg ha
    clear ha
    go_enter Tryz.func164, Tryz.ntmps164
    go_wp2_with fail
    rw [EX.out]
    generalize w.alloc (.cells #[.string ⟨#[]⟩, .int .i64 0, .string ⟨#[]⟩, .int .i64 0] 83) = w0 at *
    refine (kr n ⟨(r).toArray⟩ w0 g4.out (by rw [← EX.out]; exact h1.out)).mono ?_
    rintro e w1 ⟨rfl, hb1⟩
    rw [jq]
    have KX := zwg (zal hb1 K0.out)
    have HB1 := zwh HB0 hb1
    clear hb1
    rcases hv : V.valid n r with _ | _
    ·have HR := zwg (V.cp2_no HA.out hv)
     clear hv
     exact zws
    ·by_cases h60 : a = 60
     ·subst h60
      have HR := zwg (V.cp2_le hv)
      clear hv
      have o0 : ((S.extract 0 2).toList == [61]) = false := by rw [ET.out]; rfl
      have o1 : ((S.extract 0 2).toList == [60]) = false := by rw [ET.out]; rfl
      have o2 : ((S.extract 0 2).toList == [60, 61]) = true := by rw [ET.out]; rfl
      go_wp2_with (first | (refine zy rfl 83 _ _ rfl w.heap.size #[.string ⟨#[]⟩, .int .i64 0, .string ⟨#[]⟩, .int .i64 0] _ KX.out rfl #[.string ⟨#[]⟩, .int .i64 0, .string ⟨r.toArray⟩, .int .i64 1] rfl rfl yx (by simp [Value.oneCell']) ?_; intro W2 hp2; have z0 := zwf hp2.here 0; have z1 := zwf hp2.here 1; have z2 := zwf hp2.here 2; have z3 := zwf hp2.here 3; have HBZ := zwg (hp2.below HB1.out (zwi _)); clear hp2; simp only [List.getElem?_toArray, List.getElem?_cons_zero, List.getElem?_cons_succ] at z0 z1 z2 z3) | fail)
      exact bodyPost_ret (v := .tuple #[.agg #[.string ⟨#[]⟩, .int .i64 0, .string ⟨r.toArray⟩, .int .i64 1], .bool true]) (by simp [results, Tryz.results164, go_sem, z0, z1, z2, z3]) rfl (jk (y := V.zbm 1 r) (b := true) (by rw [HR.out]; rfl) HBZ.out)
     ·by_cases h62 : a = 62
      ·subst h62
       have HR := zwg (V.cp2_ge hv)
       clear hv
       have o0 : ((S.extract 0 2).toList == [61]) = false := by rw [ET.out]; rfl
       have o1 : ((S.extract 0 2).toList == [60]) = false := by rw [ET.out]; rfl
       have o2 : ((S.extract 0 2).toList == [60, 61]) = false := by rw [ET.out]; rfl
       have o3 : ((S.extract 0 2).toList == [62]) = false := by rw [ET.out]; rfl
       have o4 : ((S.extract 0 2).toList == [62, 61]) = true := by rw [ET.out]; rfl
       go_wp2_with (first | (refine zy rfl 83 _ _ rfl w.heap.size #[.string ⟨#[]⟩, .int .i64 0, .string ⟨#[]⟩, .int .i64 0] _ KX.out rfl #[.string ⟨r.toArray⟩, .int .i64 1, .string ⟨#[]⟩, .int .i64 0] rfl rfl yx (by simp [Value.oneCell']) ?_; intro W2 hp2; have z0 := zwf hp2.here 0; have z1 := zwf hp2.here 1; have z2 := zwf hp2.here 2; have z3 := zwf hp2.here 3; have HBZ := zwg (hp2.below HB1.out (zwi _)); clear hp2; simp only [List.getElem?_toArray, List.getElem?_cons_zero, List.getElem?_cons_succ] at z0 z1 z2 z3) | fail)
       exact bodyPost_ret (v := .tuple #[.agg #[.string ⟨r.toArray⟩, .int .i64 1, .string ⟨#[]⟩, .int .i64 0], .bool true]) (by simp [results, Tryz.results164, go_sem, z0, z1, z2, z3]) rfl (jk (y := V.zbm 0 r) (b := true) (by rw [HR.out]; rfl) HBZ.out)
      ·have g3 := HA.out
       have HR := zwg (V.cp2_else (n := n) (r := r) g3 h60 h62)
       clear hv
       have o0 : ((S.extract 0 2).toList == [61]) = false := by rw [ET.out]; simp
       have o1 : ((S.extract 0 2).toList == [60]) = false := by rw [ET.out]; simp
       have o2 : ((S.extract 0 2).toList == [60, 61]) = false := by rw [ET.out]; simp [h60]
       have o3 : ((S.extract 0 2).toList == [62]) = false := by rw [ET.out]; simp
       have o4 : ((S.extract 0 2).toList == [62, 61]) = false := by rw [ET.out]; simp [h62]
       clear h60 g3 h62
       exact zws
  ·have G1 : ¬ (S[1].toNat : Int) = 61 := by rw [g1]; intro e; exact hb (UInt8.toNat_inj.1 (by rw [show (61 : UInt8).toNat = 61 from rfl]; omega))
   clear g0 g1
   have EX : Hid (S.extract 1 S.size = ⟨(b :: r).toArray⟩) := zwg (zio (by rw [g2.out]; rfl))
   have ET : Hid ((S.extract 0 1).toList = [a]) := zwg (ztl (by rw [g2.out]; rfl))
   have HA := zwg hb
   clear hb
   go_enter Tryz.func164, Tryz.ntmps164
   go_wp2_with fail
   rw [EX.out]
   generalize w.alloc (.cells #[.string ⟨#[]⟩, .int .i64 0, .string ⟨#[]⟩, .int .i64 0] 83) = w0 at *
   refine (kr n ⟨(b :: r).toArray⟩ w0 g4.out (by rw [← EX.out]; exact g6.out)).mono ?_
   rintro e w1 ⟨rfl, hb1⟩
   rw [jq]
   have KX := zwg (zal hb1 K0.out)
   have HB1 := zwh HB0 hb1
   clear hb1
   rcases hv : V.valid n (b :: r) with _ | _
   ·have HR := zwg (V.cp1_no (a := a) HA.out hv)
    clear hv
    exact zws
   ·by_cases g3 : a = 61
    ·subst g3
     have HR := zwg (V.cp1_eq hv)
     clear hv
     have o0 : ((S.extract 0 1).toList == [61]) = true := by rw [ET.out]; rfl
     generalize b :: r = u at *
     go_wp2_with (first | (refine zy rfl 83 _ _ rfl w.heap.size #[.string ⟨#[]⟩, .int .i64 0, .string ⟨#[]⟩, .int .i64 0] _ KX.out rfl #[.string ⟨u.toArray⟩, .int .i64 1, .string ⟨u.toArray⟩, .int .i64 1] rfl rfl yx (by simp [Value.oneCell']) ?_; intro W2 hp2; have z0 := zwf hp2.here 0; have z1 := zwf hp2.here 1; have z2 := zwf hp2.here 2; have z3 := zwf hp2.here 3; have HBZ := zwg (hp2.below HB1.out (zwi _)); clear hp2; simp only [List.getElem?_toArray, List.getElem?_cons_zero, List.getElem?_cons_succ] at z0 z1 z2 z3) | fail)
     exact bodyPost_ret (v := .tuple #[.agg #[.string ⟨u.toArray⟩, .int .i64 1, .string ⟨u.toArray⟩, .int .i64 1], .bool true]) (by simp [results, Tryz.results164, go_sem, z0, z1, z2, z3]) rfl (jk (y := V.zbm 2 u) (b := true) (by rw [HR.out]; rfl) HBZ.out)
    ·by_cases h60 : a = 60
     ·subst h60
      have HR := zwg (V.cp1_lt HA.out hv)
      clear hv
      have o0 : ((S.extract 0 1).toList == [61]) = false := by rw [ET.out]; rfl
      have o1 : ((S.extract 0 1).toList == [60]) = true := by rw [ET.out]; rfl
      generalize b :: r = u at *
      go_wp2_with (first | (refine zy rfl 83 _ _ rfl w.heap.size #[.string ⟨#[]⟩, .int .i64 0, .string ⟨#[]⟩, .int .i64 0] _ KX.out rfl #[.string ⟨#[]⟩, .int .i64 0, .string ⟨u.toArray⟩, .int .i64 2] rfl rfl yx (by simp [Value.oneCell']) ?_; intro W2 hp2; have z0 := zwf hp2.here 0; have z1 := zwf hp2.here 1; have z2 := zwf hp2.here 2; have z3 := zwf hp2.here 3; have HBZ := zwg (hp2.below HB1.out (zwi _)); clear hp2; simp only [List.getElem?_toArray, List.getElem?_cons_zero, List.getElem?_cons_succ] at z0 z1 z2 z3) | fail)
      exact bodyPost_ret (v := .tuple #[.agg #[.string ⟨#[]⟩, .int .i64 0, .string ⟨u.toArray⟩, .int .i64 2], .bool true]) (by simp [results, Tryz.results164, go_sem, z0, z1, z2, z3]) rfl (jk (y := V.zbm 3 u) (b := true) (by rw [HR.out]; rfl) HBZ.out)
     ·by_cases h62 : a = 62
      ·subst h62
       have HR := zwg (V.cp1_gt HA.out hv)
       clear hv
       have o0 : ((S.extract 0 1).toList == [61]) = false := by rw [ET.out]; rfl
       have o1 : ((S.extract 0 1).toList == [60]) = false := by rw [ET.out]; rfl
       have o2 : ((S.extract 0 1).toList == [60, 61]) = false := by rw [ET.out]; rfl
       have o3 : ((S.extract 0 1).toList == [62]) = true := by rw [ET.out]; rfl
       generalize b :: r = u at *
       go_wp2_with (first | (refine zy rfl 83 _ _ rfl w.heap.size #[.string ⟨#[]⟩, .int .i64 0, .string ⟨#[]⟩, .int .i64 0] _ KX.out rfl #[.string ⟨u.toArray⟩, .int .i64 2, .string ⟨#[]⟩, .int .i64 0] rfl rfl yx (by simp [Value.oneCell']) ?_; intro W2 hp2; have z0 := zwf hp2.here 0; have z1 := zwf hp2.here 1; have z2 := zwf hp2.here 2; have z3 := zwf hp2.here 3; have HBZ := zwg (hp2.below HB1.out (zwi _)); clear hp2; simp only [List.getElem?_toArray, List.getElem?_cons_zero, List.getElem?_cons_succ] at z0 z1 z2 z3) | fail)
       exact bodyPost_ret (v := .tuple #[.agg #[.string ⟨u.toArray⟩, .int .i64 2, .string ⟨#[]⟩, .int .i64 0], .bool true]) (by simp [results, Tryz.results164, go_sem, z0, z1, z2, z3]) rfl (jk (y := V.zbm 4 u) (b := true) (by rw [HR.out]; rfl) HBZ.out)
      ·have HR := zwg (V.cp1_else (n := n) (b := b) (r := r) g3 h60 h62)
       clear hv
       have o0 : ((S.extract 0 1).toList == [61]) = false := by rw [ET.out]; simp [g3]
       have o1 : ((S.extract 0 1).toList == [60]) = false := by rw [ET.out]; simp [h60]
       have o2 : ((S.extract 0 1).toList == [60, 61]) = false := by rw [ET.out]; simp
       have o3 : ((S.extract 0 1).toList == [62]) = false := by rw [ET.out]; simp [h62]
       have o4 : ((S.extract 0 1).toList == [62, 61]) = false := by rw [ET.out]; simp
       clear h60 g3 h62
       exact zws
open Go.RowKit
theorem zyw {P : Prop} (h : P := by
 (try dsimp only); go_split_ands; exact ⟨zj.below (by assumption) hbc5, zwm hbc5, zwm hbc5, zwm hbc5, zwm hbc5, zwm hbc5, zwm hbc5, zwm hbc5, zwm hbc5, zwm hbc5, zwm hbc5, zwm hbc5⟩) : P := h
theorem zyx {P : Prop} (h : P := by
 (try dsimp only); go_split_ands; exact ⟨zj.below (by assumption) hbc3, zwm hbc3, zwm hbc3, zwm hbc3, zwm hbc3, zwm hbc3, zwm hbc3, zwm hbc3, zwm hbc3, zwm hbc3, zwm hbc3, zwm hbc3⟩) : P := h
theorem z0c {P : Prop} (h : P := by
 go_wp2
 go_roundw
 case rel => exact ⟨k + 1, by omega, by go_num, HY.out, HBZ.out⟩
 case measure => simp [intOf]; omega) : P := h
theorem zat (n : Int) (v : Value) (l : List V.Itv) (a b : V.Ec) (w : World) (hm : zj w) (hn : V.scheme n = true) (hv : Itvs w v l) (hB : ∀ x ∈ l, V.zr n x = true) (ha : V.EcOk n a) (hb : V.EcOk n b) (hl : l.length ≤ 1000) :
  Calls Tryz.prog 205 #[setV n v, ecV a, ecV b] w fun e w' => e = .returned (.bool (V.ju n l a b)) /\ Below w.heap.size w w' := by
 have HV := zwg hv
 obtain ⟨va, vc, rfl⟩ := hv.slice
 have HA := zwg ha
 have HBE := zwg hb
 have HSC := zwg hn
 have h8 := zwg hB
 obtain ⟨p, hp⟩ : ∃ p : V.Itv -> Bool, p = fun x => decide (V.ecmp n (V.eLow x) a ≤ 0) && decide (V.ecmp n b (V.ky x) ≤ 0) := ⟨_, rfl⟩
 have HF : Hid (V.ju n l a b = l.any p) := zwg (by rw [hp]; rfl)
 have HP := zwg hp
 have g4 : Below w.heap.size w (((w.alloc (.cells #[.int .i64 n, .slice va l.length vc] 68)).alloc (.cells #[.int .i64 a.e, .string ⟨a.v.toArray⟩, .int .i64 a.s] 168)).alloc (.cells #[.int .i64 b.e, .string ⟨b.v.toArray⟩, .int .i64 b.s] 168)) := (((zwj _ _).alloc (zwi _) _).alloc (by simp) _).alloc (by simp; omega) _
 have HB0 := zwg g4
 have HM := zwg (hm.below g4)
 have c0 : (((w.alloc (.cells #[.int .i64 n, .slice va l.length vc] 68)).alloc (.cells #[.int .i64 a.e, .string ⟨a.v.toArray⟩, .int .i64 a.s] 168)).alloc (.cells #[.int .i64 b.e, .string ⟨b.v.toArray⟩, .int .i64 b.s] 168)).cell? ⟨w.heap.size, 0, none⟩ = some (.int .i64 n) := by simp [zh]; try omega
 have c1 : (((w.alloc (.cells #[.int .i64 n, .slice va l.length vc] 68)).alloc (.cells #[.int .i64 a.e, .string ⟨a.v.toArray⟩, .int .i64 a.s] 168)).alloc (.cells #[.int .i64 b.e, .string ⟨b.v.toArray⟩, .int .i64 b.s] 168)).cell? ⟨w.heap.size, 1, none⟩ = some (.slice va l.length vc) := by simp [zh]; try omega
 have a0 : (((w.alloc (.cells #[.int .i64 n, .slice va l.length vc] 68)).alloc (.cells #[.int .i64 a.e, .string ⟨a.v.toArray⟩, .int .i64 a.s] 168)).alloc (.cells #[.int .i64 b.e, .string ⟨b.v.toArray⟩, .int .i64 b.s] 168)).cell? ⟨w.heap.size + 1, 0, none⟩ = some (.int .i64 a.e) := by simp [zh]
 have a1 : (((w.alloc (.cells #[.int .i64 n, .slice va l.length vc] 68)).alloc (.cells #[.int .i64 a.e, .string ⟨a.v.toArray⟩, .int .i64 a.s] 168)).alloc (.cells #[.int .i64 b.e, .string ⟨b.v.toArray⟩, .int .i64 b.s] 168)).cell? ⟨w.heap.size + 1, 1, none⟩ = some (.string ⟨a.v.toArray⟩) := by simp [zh]
 have a2 : (((w.alloc (.cells #[.int .i64 n, .slice va l.length vc] 68)).alloc (.cells #[.int .i64 a.e, .string ⟨a.v.toArray⟩, .int .i64 a.s] 168)).alloc (.cells #[.int .i64 b.e, .string ⟨b.v.toArray⟩, .int .i64 b.s] 168)).cell? ⟨w.heap.size + 1, 2, none⟩ = some (.int .i64 a.s) := by simp [zh]
 have b0 : (((w.alloc (.cells #[.int .i64 n, .slice va l.length vc] 68)).alloc (.cells #[.int .i64 a.e, .string ⟨a.v.toArray⟩, .int .i64 a.s] 168)).alloc (.cells #[.int .i64 b.e, .string ⟨b.v.toArray⟩, .int .i64 b.s] 168)).cell? ⟨w.heap.size + 1 + 1, 0, none⟩ = some (.int .i64 b.e) := by simp [zh]
 have b1 : (((w.alloc (.cells #[.int .i64 n, .slice va l.length vc] 68)).alloc (.cells #[.int .i64 a.e, .string ⟨a.v.toArray⟩, .int .i64 a.s] 168)).alloc (.cells #[.int .i64 b.e, .string ⟨b.v.toArray⟩, .int .i64 b.s] 168)).cell? ⟨w.heap.size + 1 + 1, 1, none⟩ = some (.string ⟨b.v.toArray⟩) := by simp [zh]
 have b2 : (((w.alloc (.cells #[.int .i64 n, .slice va l.length vc] 68)).alloc (.cells #[.int .i64 a.e, .string ⟨a.v.toArray⟩, .int .i64 a.s] 168)).alloc (.cells #[.int .i64 b.e, .string ⟨b.v.toArray⟩, .int .i64 b.s] 168)).cell? ⟨w.heap.size + 1 + 1, 2, none⟩ = some (.int .i64 b.s) := by simp [zh]
 have HC := zwg (And.intro c0 (And.intro c1 (And.intro a0 (And.intro a1 (And.intro a2 (And.intro b0 (And.intro b1 b2)))))))
 clear hv g4 hm c0 a0 a1 a2 b0 b1 b2 ha hb hn hB
 unfold setV ecV
 go_enter Tryz.func205, Tryz.ntmps205
 go_wp2
 clear c1
 generalize ((w.alloc (.cells #[.int .i64 n, .slice va l.length vc] 68)).alloc (.cells #[.int .i64 a.e, .string ⟨a.v.toArray⟩, .int .i64 a.s] 168)).alloc (.cells #[.int .i64 b.e, .string ⟨b.v.toArray⟩, .int .i64 b.s] 168) = w0 at *
 go_loopw [7] (fun iv wx => ∃ k : Nat, k ≤ l.length /\ iv = .int .i64 k /\ (l.take k).any p = false /\ Below w0.heap.size w0 wx) (fun iv _ => l.length - (intOf iv).toNat)
 case atStart => exact ⟨0, Nat.zero_le _, rfl, rfl, zwj _ _⟩
 case round =>
  obtain ⟨k, hk, rfl, hz, g5⟩ := hrel
  have HZ := zwg hz
  have HBX := zwg g5
  have HBF := zwh HB0 g5
  have d1 := ze HBX.out HC.out.2.1
  clear hz g5
  by_cases hlt : k < l.length
  ·obtain ⟨g, off, rfl, g4, hx⟩ := HV.out.at k hlt
   obtain ⟨h0, h1, h2, h3⟩ := hx.below g4 HBF.out
   have j0 : (0 : Int) ≤ (k : Int) := by omega
   have j1 : (k : Int) < (l.length : Int) := by omega
   have HBK : Hid (V.zr n l[k] = true) := zwg (h8.out _ (List.getElem_mem hlt))
   have HYES := zwg (fun hb => zj9 (p := p) HZ.out hlt hb)
   have HNO := zwg (fun hb => zn2 (p := p) hlt hb)
   clear hx
   generalize l[k] = x at *
   have g6 : Hid (p x = (decide (V.ecmp n (V.eLow x) a ≤ 0) && decide (V.ecmp n b (V.ky x) ≤ 0))) := zwg (by rw [HP.out])
   have hbA : Below wr.heap.size wr (wr.alloc (.cells #[.string ⟨x.lo.toArray⟩, .int .i64 x.lk, .string ⟨x.hi.toArray⟩, .int .i64 x.hk] 83)) := (zwj _ wr).alloc (zwi _) _
   have h5 := zwg ((HM.out.below HBX.out).below hbA)
   have g2 := zwh HBX hbA
   have e0 := ze g2.out HC.out.1
   have a0 := ze g2.out HC.out.2.2.1
   have a1 := ze g2.out HC.out.2.2.2.1
   have a2 := ze g2.out HC.out.2.2.2.2.1
   have b0 := ze g2.out HC.out.2.2.2.2.2.1
   have b1 := ze g2.out HC.out.2.2.2.2.2.2.1
   have b2 := ze g2.out HC.out.2.2.2.2.2.2.2
   have h6 : zcb (wr.alloc (.cells #[.string ⟨x.lo.toArray⟩, .int .i64 x.lk, .string ⟨x.hi.toArray⟩, .int .i64 x.hk] 83)) wr.heap.size 0 x := by
    exact z0p
   have h9 := zwg h6
   clear hbA h6
   go_wp2_with fail
   generalize wr.alloc (.cells #[.string ⟨x.lo.toArray⟩, .int .i64 x.lk, .string ⟨x.hi.toArray⟩, .int .i64 x.hk] 83) = W1 at *
   obtain ⟨f0, f1, f2, f3⟩ := h9.out
   rw [Nat.zero_add] at f1 f2 f3
   clear h0 h1 h2 h3 d1
   obtain ⟨z, hz⟩ : ∃ z, z = V.ecmp n (V.eLow x) a := ⟨_, rfl⟩
   obtain ⟨z2, g7⟩ : ∃ z, z = V.ecmp n b (V.ky x) := ⟨_, rfl⟩
   have g8 := zwg (yq n (V.eLow x) a)
   have h7 := zwg (yq n b (V.ky x))
   rw [← hz, ← g7] at g6
   rw [← hz] at g8
   rw [← g7] at h7
   clear hz g7
   by_cases hz0 : z ≤ 0
   ·have hd : decide (z ≤ 0) = true := decide_eq_true hz0
    have g9 : Hid (p x = decide (z2 ≤ 0)) := zwg (by rw [g6.out, hd]; rfl)
    clear hz0
    refine wp_region_held_drew (S := (fun W' => zj W' /\ W'.cell? ⟨w.heap.size, 0, none⟩ = some (.int .i64 n) /\ W'.cell? ⟨wr.heap.size, 0, none⟩ = some (.string ⟨x.lo.toArray⟩) /\ W'.cell? ⟨wr.heap.size, 1, none⟩ = some (.int .i64 x.lk) /\ W'.cell? ⟨wr.heap.size, 2, none⟩ = some (.string ⟨x.hi.toArray⟩) /\ W'.cell? ⟨wr.heap.size, 3, none⟩ = some (.int .i64 x.hk) /\ W'.cell? ⟨w.heap.size + 1, 0, none⟩ = some (.int .i64 a.e) /\ W'.cell? ⟨w.heap.size + 1, 1, none⟩ = some (.string ⟨a.v.toArray⟩) /\ W'.cell? ⟨w.heap.size + 1, 2, none⟩ = some (.int .i64 a.s) /\ W'.cell? ⟨w.heap.size + 1 + 1, 0, none⟩ = some (.int .i64 b.e) /\ W'.cell? ⟨w.heap.size + 1 + 1, 1, none⟩ = some (.string ⟨b.v.toArray⟩) /\ W'.cell? ⟨w.heap.size + 1 + 1, 2, none⟩ = some (.int .i64 b.s))) (by kernel_rfl) (by (try dsimp only); (try simp only [World.cell?_drew]); exact ⟨h5.out.below (zwj _ _).drew, e0, f0, f1, f2, f3, a0, a1, a2, b0, b1, b2⟩) (fun hHeld => ?_)
    refine tk 0 ?_
    refine tk 1 ?_
    refine tk 2 ?_
    refine tk 4 ?_
    refine rd 3 fun K hK => ?_
    go_simp
    refine (vu x _).mono ?_
    rintro e wc3 ⟨rfl, hbc3⟩
    try dsimp only
    refine hK.out _ _ ?_ (fun hHeld => ?_)
    ·exact zyx
    clear hK K
    try simp only [zwb, zwc, zwd, Act.put, zwe, List.set_cons_succ, List.set_cons_zero]
    refine rd 5 fun K hK => ?_
    go_simp
    refine (g8.out _ (by first | assumption | exact And.left (by assumption)) HSC.out (V.zar HBK.out) HA.out).mono ?_
    rintro e wc5 ⟨rfl, hbc5⟩
    try dsimp only
    refine hK.out _ _ ?_ (fun hHeld => ?_)
    ·exact zyw
    clear hK K
    try simp only [zwb, zwc, zwd, Act.put, zwe, List.set_cons_succ, List.set_cons_zero]
    refine tk 6 ?_
    refine tk 7 ?_
    refine tk 8 ?_
    refine tk 9 ?_
    refine tk 10 ?_
    refine tk 11 ?_
    refine rd 12 fun K hK => ?_
    go_simp
    refine (wi x _).mono ?_
    rintro e wc12 ⟨rfl, g0⟩
    try dsimp only
    refine hK.out _ _ ?_ (fun hHeld => ?_)
    ·(try dsimp only); go_split_ands; exact ⟨zj.below (by assumption) g0, zwm g0, zwm g0, zwm g0, zwm g0, zwm g0, zwm g0, zwm g0, zwm g0, zwm g0, zwm g0, zwm g0⟩
    clear hK K
    try simp only [zwb, zwc, zwd, Act.put, zwe, List.set_cons_succ, List.set_cons_zero]
    refine rd 13 fun K hK => ?_
    go_simp
    refine (h7.out _ (by first | assumption | exact And.left (by assumption)) HSC.out HBE.out (V.za5 HBK.out)).mono ?_
    rintro e wc13 ⟨rfl, g1⟩
    try dsimp only
    refine hK.out _ _ ?_ (fun hHeld => ?_)
    ·(try dsimp only); go_split_ands; exact ⟨zj.below (by assumption) g1, zwm g1, zwm g1, zwm g1, zwm g1, zwm g1, zwm g1, zwm g1, zwm g1, zwm g1, zwm g1, zwm g1⟩
    clear hK K
    try simp only [zwb, zwc, zwd, Act.put, zwe, List.set_cons_succ, List.set_cons_zero]
    refine tk 14 ?_
    refine tk 15 ?_
    refine wpAnyH_done (by kernel_rfl) ?_ _
    have g3 : Below W1.heap.size W1 wc5 := ((zwj W1.heap.size W1).drew.trans (show Below W1.heap.size W1.drew wc3 from hbc3)).trans (hbc5.mono (show W1.heap.size ≤ wc3.heap.size from hbc3.size))
    have h4 : Below wc5.heap.size wc5 wc13 := g0.trans (g1.mono g0.size)
    have HBZ := zwg (g2.out.trans ((g3.trans (h4.mono g3.size)).mono g2.out.size))
    clear hbc3 hbc5 g0 g1 hHeld g3 h4
    by_cases hz3 : z2 ≤ 0
    ·have HR : Hid (V.ju n l a b = true) := zwg (by rw [HF.out]; exact HNO.out (by rw [g9.out]; exact decide_eq_true hz3))
     go_wp2
     go_ret
     exact ⟨zg HR.out.symm, HB0.out.trans (HBZ.out.mono HB0.out.size)⟩
    ·have HY := zwg (HYES.out (by rw [g9.out]; exact decide_eq_false hz3))
     exact z0c
   ·have hd : decide (z ≤ 0) = false := decide_eq_false hz0
    have HY := zwg (HYES.out (by rw [g6.out, hd]; rfl))
    clear hz0
    refine wp_region_held_drew (S := (fun W' => zj W' /\ W'.cell? ⟨w.heap.size, 0, none⟩ = some (.int .i64 n) /\ W'.cell? ⟨wr.heap.size, 0, none⟩ = some (.string ⟨x.lo.toArray⟩) /\ W'.cell? ⟨wr.heap.size, 1, none⟩ = some (.int .i64 x.lk) /\ W'.cell? ⟨wr.heap.size, 2, none⟩ = some (.string ⟨x.hi.toArray⟩) /\ W'.cell? ⟨wr.heap.size, 3, none⟩ = some (.int .i64 x.hk) /\ W'.cell? ⟨w.heap.size + 1, 0, none⟩ = some (.int .i64 a.e) /\ W'.cell? ⟨w.heap.size + 1, 1, none⟩ = some (.string ⟨a.v.toArray⟩) /\ W'.cell? ⟨w.heap.size + 1, 2, none⟩ = some (.int .i64 a.s) /\ W'.cell? ⟨w.heap.size + 1 + 1, 0, none⟩ = some (.int .i64 b.e) /\ W'.cell? ⟨w.heap.size + 1 + 1, 1, none⟩ = some (.string ⟨b.v.toArray⟩) /\ W'.cell? ⟨w.heap.size + 1 + 1, 2, none⟩ = some (.int .i64 b.s))) (by kernel_rfl) (by (try dsimp only); (try simp only [World.cell?_drew]); exact ⟨h5.out.below (zwj _ _).drew, e0, f0, f1, f2, f3, a0, a1, a2, b0, b1, b2⟩) (fun hHeld => ?_)
    refine tk 0 ?_
    refine tk 1 ?_
    refine tk 2 ?_
    refine tk 4 ?_
    refine rd 3 fun K hK => ?_
    go_simp
    refine (vu x _).mono ?_
    rintro e wc3 ⟨rfl, hbc3⟩
    try dsimp only
    refine hK.out _ _ ?_ (fun hHeld => ?_)
    ·exact zyx
    clear hK K
    try simp only [zwb, zwc, zwd, Act.put, zwe, List.set_cons_succ, List.set_cons_zero]
    refine rd 5 fun K hK => ?_
    go_simp
    refine (g8.out _ (by first | assumption | exact And.left (by assumption)) HSC.out (V.zar HBK.out) HA.out).mono ?_
    rintro e wc5 ⟨rfl, hbc5⟩
    try dsimp only
    refine hK.out _ _ ?_ (fun hHeld => ?_)
    ·exact zyw
    clear hK K
    try simp only [zwb, zwc, zwd, Act.put, zwe, List.set_cons_succ, List.set_cons_zero]
    refine tk 6 ?_
    refine tk 7 ?_
    refine tu 8 ?_
    refine tu 9 ?_
    refine tu 10 ?_
    refine tu 11 ?_
    refine tu 12 ?_
    refine tu 13 ?_
    refine tu 14 ?_
    refine tk 15 ?_
    refine wpAnyH_done (by kernel_rfl) ?_ _
    have g3 : Below W1.heap.size W1 wc5 := ((zwj W1.heap.size W1).drew.trans (show Below W1.heap.size W1.drew wc3 from hbc3)).trans (hbc5.mono (show W1.heap.size ≤ wc3.heap.size from hbc3.size))
    have HBZ := zwh g2 g3
    clear hbc3 hbc5 hHeld g3
    exact z0c
  ·obtain rfl : k = l.length := by omega
   have HR : Hid (V.ju n l a b = false) := zwg (by rw [HF.out]; have := HZ.out; rwa [List.take_length] at this)
   go_wp2
   go_ret
   exact ⟨zg HR.out.symm, HBF.out⟩
end Go.Proofs.YtbikeahmldobkaaGreatDoor
