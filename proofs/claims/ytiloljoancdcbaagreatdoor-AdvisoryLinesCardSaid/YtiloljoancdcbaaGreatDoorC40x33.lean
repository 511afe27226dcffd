/-
  Lemmas for the law.
-/
import Derived.Test.YtiloljoancdcbaaGreatDoorC40x31
import Derived.Test.YtiloljoancdcbaaGreatDoorC40x12
import Derived.Test.YtiloljoancdcbaaGreatDoorC40x19
import Derived.Test.YtiloljoancdcbaaGreatDoorC40x24
import Derived.Test.YtiloljoancdcbaaGreatDoorC40x20
set_option linter.all false
set_option maxRecDepth 100000
set_option maxHeartbeats 6400000
namespace Go.Proofs.YtiloljoancdcbaaGreatDoor
open Go.RowKit
namespace V
theorem cp_nil (n : Int) : jp n [] = none := rfl
theorem cp_one (n : Int) (a : UInt8) : jp n [a] = none := by
 unfold jp opOf
 by_cases h1 : a = 61
 ·subst h1; simp [zcj]
 ·by_cases h2 : a = 60
  ·subst h2; simp [zcj]
  ·by_cases h3 : a = 62
   ·subst h3; simp [zcj]
   ·simp [h1, h2, h3]
theorem _root_.Go.Proofs.YtiloljoancdcbaaGreatDoor.z01 {P : Prop} (h : P := by
 rcases h : valid n (61 :: r) with _ | _
 ·rfl
 ·exact absurd (List.mem_cons_self ..) (zes h (c := 61) (by decide +kernel))) : P := h
theorem cp_dbl (n : Int) (r : Bs) : jp n (61 :: 61 :: r) = none := by
 have hv : valid n (61 :: r) = false := by
  exact z01
 unfold jp opOf
 simp [hv]
theorem zu3 (n : Int) (r : Bs) : valid n (61 :: r) = false := by
 exact z01
theorem cp2_no {n : Int} {a : UInt8} {r : Bs} (ha : a ≠ 61) (hv : valid n r = false) : jp n (a :: 61 :: r) = none := by
 unfold jp opOf
 by_cases h2 : a = 60
 ·subst h2; simp [hv]
 ·by_cases h3 : a = 62
  ·subst h3; simp [hv]
  ·simp [ha, h2, h3]
theorem cp2_ge {n : Int} {r : Bs} (hv : valid n r = true) : jp n (62 :: 61 :: r) = some (kf 0 r) := by
 unfold jp opOf; simp [hv]
theorem cp2_le {n : Int} {r : Bs} (hv : valid n r = true) : jp n (60 :: 61 :: r) = some (kf 1 r) := by
 unfold jp opOf; simp [hv]
theorem cp2_else {n : Int} {a : UInt8} {r : Bs} (ha : a ≠ 61) (h2 : a ≠ 60) (h3 : a ≠ 62) : jp n (a :: 61 :: r) = none := by
 unfold jp opOf; simp [ha, h2, h3]
theorem cp1_no {n : Int} {a b : UInt8} {r : Bs} (hb : b ≠ 61) (hv : valid n (b :: r) = false) : jp n (a :: b :: r) = none := by
 unfold jp opOf
 by_cases h1 : a = 61
 ·subst h1; simp [hv]
 ·by_cases h2 : a = 60
  ·subst h2; simp [hv, hb]
  ·by_cases h3 : a = 62
   ·subst h3; simp [hv, hb]
   ·simp [h1, h2, h3]
theorem cp1_eq {n : Int} {b : UInt8} {r : Bs} (hv : valid n (b :: r) = true) : jp n (61 :: b :: r) = some (kf 2 (b :: r)) := by
 unfold jp opOf; simp [hv]
theorem cp1_lt {n : Int} {b : UInt8} {r : Bs} (hb : b ≠ 61) (hv : valid n (b :: r) = true) : jp n (60 :: b :: r) = some (kf 3 (b :: r)) := by
 unfold jp opOf; simp [hv, hb]
theorem cp1_gt {n : Int} {b : UInt8} {r : Bs} (hb : b ≠ 61) (hv : valid n (b :: r) = true) : jp n (62 :: b :: r) = some (kf 4 (b :: r)) := by
 unfold jp opOf; simp [hv, hb]
theorem cp1_else {n : Int} {a b : UInt8} {r : Bs} (h1 : a ≠ 61) (h2 : a ≠ 60) (h3 : a ≠ 62) : jp n (a :: b :: r) = none := by
 unfold jp opOf; simp [h1, h2, h3]
end V
theorem zi6 {S : ByteArray} {k : Nat} {l : V.Bs} (h : S.data.toList.drop k = l) : S.extract k S.size = ⟨l.toArray⟩ := by
 apply jj
 rw [Lib.extract_to_end, h]
theorem zth {S : ByteArray} {k : Nat} {l : V.Bs} (h : S.data.toList.take k = l) : (S.extract 0 k).toList = l := by
 rw [ByteArray.toList_eq, Lib.extract_from_zero, h]
theorem zuf {S : ByteArray} {k : Nat} (hk : k < S.size) {c : UInt8} (h : S.data.toList[k]? = some c) : S[k] = c := by
 rw [List.getElem?_eq_getElem (by simpa using hk)] at h
 exact Option.some.inj h
theorem zv4 {P : Prop} (h : P := by
 go_wp2_with (first | (refine zi rfl 87 _ _ rfl w.heap.size #[.string ⟨#[]⟩, .int .i64 0, .string ⟨#[]⟩, .int .i64 0] _ KX.out rfl #[.string ⟨#[]⟩, .int .i64 0, .string ⟨#[]⟩, .int .i64 0] rfl rfl kg (by simp [Value.oneCell']) ?_; intro W2 hp2; have z0 := zvp hp2.here 0; have z1 := zvp hp2.here 1; have z2 := zvp hp2.here 2; have z3 := zvp hp2.here 3; have HBZ := zvq (hp2.below HB1.out (zvs _)); clear hp2; simp only [List.getElem?_toArray, List.getElem?_cons_zero, List.getElem?_cons_succ] at z0 z1 z2 z3) | fail)
 exact bodyPost_ret (v := .tuple #[.agg #[.string ⟨#[]⟩, .int .i64 0, .string ⟨#[]⟩, .int .i64 0], .bool false]) (by simp [results, Tryz.results101, go_sem, z0, z1, z2, z3]) rfl (qj (y := V.noI) (b := false) (by rw [HR.out]; rfl) HBZ.out)) : P := h
theorem ziy (n : Int) (s : V.Bs) (w : World) (hm : zg w) (hs : s.length ≤ 100000) :
  Calls Tryz.prog 101 #[.int .i64 n, .string ⟨s.toArray⟩] w (zj0 (V.jp n s) w) := by
 have hb0 : Below w.heap.size w (w.alloc (.cells #[.string ⟨#[]⟩, .int .i64 0, .string ⟨#[]⟩, .int .i64 0] 87)) := (zvt _ w).alloc (zvs _) _
 have K0 : Hid ((w.alloc (.cells #[.string ⟨#[]⟩, .int .i64 0, .string ⟨#[]⟩, .int .i64 0] 87)).heap[w.heap.size]? = some (.cells #[.string ⟨#[]⟩, .int .i64 0, .string ⟨#[]⟩, .int .i64 0] 87 (0, 0))) := zvq (by rw [heap_alloc, if_pos rfl])
 have HB0 := zvq hb0
 have HM0 := zvq (hm.below hb0)
 have HS0 : Hid ((ByteArray.mk s.toArray).size ≤ 100000) := zvq (by simpa [ByteArray.size] using hs)
 have HSD : Hid ((ByteArray.mk s.toArray).data.toList = s) := zvq rfl
 clear hb0 hm hs
 generalize (ByteArray.mk s.toArray) = S at *
 have HSZ : Hid (S.size = s.length) := zvq (by rw [← HSD.out]; rfl)
 have HV : ∀ k, Hid ((S.extract k S.size).size ≤ maxLen) := fun k => zvq (by
   have := HS0.out
   unfold maxLen
   rw [ByteArray.size_extract]
   omega)
 have HV1 := HV 1
 have HV2 := HV 2
 clear HV
 rcases s with _ | ⟨a, _ | ⟨b, r⟩⟩
 ·have HT : (S.toList == []) = true := by rw [ByteArray.toList_eq, HSD.out]; rfl
  have KX := K0
  go_enter Tryz.func101, Tryz.ntmps101
  go_wp2_with (first | (refine zi rfl 87 _ _ rfl w.heap.size #[.string ⟨#[]⟩, .int .i64 0, .string ⟨#[]⟩, .int .i64 0] _ KX.out rfl #[.string ⟨#[]⟩, .int .i64 0, .string ⟨#[]⟩, .int .i64 0] rfl rfl kg (by simp [Value.oneCell']) ?_; intro W2 hp2; have z0 := zvp hp2.here 0; have z1 := zvp hp2.here 1; have z2 := zvp hp2.here 2; have z3 := zvp hp2.here 3; have HBZ := zvq (hp2.below HB0.out (zvs _)); clear hp2; simp only [List.getElem?_toArray, List.getElem?_cons_zero, List.getElem?_cons_succ] at z0 z1 z2 z3) | fail)
  exact bodyPost_ret (v := .tuple #[.agg #[.string ⟨#[]⟩, .int .i64 0, .string ⟨#[]⟩, .int .i64 0], .bool false]) (by simp [results, Tryz.results101, go_sem, z0, z1, z2, z3]) rfl (qj (y := V.noI) (b := false) (by rw [V.cp_nil]; rfl) HBZ.out)
 ·have HT : (S.toList == []) = false := by rw [ByteArray.toList_eq, HSD.out]; rfl
  have hz : S.size = 1 := HSZ.out
  have EX : Hid (S.extract 1 S.size = ⟨([] : V.Bs).toArray⟩) := zvq (zi6 (by rw [HSD.out]; rfl))
  have hz1 : ¬ 1 < S.size := by omega
  have hz2 : 0 < S.size := by omega
  have hz3 : 1 ≤ S.size := by omega
  clear hz
  go_enter Tryz.func101, Tryz.ntmps101
  go_wp2_with fail
  rw [EX.out]
  generalize w.alloc (.cells #[.string ⟨#[]⟩, .int .i64 0, .string ⟨#[]⟩, .int .i64 0] 87) = w0 at *
  refine (zb1 n ⟨([] : V.Bs).toArray⟩ w0 HM0.out (by rw [← EX.out]; exact HV1.out)).mono ?_
  rintro e w1 ⟨rfl, hb1⟩
  rw [wl]
  have KX := zvq (kr hb1 K0.out)
  have HB1 := zvr HB0 hb1
  clear hb1
  rw [V.zcj]
  go_wp2_with (first | (refine zi rfl 87 _ _ rfl w.heap.size #[.string ⟨#[]⟩, .int .i64 0, .string ⟨#[]⟩, .int .i64 0] _ KX.out rfl #[.string ⟨#[]⟩, .int .i64 0, .string ⟨#[]⟩, .int .i64 0] rfl rfl kg (by simp [Value.oneCell']) ?_; intro W2 hp2; have z0 := zvp hp2.here 0; have z1 := zvp hp2.here 1; have z2 := zvp hp2.here 2; have z3 := zvp hp2.here 3; have HBZ := zvq (hp2.below HB1.out (zvs _)); clear hp2; simp only [List.getElem?_toArray, List.getElem?_cons_zero, List.getElem?_cons_succ] at z0 z1 z2 z3) | fail)
  exact bodyPost_ret (v := .tuple #[.agg #[.string ⟨#[]⟩, .int .i64 0, .string ⟨#[]⟩, .int .i64 0], .bool false]) (by simp [results, Tryz.results101, go_sem, z0, z1, z2, z3]) rfl (qj (y := V.noI) (b := false) (by rw [V.cp_one]; rfl) HBZ.out)
 ·have HT : (S.toList == []) = false := by rw [ByteArray.toList_eq, HSD.out]; rfl
  have hz : S.size = r.length + 2 := HSZ.out
  have hz1 : 1 < S.size := by omega
  have hz2 : 0 < S.size := by omega
  have hz3 : 2 ≤ S.size := by omega
  have hz4 : 1 ≤ S.size := by omega
  have g0 : S[0] = a := zuf hz2 (by rw [HSD.out]; rfl)
  have g1 : S[1] = b := zuf hz1 (by rw [HSD.out]; rfl)
  clear hz
  by_cases hb : b = 61
  ·subst hb
   by_cases ha : a = 61
   ·subst ha
    have G0 : ((S[0].toNat : Int) != 61) = false := by rw [g0]; rfl
    have G1 : (S[1].toNat : Int) = 61 := by rw [g1]; rfl
    clear g0 g1
    have EX : Hid (S.extract 1 S.size = ⟨(61 :: r).toArray⟩) := zvq (zi6 (by rw [HSD.out]; rfl))
    go_enter Tryz.func101, Tryz.ntmps101
    go_wp2_with fail
    rw [EX.out]
    generalize w.alloc (.cells #[.string ⟨#[]⟩, .int .i64 0, .string ⟨#[]⟩, .int .i64 0] 87) = w0 at *
    refine (zb1 n ⟨(61 :: r).toArray⟩ w0 HM0.out (by rw [← EX.out]; exact HV1.out)).mono ?_
    rintro e w1 ⟨rfl, hb1⟩
    rw [wl]
    have KX := zvq (kr hb1 K0.out)
    have HB1 := zvr HB0 hb1
    clear hb1
    rw [V.zu3]
    go_wp2_with (first | (refine zi rfl 87 _ _ rfl w.heap.size #[.string ⟨#[]⟩, .int .i64 0, .string ⟨#[]⟩, .int .i64 0] _ KX.out rfl #[.string ⟨#[]⟩, .int .i64 0, .string ⟨#[]⟩, .int .i64 0] rfl rfl kg (by simp [Value.oneCell']) ?_; intro W2 hp2; have z0 := zvp hp2.here 0; have z1 := zvp hp2.here 1; have z2 := zvp hp2.here 2; have z3 := zvp hp2.here 3; have HBZ := zvq (hp2.below HB1.out (zvs _)); clear hp2; simp only [List.getElem?_toArray, List.getElem?_cons_zero, List.getElem?_cons_succ] at z0 z1 z2 z3) | fail)
    exact bodyPost_ret (v := .tuple #[.agg #[.string ⟨#[]⟩, .int .i64 0, .string ⟨#[]⟩, .int .i64 0], .bool false]) (by simp [results, Tryz.results101, go_sem, z0, z1, z2, z3]) rfl (qj (y := V.noI) (b := false) (by rw [V.cp_dbl]; rfl) HBZ.out)
   ·have G0 : ((S[0].toNat : Int) != 61) = true := by rw [g0, bne_iff_ne]; intro e; exact ha (UInt8.toNat_inj.1 (by rw [show (61 : UInt8).toNat = 61 from rfl]; omega))
    have G1 : (S[1].toNat : Int) = 61 := by rw [g1]; rfl
    clear g0 g1
    have EX : Hid (S.extract 2 S.size = ⟨r.toArray⟩) := zvq (zi6 (by rw [HSD.out]; rfl))
    have ET : Hid ((S.extract 0 2).toList = [a, 61]) := zvq (zth (by rw [HSD.out]; rfl))
    have HA := zvq ha
    clear ha
    go_enter Tryz.func101, Tryz.ntmps101
    go_wp2_with fail
    rw [EX.out]
    generalize w.alloc (.cells #[.string ⟨#[]⟩, .int .i64 0, .string ⟨#[]⟩, .int .i64 0] 87) = w0 at *
    refine (zb1 n ⟨(r).toArray⟩ w0 HM0.out (by rw [← EX.out]; exact HV2.out)).mono ?_
    rintro e w1 ⟨rfl, hb1⟩
    rw [wl]
    have KX := zvq (kr hb1 K0.out)
    have HB1 := zvr HB0 hb1
    clear hb1
    rcases hv : V.valid n r with _ | _
    ·have HR := zvq (V.cp2_no HA.out hv)
     clear hv
     exact zv4
    ·by_cases h60 : a = 60
     ·subst h60
      have HR := zvq (V.cp2_le hv)
      clear hv
      have o0 : ((S.extract 0 2).toList == [61]) = false := by rw [ET.out]; rfl
      have o1 : ((S.extract 0 2).toList == [60]) = false := by rw [ET.out]; rfl
      have o2 : ((S.extract 0 2).toList == [60, 61]) = true := by rw [ET.out]; rfl
      go_wp2_with (first | (refine zi rfl 87 _ _ rfl w.heap.size #[.string ⟨#[]⟩, .int .i64 0, .string ⟨#[]⟩, .int .i64 0] _ KX.out rfl #[.string ⟨#[]⟩, .int .i64 0, .string ⟨r.toArray⟩, .int .i64 1] rfl rfl kg (by simp [Value.oneCell']) ?_; intro W2 hp2; have z0 := zvp hp2.here 0; have z1 := zvp hp2.here 1; have z2 := zvp hp2.here 2; have z3 := zvp hp2.here 3; have HBZ := zvq (hp2.below HB1.out (zvs _)); clear hp2; simp only [List.getElem?_toArray, List.getElem?_cons_zero, List.getElem?_cons_succ] at z0 z1 z2 z3) | fail)
      exact bodyPost_ret (v := .tuple #[.agg #[.string ⟨#[]⟩, .int .i64 0, .string ⟨r.toArray⟩, .int .i64 1], .bool true]) (by simp [results, Tryz.results101, go_sem, z0, z1, z2, z3]) rfl (qj (y := V.kf 1 r) (b := true) (by rw [HR.out]; rfl) HBZ.out)
     ·by_cases h62 : a = 62
      ·subst h62
       have HR := zvq (V.cp2_ge hv)
       clear hv
       have o0 : ((S.extract 0 2).toList == [61]) = false := by rw [ET.out]; rfl
       have o1 : ((S.extract 0 2).toList == [60]) = false := by rw [ET.out]; rfl
       have o2 : ((S.extract 0 2).toList == [60, 61]) = false := by rw [ET.out]; rfl
       have o3 : ((S.extract 0 2).toList == [62]) = false := by rw [ET.out]; rfl
       have o4 : ((S.extract 0 2).toList == [62, 61]) = true := by rw [ET.out]; rfl
       go_wp2_with (first | (refine zi rfl 87 _ _ rfl w.heap.size #[.string ⟨#[]⟩, .int .i64 0, .string ⟨#[]⟩, .int .i64 0] _ KX.out rfl #[.string ⟨r.toArray⟩, .int .i64 1, .string ⟨#[]⟩, .int .i64 0] rfl rfl kg (by simp [Value.oneCell']) ?_; intro W2 hp2; have z0 := zvp hp2.here 0; have z1 := zvp hp2.here 1; have z2 := zvp hp2.here 2; have z3 := zvp hp2.here 3; have HBZ := zvq (hp2.below HB1.out (zvs _)); clear hp2; simp only [List.getElem?_toArray, List.getElem?_cons_zero, List.getElem?_cons_succ] at z0 z1 z2 z3) | fail)
       exact bodyPost_ret (v := .tuple #[.agg #[.string ⟨r.toArray⟩, .int .i64 1, .string ⟨#[]⟩, .int .i64 0], .bool true]) (by simp [results, Tryz.results101, go_sem, z0, z1, z2, z3]) rfl (qj (y := V.kf 0 r) (b := true) (by rw [HR.out]; rfl) HBZ.out)
      ·have h61 := HA.out
       have HR := zvq (V.cp2_else (n := n) (r := r) h61 h60 h62)
       clear hv
       have o0 : ((S.extract 0 2).toList == [61]) = false := by rw [ET.out]; simp
       have o1 : ((S.extract 0 2).toList == [60]) = false := by rw [ET.out]; simp
       have o2 : ((S.extract 0 2).toList == [60, 61]) = false := by rw [ET.out]; simp [h60]
       have o3 : ((S.extract 0 2).toList == [62]) = false := by rw [ET.out]; simp
       have o4 : ((S.extract 0 2).toList == [62, 61]) = false := by rw [ET.out]; simp [h62]
       clear h60 h61 h62
       exact zv4
  ·have G1 : ¬ (S[1].toNat : Int) = 61 := by rw [g1]; intro e; exact hb (UInt8.toNat_inj.1 (by rw [show (61 : UInt8).toNat = 61 from rfl]; omega))
   clear g0 g1
   have EX : Hid (S.extract 1 S.size = ⟨(b :: r).toArray⟩) := zvq (zi6 (by rw [HSD.out]; rfl))
   have ET : Hid ((S.extract 0 1).toList = [a]) := zvq (zth (by rw [HSD.out]; rfl))
   have HA := zvq hb
   clear hb
   go_enter Tryz.func101, Tryz.ntmps101
   go_wp2_with fail
   rw [EX.out]
   generalize w.alloc (.cells #[.string ⟨#[]⟩, .int .i64 0, .string ⟨#[]⟩, .int .i64 0] 87) = w0 at *
   refine (zb1 n ⟨(b :: r).toArray⟩ w0 HM0.out (by rw [← EX.out]; exact HV1.out)).mono ?_
   rintro e w1 ⟨rfl, hb1⟩
   rw [wl]
   have KX := zvq (kr hb1 K0.out)
   have HB1 := zvr HB0 hb1
   clear hb1
   rcases hv : V.valid n (b :: r) with _ | _
   ·have HR := zvq (V.cp1_no (a := a) HA.out hv)
    clear hv
    exact zv4
   ·by_cases h61 : a = 61
    ·subst h61
     have HR := zvq (V.cp1_eq hv)
     clear hv
     have o0 : ((S.extract 0 1).toList == [61]) = true := by rw [ET.out]; rfl
     generalize b :: r = u at *
     go_wp2_with (first | (refine zi rfl 87 _ _ rfl w.heap.size #[.string ⟨#[]⟩, .int .i64 0, .string ⟨#[]⟩, .int .i64 0] _ KX.out rfl #[.string ⟨u.toArray⟩, .int .i64 1, .string ⟨u.toArray⟩, .int .i64 1] rfl rfl kg (by simp [Value.oneCell']) ?_; intro W2 hp2; have z0 := zvp hp2.here 0; have z1 := zvp hp2.here 1; have z2 := zvp hp2.here 2; have z3 := zvp hp2.here 3; have HBZ := zvq (hp2.below HB1.out (zvs _)); clear hp2; simp only [List.getElem?_toArray, List.getElem?_cons_zero, List.getElem?_cons_succ] at z0 z1 z2 z3) | fail)
     exact bodyPost_ret (v := .tuple #[.agg #[.string ⟨u.toArray⟩, .int .i64 1, .string ⟨u.toArray⟩, .int .i64 1], .bool true]) (by simp [results, Tryz.results101, go_sem, z0, z1, z2, z3]) rfl (qj (y := V.kf 2 u) (b := true) (by rw [HR.out]; rfl) HBZ.out)
    ·by_cases h60 : a = 60
     ·subst h60
      have HR := zvq (V.cp1_lt HA.out hv)
      clear hv
      have o0 : ((S.extract 0 1).toList == [61]) = false := by rw [ET.out]; rfl
      have o1 : ((S.extract 0 1).toList == [60]) = true := by rw [ET.out]; rfl
      generalize b :: r = u at *
      go_wp2_with (first | (refine zi rfl 87 _ _ rfl w.heap.size #[.string ⟨#[]⟩, .int .i64 0, .string ⟨#[]⟩, .int .i64 0] _ KX.out rfl #[.string ⟨#[]⟩, .int .i64 0, .string ⟨u.toArray⟩, .int .i64 2] rfl rfl kg (by simp [Value.oneCell']) ?_; intro W2 hp2; have z0 := zvp hp2.here 0; have z1 := zvp hp2.here 1; have z2 := zvp hp2.here 2; have z3 := zvp hp2.here 3; have HBZ := zvq (hp2.below HB1.out (zvs _)); clear hp2; simp only [List.getElem?_toArray, List.getElem?_cons_zero, List.getElem?_cons_succ] at z0 z1 z2 z3) | fail)
      exact bodyPost_ret (v := .tuple #[.agg #[.string ⟨#[]⟩, .int .i64 0, .string ⟨u.toArray⟩, .int .i64 2], .bool true]) (by simp [results, Tryz.results101, go_sem, z0, z1, z2, z3]) rfl (qj (y := V.kf 3 u) (b := true) (by rw [HR.out]; rfl) HBZ.out)
     ·by_cases h62 : a = 62
      ·subst h62
       have HR := zvq (V.cp1_gt HA.out hv)
       clear hv
       have o0 : ((S.extract 0 1).toList == [61]) = false := by rw [ET.out]; rfl
       have o1 : ((S.extract 0 1).toList == [60]) = false := by rw [ET.out]; rfl
       have o2 : ((S.extract 0 1).toList == [60, 61]) = false := by rw [ET.out]; rfl
       have o3 : ((S.extract 0 1).toList == [62]) = true := by rw [ET.out]; rfl
       generalize b :: r = u at *
       go_wp2_with (first | (refine zi rfl 87 _ _ rfl w.heap.size #[.string ⟨#[]⟩, .int .i64 0, .string ⟨#[]⟩, .int .i64 0] _ KX.out rfl #[.string ⟨u.toArray⟩, .int .i64 2, .string ⟨#[]⟩, .int .i64 0] rfl rfl kg (by simp [Value.oneCell']) ?_; intro W2 hp2; have z0 := zvp hp2.here 0; have z1 := zvp hp2.here 1; have z2 := zvp hp2.here 2; have z3 := zvp hp2.here 3; have HBZ := zvq (hp2.below HB1.out (zvs _)); clear hp2; simp only [List.getElem?_toArray, List.getElem?_cons_zero, List.getElem?_cons_succ] at z0 z1 z2 z3) | fail)
       exact bodyPost_ret (v := .tuple #[.agg #[.string ⟨u.toArray⟩, .int .i64 2, .string ⟨#[]⟩, .int .i64 0], .bool true]) (by simp [results, Tryz.results101, go_sem, z0, z1, z2, z3]) rfl (qj (y := V.kf 4 u) (b := true) (by rw [HR.out]; rfl) HBZ.out)
      ·have HR := zvq (V.cp1_else (n := n) (b := b) (r := r) h61 h60 h62)
       clear hv
       have o0 : ((S.extract 0 1).toList == [61]) = false := by rw [ET.out]; simp [h61]
       have o1 : ((S.extract 0 1).toList == [60]) = false := by rw [ET.out]; simp [h60]
       have o2 : ((S.extract 0 1).toList == [60, 61]) = false := by rw [ET.out]; simp
       have o3 : ((S.extract 0 1).toList == [62]) = false := by rw [ET.out]; simp [h62]
       have o4 : ((S.extract 0 1).toList == [62, 61]) = false := by rw [ET.out]; simp
       clear h60 h61 h62
       exact zv4
open Go.RowKit
theorem zzl {P : Prop} (h : P := by
 (try dsimp only); go_split_ands; exact ⟨zg.below (by assumption) hbc5, zvw hbc5, zvw hbc5, zvw hbc5, zvw hbc5, zvw hbc5, zvw hbc5, zvw hbc5, zvw hbc5, zvw hbc5, zvw hbc5, zvw hbc5⟩) : P := h
theorem zzm {P : Prop} (h : P := by
 (try dsimp only); go_split_ands; exact ⟨zg.below (by assumption) hbc3, zvw hbc3, zvw hbc3, zvw hbc3, zvw hbc3, zvw hbc3, zvw hbc3, zvw hbc3, zvw hbc3, zvw hbc3, zvw hbc3, zvw hbc3⟩) : P := h
theorem z06 {P : Prop} (h : P := by
 go_wp2
 go_roundw
 case rel => exact ⟨k + 1, by omega, by go_num, HY.out, HBZ.out⟩
 case measure => simp [intOf]; omega) : P := h
theorem za6 (n : Int) (v : Value) (l : List V.Itv) (a b : V.Ec) (w : World) (hm : zg w) (hn : V.scheme n = true) (hv : Itvs w v l) (hB : ∀ x ∈ l, V.zj n x = true) (ha : V.EcOk n a) (hb : V.EcOk n b) (hl : l.length ≤ 1000) :
  Calls Tryz.prog 158 #[setV n v, ecV a, ecV b] w fun e w' => e = .returned (.bool (V.kd n l a b)) /\ Below w.heap.size w w' := by
 have HV := zvq hv
 obtain ⟨va, vc, rfl⟩ := hv.slice
 have HA := zvq ha
 have HBE := zvq hb
 have HSC := zvq hn
 have HBND := zvq hB
 obtain ⟨p, hp⟩ : ∃ p : V.Itv -> Bool, p = fun x => decide (V.ecmp n (V.eLow x) a ≤ 0) && decide (V.ecmp n b (V.kw x) ≤ 0) := ⟨_, rfl⟩
 have HF : Hid (V.kd n l a b = l.any p) := zvq (by rw [hp]; rfl)
 have HP := zvq hp
 have hb0 : Below w.heap.size w (((w.alloc (.cells #[.int .i64 n, .slice va l.length vc] 32)).alloc (.cells #[.int .i64 a.e, .string ⟨a.v.toArray⟩, .int .i64 a.s] 125)).alloc (.cells #[.int .i64 b.e, .string ⟨b.v.toArray⟩, .int .i64 b.s] 125)) := (((zvt _ _).alloc (zvs _) _).alloc (by simp) _).alloc (by simp; omega) _
 have HB0 := zvq hb0
 have HM := zvq (hm.below hb0)
 have c0 : (((w.alloc (.cells #[.int .i64 n, .slice va l.length vc] 32)).alloc (.cells #[.int .i64 a.e, .string ⟨a.v.toArray⟩, .int .i64 a.s] 125)).alloc (.cells #[.int .i64 b.e, .string ⟨b.v.toArray⟩, .int .i64 b.s] 125)).cell? ⟨w.heap.size, 0, none⟩ = some (.int .i64 n) := by simp [ze]; try omega
 have c1 : (((w.alloc (.cells #[.int .i64 n, .slice va l.length vc] 32)).alloc (.cells #[.int .i64 a.e, .string ⟨a.v.toArray⟩, .int .i64 a.s] 125)).alloc (.cells #[.int .i64 b.e, .string ⟨b.v.toArray⟩, .int .i64 b.s] 125)).cell? ⟨w.heap.size, 1, none⟩ = some (.slice va l.length vc) := by simp [ze]; try omega
 have a0 : (((w.alloc (.cells #[.int .i64 n, .slice va l.length vc] 32)).alloc (.cells #[.int .i64 a.e, .string ⟨a.v.toArray⟩, .int .i64 a.s] 125)).alloc (.cells #[.int .i64 b.e, .string ⟨b.v.toArray⟩, .int .i64 b.s] 125)).cell? ⟨w.heap.size + 1, 0, none⟩ = some (.int .i64 a.e) := by simp [ze]
 have a1 : (((w.alloc (.cells #[.int .i64 n, .slice va l.length vc] 32)).alloc (.cells #[.int .i64 a.e, .string ⟨a.v.toArray⟩, .int .i64 a.s] 125)).alloc (.cells #[.int .i64 b.e, .string ⟨b.v.toArray⟩, .int .i64 b.s] 125)).cell? ⟨w.heap.size + 1, 1, none⟩ = some (.string ⟨a.v.toArray⟩) := by simp [ze]
 have a2 : (((w.alloc (.cells #[.int .i64 n, .slice va l.length vc] 32)).alloc (.cells #[.int .i64 a.e, .string ⟨a.v.toArray⟩, .int .i64 a.s] 125)).alloc (.cells #[.int .i64 b.e, .string ⟨b.v.toArray⟩, .int .i64 b.s] 125)).cell? ⟨w.heap.size + 1, 2, none⟩ = some (.int .i64 a.s) := by simp [ze]
 have b0 : (((w.alloc (.cells #[.int .i64 n, .slice va l.length vc] 32)).alloc (.cells #[.int .i64 a.e, .string ⟨a.v.toArray⟩, .int .i64 a.s] 125)).alloc (.cells #[.int .i64 b.e, .string ⟨b.v.toArray⟩, .int .i64 b.s] 125)).cell? ⟨w.heap.size + 1 + 1, 0, none⟩ = some (.int .i64 b.e) := by simp [ze]
 have b1 : (((w.alloc (.cells #[.int .i64 n, .slice va l.length vc] 32)).alloc (.cells #[.int .i64 a.e, .string ⟨a.v.toArray⟩, .int .i64 a.s] 125)).alloc (.cells #[.int .i64 b.e, .string ⟨b.v.toArray⟩, .int .i64 b.s] 125)).cell? ⟨w.heap.size + 1 + 1, 1, none⟩ = some (.string ⟨b.v.toArray⟩) := by simp [ze]
 have b2 : (((w.alloc (.cells #[.int .i64 n, .slice va l.length vc] 32)).alloc (.cells #[.int .i64 a.e, .string ⟨a.v.toArray⟩, .int .i64 a.s] 125)).alloc (.cells #[.int .i64 b.e, .string ⟨b.v.toArray⟩, .int .i64 b.s] 125)).cell? ⟨w.heap.size + 1 + 1, 2, none⟩ = some (.int .i64 b.s) := by simp [ze]
 have HC := zvq (And.intro c0 (And.intro c1 (And.intro a0 (And.intro a1 (And.intro a2 (And.intro b0 (And.intro b1 b2)))))))
 clear hv hb0 hm c0 a0 a1 a2 b0 b1 b2 ha hb hn hB
 unfold setV ecV
 go_enter Tryz.func158, Tryz.ntmps158
 go_wp2
 clear c1
 generalize ((w.alloc (.cells #[.int .i64 n, .slice va l.length vc] 32)).alloc (.cells #[.int .i64 a.e, .string ⟨a.v.toArray⟩, .int .i64 a.s] 125)).alloc (.cells #[.int .i64 b.e, .string ⟨b.v.toArray⟩, .int .i64 b.s] 125) = w0 at *
 go_loopw [7] (fun iv wx => ∃ k : Nat, k ≤ l.length /\ iv = .int .i64 k /\ (l.take k).any p = false /\ Below w0.heap.size w0 wx) (fun iv _ => l.length - (intOf iv).toNat)
 case atStart => exact ⟨0, Nat.zero_le _, rfl, rfl, zvt _ _⟩
 case round =>
  obtain ⟨k, hk, rfl, hz, hbx⟩ := hrel
  have HZ := zvq hz
  have HBX := zvq hbx
  have HBF := zvr HB0 hbx
  have d1 := za HBX.out HC.out.2.1
  clear hz hbx
  by_cases hlt : k < l.length
  ·obtain ⟨g, off, rfl, hb0, hx⟩ := HV.out.at k hlt
   obtain ⟨h0, h1, h2, h3⟩ := hx.below hb0 HBF.out
   have hi1 : (0 : Int) ≤ (k : Int) := by omega
   have hi2 : (k : Int) < (l.length : Int) := by omega
   have HBK : Hid (V.zj n l[k] = true) := zvq (HBND.out _ (List.getElem_mem hlt))
   have HYES := zvq (fun hb => zq2 (p := p) HZ.out hlt hb)
   have HNO := zvq (fun hb => ztv (p := p) hlt hb)
   clear hx
   generalize l[k] = x at *
   have HPX : Hid (p x = (decide (V.ecmp n (V.eLow x) a ≤ 0) && decide (V.ecmp n b (V.kw x) ≤ 0))) := zvq (by rw [HP.out])
   have hbA : Below wr.heap.size wr (wr.alloc (.cells #[.string ⟨x.lo.toArray⟩, .int .i64 x.lk, .string ⟨x.hi.toArray⟩, .int .i64 x.hk] 87)) := (zvt _ wr).alloc (zvs _) _
   have HM1 := zvq ((HM.out.below HBX.out).below hbA)
   have HBA := zvr HBX hbA
   have e0 := za HBA.out HC.out.1
   have a0 := za HBA.out HC.out.2.2.1
   have a1 := za HBA.out HC.out.2.2.2.1
   have a2 := za HBA.out HC.out.2.2.2.2.1
   have b0 := za HBA.out HC.out.2.2.2.2.2.1
   have b1 := za HBA.out HC.out.2.2.2.2.2.2.1
   have b2 := za HBA.out HC.out.2.2.2.2.2.2.2
   have hx4 : zb3 (wr.alloc (.cells #[.string ⟨x.lo.toArray⟩, .int .i64 x.lk, .string ⟨x.hi.toArray⟩, .int .i64 x.hk] 87)) wr.heap.size 0 x := by
    exact z1i
   have HX4 := zvq hx4
   clear hbA hx4
   go_wp2_with fail
   generalize wr.alloc (.cells #[.string ⟨x.lo.toArray⟩, .int .i64 x.lk, .string ⟨x.hi.toArray⟩, .int .i64 x.hk] 87) = W1 at *
   obtain ⟨f0, f1, f2, f3⟩ := HX4.out
   rw [Nat.zero_add] at f1 f2 f3
   clear h0 h1 h2 h3 d1
   obtain ⟨z, hz⟩ : ∃ z, z = V.ecmp n (V.eLow x) a := ⟨_, rfl⟩
   obtain ⟨z2, hz2⟩ : ∃ z, z = V.ecmp n b (V.kw x) := ⟨_, rfl⟩
   have HC1 := zvq (ug n (V.eLow x) a)
   have HC2 := zvq (ug n b (V.kw x))
   rw [← hz, ← hz2] at HPX
   rw [← hz] at HC1
   rw [← hz2] at HC2
   clear hz hz2
   by_cases hz0 : z ≤ 0
   ·have hd : decide (z ≤ 0) = true := decide_eq_true hz0
    have HPX2 : Hid (p x = decide (z2 ≤ 0)) := zvq (by rw [HPX.out, hd]; rfl)
    clear hz0
    refine wp_region_held_drew (S := (fun W' => zg W' /\ W'.cell? ⟨w.heap.size, 0, none⟩ = some (.int .i64 n) /\ W'.cell? ⟨wr.heap.size, 0, none⟩ = some (.string ⟨x.lo.toArray⟩) /\ W'.cell? ⟨wr.heap.size, 1, none⟩ = some (.int .i64 x.lk) /\ W'.cell? ⟨wr.heap.size, 2, none⟩ = some (.string ⟨x.hi.toArray⟩) /\ W'.cell? ⟨wr.heap.size, 3, none⟩ = some (.int .i64 x.hk) /\ W'.cell? ⟨w.heap.size + 1, 0, none⟩ = some (.int .i64 a.e) /\ W'.cell? ⟨w.heap.size + 1, 1, none⟩ = some (.string ⟨a.v.toArray⟩) /\ W'.cell? ⟨w.heap.size + 1, 2, none⟩ = some (.int .i64 a.s) /\ W'.cell? ⟨w.heap.size + 1 + 1, 0, none⟩ = some (.int .i64 b.e) /\ W'.cell? ⟨w.heap.size + 1 + 1, 1, none⟩ = some (.string ⟨b.v.toArray⟩) /\ W'.cell? ⟨w.heap.size + 1 + 1, 2, none⟩ = some (.int .i64 b.s))) (by kernel_rfl) (by (try dsimp only); (try simp only [World.cell?_drew]); exact ⟨HM1.out.below (zvt _ _).drew, e0, f0, f1, f2, f3, a0, a1, a2, b0, b1, b2⟩) (fun hHeld => ?_)
    refine tk 0 ?_
    refine tk 1 ?_
    refine tk 2 ?_
    refine tk 4 ?_
    refine rd 3 fun K hK => ?_
    go_simp
    refine (ws x _).mono ?_
    rintro e wc3 ⟨rfl, hbc3⟩
    try dsimp only
    refine hK.out _ _ ?_ (fun hHeld => ?_)
    ·exact zzm
    clear hK K
    try simp only [zvl, zvm, zvn, Act.put, zvo, List.set_cons_succ, List.set_cons_zero]
    refine rd 5 fun K hK => ?_
    go_simp
    refine (HC1.out _ (by first | assumption | exact And.left (by assumption)) HSC.out (V.za4 HBK.out) HA.out).mono ?_
    rintro e wc5 ⟨rfl, hbc5⟩
    try dsimp only
    refine hK.out _ _ ?_ (fun hHeld => ?_)
    ·exact zzl
    clear hK K
    try simp only [zvl, zvm, zvn, Act.put, zvo, List.set_cons_succ, List.set_cons_zero]
    refine tk 6 ?_
    refine tk 7 ?_
    refine tk 8 ?_
    refine tk 9 ?_
    refine tk 10 ?_
    refine tk 11 ?_
    refine rd 12 fun K hK => ?_
    go_simp
    refine (zab x _).mono ?_
    rintro e wc12 ⟨rfl, hbc12⟩
    try dsimp only
    refine hK.out _ _ ?_ (fun hHeld => ?_)
    ·(try dsimp only); go_split_ands; exact ⟨zg.below (by assumption) hbc12, zvw hbc12, zvw hbc12, zvw hbc12, zvw hbc12, zvw hbc12, zvw hbc12, zvw hbc12, zvw hbc12, zvw hbc12, zvw hbc12, zvw hbc12⟩
    clear hK K
    try simp only [zvl, zvm, zvn, Act.put, zvo, List.set_cons_succ, List.set_cons_zero]
    refine rd 13 fun K hK => ?_
    go_simp
    refine (HC2.out _ (by first | assumption | exact And.left (by assumption)) HSC.out HBE.out (V.zbi HBK.out)).mono ?_
    rintro e wc13 ⟨rfl, hbc13⟩
    try dsimp only
    refine hK.out _ _ ?_ (fun hHeld => ?_)
    ·(try dsimp only); go_split_ands; exact ⟨zg.below (by assumption) hbc13, zvw hbc13, zvw hbc13, zvw hbc13, zvw hbc13, zvw hbc13, zvw hbc13, zvw hbc13, zvw hbc13, zvw hbc13, zvw hbc13, zvw hbc13⟩
    clear hK K
    try simp only [zvl, zvm, zvn, Act.put, zvo, List.set_cons_succ, List.set_cons_zero]
    refine tk 14 ?_
    refine tk 15 ?_
    refine wpAnyH_done (by kernel_rfl) ?_ _
    have hbz1 : Below W1.heap.size W1 wc5 := ((zvt W1.heap.size W1).drew.trans (show Below W1.heap.size W1.drew wc3 from hbc3)).trans (hbc5.mono (show W1.heap.size ≤ wc3.heap.size from hbc3.size))
    have hbz2 : Below wc5.heap.size wc5 wc13 := hbc12.trans (hbc13.mono hbc12.size)
    have HBZ := zvq (HBA.out.trans ((hbz1.trans (hbz2.mono hbz1.size)).mono HBA.out.size))
    clear hbc3 hbc5 hbc12 hbc13 hHeld hbz1 hbz2
    by_cases hz3 : z2 ≤ 0
    ·have HR : Hid (V.kd n l a b = true) := zvq (by rw [HF.out]; exact HNO.out (by rw [HPX2.out]; exact decide_eq_true hz3))
     go_wp2
     go_ret
     exact ⟨zc HR.out.symm, HB0.out.trans (HBZ.out.mono HB0.out.size)⟩
    ·have HY := zvq (HYES.out (by rw [HPX2.out]; exact decide_eq_false hz3))
     exact z06
   ·have hd : decide (z ≤ 0) = false := decide_eq_false hz0
    have HY := zvq (HYES.out (by rw [HPX.out, hd]; rfl))
    clear hz0
    refine wp_region_held_drew (S := (fun W' => zg W' /\ W'.cell? ⟨w.heap.size, 0, none⟩ = some (.int .i64 n) /\ W'.cell? ⟨wr.heap.size, 0, none⟩ = some (.string ⟨x.lo.toArray⟩) /\ W'.cell? ⟨wr.heap.size, 1, none⟩ = some (.int .i64 x.lk) /\ W'.cell? ⟨wr.heap.size, 2, none⟩ = some (.string ⟨x.hi.toArray⟩) /\ W'.cell? ⟨wr.heap.size, 3, none⟩ = some (.int .i64 x.hk) /\ W'.cell? ⟨w.heap.size + 1, 0, none⟩ = some (.int .i64 a.e) /\ W'.cell? ⟨w.heap.size + 1, 1, none⟩ = some (.string ⟨a.v.toArray⟩) /\ W'.cell? ⟨w.heap.size + 1, 2, none⟩ = some (.int .i64 a.s) /\ W'.cell? ⟨w.heap.size + 1 + 1, 0, none⟩ = some (.int .i64 b.e) /\ W'.cell? ⟨w.heap.size + 1 + 1, 1, none⟩ = some (.string ⟨b.v.toArray⟩) /\ W'.cell? ⟨w.heap.size + 1 + 1, 2, none⟩ = some (.int .i64 b.s))) (by kernel_rfl) (by (try dsimp only); (try simp only [World.cell?_drew]); exact ⟨HM1.out.below (zvt _ _).drew, e0, f0, f1, f2, f3, a0, a1, a2, b0, b1, b2⟩) (fun hHeld => ?_)
    refine tk 0 ?_
    refine tk 1 ?_
    refine tk 2 ?_
    refine tk 4 ?_
    refine rd 3 fun K hK => ?_
    go_simp
    refine (ws x _).mono ?_
    rintro e wc3 ⟨rfl, hbc3⟩
    try dsimp only
    refine hK.out _ _ ?_ (fun hHeld => ?_)
    ·exact zzm
    clear hK K
    try simp only [zvl, zvm, zvn, Act.put, zvo, List.set_cons_succ, List.set_cons_zero]
    refine rd 5 fun K hK => ?_
    go_simp
    refine (HC1.out _ (by first | assumption | exact And.left (by assumption)) HSC.out (V.za4 HBK.out) HA.out).mono ?_
    rintro e wc5 ⟨rfl, hbc5⟩
    try dsimp only
    refine hK.out _ _ ?_ (fun hHeld => ?_)
    ·exact zzl
    clear hK K
    try simp only [zvl, zvm, zvn, Act.put, zvo, List.set_cons_succ, List.set_cons_zero]
    refine tk 6 ?_
    refine tk 7 ?_
    refine tu 8 ?_
    refine tu 9 ?_
    refine tu 10 ?_
    refine tu 11 ?_
    refine tu 12 ?_
    refine tu 13 ?_
    refine tu 14 ?_
    refine tk 15 ?_
    refine wpAnyH_done (by kernel_rfl) ?_ _
    have hbz1 : Below W1.heap.size W1 wc5 := ((zvt W1.heap.size W1).drew.trans (show Below W1.heap.size W1.drew wc3 from hbc3)).trans (hbc5.mono (show W1.heap.size ≤ wc3.heap.size from hbc3.size))
    have HBZ := zvr HBA hbz1
    clear hbc3 hbc5 hHeld hbz1
    exact z06
  ·obtain rfl : k = l.length := by omega
   have HR : Hid (V.kd n l a b = false) := zvq (by rw [HF.out]; have := HZ.out; rwa [List.take_length] at this)
   go_wp2
   go_ret
   exact ⟨zc HR.out.symm, HBF.out⟩
end Go.Proofs.YtiloljoancdcbaaGreatDoor
