/-
  Lemmas for the law.
-/
import Derived.Test.YtnhfaincdabdkaaGreatDoorC36x26
import Derived.Test.YtnhfaincdabdkaaGreatDoorC36x15
set_option linter.all false
set_option maxRecDepth 100000
set_option maxHeartbeats 6400000
namespace Go.Proofs.YtnhfaincdabdkaaGreatDoor
open Go.RowKit
namespace V
theorem cp_nil (n : Int) : jb n [] = none := rfl
theorem cp_one (n : Int) (a : UInt8) : jb n [a] = none := by
 unfold jb opOf
 by_cases h1 : a = 61
 ·subst h1; simp [zbq]
 ·by_cases h2 : a = 60
  ·subst h2; simp [zbq]
  ·by_cases h3 : a = 62
   ·subst h3; simp [zbq]
   ·simp [h1, h2, h3]
theorem _root_.Go.Proofs.YtnhfaincdabdkaaGreatDoor.zyu {P : Prop} (h : P := by
 rcases h : valid n (61 :: r) with _ | _
 ·rfl
 ·exact absurd (List.mem_cons_self ..) (zd5 h (c := 61) (by decide +kernel))) : P := h
theorem cp_dbl (n : Int) (r : Bs) : jb n (61 :: 61 :: r) = none := by
 have hv : valid n (61 :: r) = false := by
  exact zyu
 unfold jb opOf
 simp [hv]
theorem zub (n : Int) (r : Bs) : valid n (61 :: r) = false := by
 exact zyu
theorem cp2_no {n : Int} {a : UInt8} {r : Bs} (ha : a ≠ 61) (hv : valid n r = false) : jb n (a :: 61 :: r) = none := by
 unfold jb opOf
 by_cases h2 : a = 60
 ·subst h2; simp [hv]
 ·by_cases h3 : a = 62
  ·subst h3; simp [hv]
  ·simp [ha, h2, h3]
theorem cp2_ge {n : Int} {r : Bs} (hv : valid n r = true) : jb n (62 :: 61 :: r) = some (jr 0 r) := by
 unfold jb opOf; simp [hv]
theorem cp2_le {n : Int} {r : Bs} (hv : valid n r = true) : jb n (60 :: 61 :: r) = some (jr 1 r) := by
 unfold jb opOf; simp [hv]
theorem cp2_else {n : Int} {a : UInt8} {r : Bs} (ha : a ≠ 61) (h2 : a ≠ 60) (h3 : a ≠ 62) : jb n (a :: 61 :: r) = none := by
 unfold jb opOf; simp [ha, h2, h3]
theorem cp1_no {n : Int} {a b : UInt8} {r : Bs} (hb : b ≠ 61) (hv : valid n (b :: r) = false) : jb n (a :: b :: r) = none := by
 unfold jb opOf
 by_cases h1 : a = 61
 ·subst h1; simp [hv]
 ·by_cases h2 : a = 60
  ·subst h2; simp [hv, hb]
  ·by_cases h3 : a = 62
   ·subst h3; simp [hv, hb]
   ·simp [h1, h2, h3]
theorem cp1_eq {n : Int} {b : UInt8} {r : Bs} (hv : valid n (b :: r) = true) : jb n (61 :: b :: r) = some (jr 2 (b :: r)) := by
 unfold jb opOf; simp [hv]
theorem cp1_lt {n : Int} {b : UInt8} {r : Bs} (hb : b ≠ 61) (hv : valid n (b :: r) = true) : jb n (60 :: b :: r) = some (jr 3 (b :: r)) := by
 unfold jb opOf; simp [hv, hb]
theorem cp1_gt {n : Int} {b : UInt8} {r : Bs} (hb : b ≠ 61) (hv : valid n (b :: r) = true) : jb n (62 :: b :: r) = some (jr 4 (b :: r)) := by
 unfold jb opOf; simp [hv, hb]
theorem cp1_else {n : Int} {a b : UInt8} {r : Bs} (h1 : a ≠ 61) (h2 : a ≠ 60) (h3 : a ≠ 62) : jb n (a :: b :: r) = none := by
 unfold jb opOf; simp [h1, h2, h3]
end V
theorem zhy {S : ByteArray} {k : Nat} {l : V.Bs} (h : S.data.toList.drop k = l) : S.extract k S.size = ⟨l.toArray⟩ := by
 apply kq
 rw [Lib.extract_to_end, h]
theorem zsj {S : ByteArray} {k : Nat} {l : V.Bs} (h : S.data.toList.take k = l) : (S.extract 0 k).toList = l := by
 rw [ByteArray.toList_eq, Lib.extract_from_zero, h]
theorem ztf {S : ByteArray} {k : Nat} (hk : k < S.size) {c : UInt8} (h : S.data.toList[k]? = some c) : S[k] = c := by
 rw [List.getElem?_eq_getElem (by simpa using hk)] at h
 exact Option.some.inj h
theorem zu9 {P : Prop} (h : P := by
 go_wp2_with (first | (refine zi rfl 120 _ _ rfl w.heap.size #[.string ⟨#[]⟩, .int .i64 0, .string ⟨#[]⟩, .int .i64 0] _ KX.out rfl #[.string ⟨#[]⟩, .int .i64 0, .string ⟨#[]⟩, .int .i64 0] rfl rfl js (by simp [Value.oneCell']) ?_; intro W2 hp2; have z0 := zux hp2.here 0; have z1 := zux hp2.here 1; have z2 := zux hp2.here 2; have z3 := zux hp2.here 3; have HBZ := zuy (hp2.below HB1.out (zu0 _)); clear hp2; simp only [List.getElem?_toArray, List.getElem?_cons_zero, List.getElem?_cons_succ] at z0 z1 z2 z3) | fail)
 exact bodyPost_ret (v := .tuple #[.agg #[.string ⟨#[]⟩, .int .i64 0, .string ⟨#[]⟩, .int .i64 0], .bool false]) (by simp [results, Tryz.results152, go_sem, z0, z1, z2, z3]) rfl (qb (y := V.noI) (b := false) (by rw [HR.out]; rfl) HBZ.out)) : P := h
theorem zhq (n : Int) (s : V.Bs) (w : World) (hm : zg w) (hs : s.length ≤ 100000) :
  Calls Tryz.prog 152 #[.int .i64 n, .string ⟨s.toArray⟩] w (ziv (V.jb n s) w) := by
 have hb0 : Below w.heap.size w (w.alloc (.cells #[.string ⟨#[]⟩, .int .i64 0, .string ⟨#[]⟩, .int .i64 0] 120)) := (zu1 _ w).alloc (zu0 _) _
 have K0 : Hid ((w.alloc (.cells #[.string ⟨#[]⟩, .int .i64 0, .string ⟨#[]⟩, .int .i64 0] 120)).heap[w.heap.size]? = some (.cells #[.string ⟨#[]⟩, .int .i64 0, .string ⟨#[]⟩, .int .i64 0] 120 (0, 0))) := zuy (by rw [heap_alloc, if_pos rfl])
 have HB0 := zuy hb0
 have HM0 := zuy (hm.below hb0)
 have HS0 : Hid ((ByteArray.mk s.toArray).size ≤ 100000) := zuy (by simpa [ByteArray.size] using hs)
 have HSD : Hid ((ByteArray.mk s.toArray).data.toList = s) := zuy rfl
 clear hb0 hm hs
 generalize (ByteArray.mk s.toArray) = S at *
 have HSZ : Hid (S.size = s.length) := zuy (by rw [← HSD.out]; rfl)
 have HV : ∀ k, Hid ((S.extract k S.size).size ≤ maxLen) := fun k => zuy (by
   have := HS0.out
   unfold maxLen
   rw [ByteArray.size_extract]
   omega)
 have HV1 := HV 1
 have HV2 := HV 2
 clear HV
 rcases s with _ | ⟨a, _ | ⟨b, r⟩⟩
 ·have HT : (S.toList == []) = true := by rw [ByteArray.toList_eq, HSD.out]; rfl
  have KX := K0
  go_enter Tryz.func152, Tryz.ntmps152
  go_wp2_with (first | (refine zi rfl 120 _ _ rfl w.heap.size #[.string ⟨#[]⟩, .int .i64 0, .string ⟨#[]⟩, .int .i64 0] _ KX.out rfl #[.string ⟨#[]⟩, .int .i64 0, .string ⟨#[]⟩, .int .i64 0] rfl rfl js (by simp [Value.oneCell']) ?_; intro W2 hp2; have z0 := zux hp2.here 0; have z1 := zux hp2.here 1; have z2 := zux hp2.here 2; have z3 := zux hp2.here 3; have HBZ := zuy (hp2.below HB0.out (zu0 _)); clear hp2; simp only [List.getElem?_toArray, List.getElem?_cons_zero, List.getElem?_cons_succ] at z0 z1 z2 z3) | fail)
  exact bodyPost_ret (v := .tuple #[.agg #[.string ⟨#[]⟩, .int .i64 0, .string ⟨#[]⟩, .int .i64 0], .bool false]) (by simp [results, Tryz.results152, go_sem, z0, z1, z2, z3]) rfl (qb (y := V.noI) (b := false) (by rw [V.cp_nil]; rfl) HBZ.out)
 ·have HT : (S.toList == []) = false := by rw [ByteArray.toList_eq, HSD.out]; rfl
  have hz : S.size = 1 := HSZ.out
  have EX : Hid (S.extract 1 S.size = ⟨([] : V.Bs).toArray⟩) := zuy (zhy (by rw [HSD.out]; rfl))
  have hz1 : ¬ 1 < S.size := by omega
  have hz2 : 0 < S.size := by omega
  have hz3 : 1 ≤ S.size := by omega
  clear hz
  go_enter Tryz.func152, Tryz.ntmps152
  go_wp2_with fail
  rw [EX.out]
  generalize w.alloc (.cells #[.string ⟨#[]⟩, .int .i64 0, .string ⟨#[]⟩, .int .i64 0] 120) = w0 at *
  refine (za8 n ⟨([] : V.Bs).toArray⟩ w0 HM0.out (by rw [← EX.out]; exact HV1.out)).mono ?_
  rintro e w1 ⟨rfl, hb1⟩
  rw [zad]
  have KX := zuy (kw hb1 K0.out)
  have HB1 := zuz HB0 hb1
  clear hb1
  rw [V.zbq]
  go_wp2_with (first | (refine zi rfl 120 _ _ rfl w.heap.size #[.string ⟨#[]⟩, .int .i64 0, .string ⟨#[]⟩, .int .i64 0] _ KX.out rfl #[.string ⟨#[]⟩, .int .i64 0, .string ⟨#[]⟩, .int .i64 0] rfl rfl js (by simp [Value.oneCell']) ?_; intro W2 hp2; have z0 := zux hp2.here 0; have z1 := zux hp2.here 1; have z2 := zux hp2.here 2; have z3 := zux hp2.here 3; have HBZ := zuy (hp2.below HB1.out (zu0 _)); clear hp2; simp only [List.getElem?_toArray, List.getElem?_cons_zero, List.getElem?_cons_succ] at z0 z1 z2 z3) | fail)
  exact bodyPost_ret (v := .tuple #[.agg #[.string ⟨#[]⟩, .int .i64 0, .string ⟨#[]⟩, .int .i64 0], .bool false]) (by simp [results, Tryz.results152, go_sem, z0, z1, z2, z3]) rfl (qb (y := V.noI) (b := false) (by rw [V.cp_one]; rfl) HBZ.out)
 ·have HT : (S.toList == []) = false := by rw [ByteArray.toList_eq, HSD.out]; rfl
  have hz : S.size = r.length + 2 := HSZ.out
  have hz1 : 1 < S.size := by omega
  have hz2 : 0 < S.size := by omega
  have hz3 : 2 ≤ S.size := by omega
  have hz4 : 1 ≤ S.size := by omega
  have g0 : S[0] = a := ztf hz2 (by rw [HSD.out]; rfl)
  have g1 : S[1] = b := ztf hz1 (by rw [HSD.out]; rfl)
  clear hz
  by_cases hb : b = 61
  ·subst hb
   by_cases ha : a = 61
   ·subst ha
    have G0 : ((S[0].toNat : Int) != 61) = false := by rw [g0]; rfl
    have G1 : (S[1].toNat : Int) = 61 := by rw [g1]; rfl
    clear g0 g1
    have EX : Hid (S.extract 1 S.size = ⟨(61 :: r).toArray⟩) := zuy (zhy (by rw [HSD.out]; rfl))
    go_enter Tryz.func152, Tryz.ntmps152
    go_wp2_with fail
    rw [EX.out]
    generalize w.alloc (.cells #[.string ⟨#[]⟩, .int .i64 0, .string ⟨#[]⟩, .int .i64 0] 120) = w0 at *
    refine (za8 n ⟨(61 :: r).toArray⟩ w0 HM0.out (by rw [← EX.out]; exact HV1.out)).mono ?_
    rintro e w1 ⟨rfl, hb1⟩
    rw [zad]
    have KX := zuy (kw hb1 K0.out)
    have HB1 := zuz HB0 hb1
    clear hb1
    rw [V.zub]
    go_wp2_with (first | (refine zi rfl 120 _ _ rfl w.heap.size #[.string ⟨#[]⟩, .int .i64 0, .string ⟨#[]⟩, .int .i64 0] _ KX.out rfl #[.string ⟨#[]⟩, .int .i64 0, .string ⟨#[]⟩, .int .i64 0] rfl rfl js (by simp [Value.oneCell']) ?_; intro W2 hp2; have z0 := zux hp2.here 0; have z1 := zux hp2.here 1; have z2 := zux hp2.here 2; have z3 := zux hp2.here 3; have HBZ := zuy (hp2.below HB1.out (zu0 _)); clear hp2; simp only [List.getElem?_toArray, List.getElem?_cons_zero, List.getElem?_cons_succ] at z0 z1 z2 z3) | fail)
    exact bodyPost_ret (v := .tuple #[.agg #[.string ⟨#[]⟩, .int .i64 0, .string ⟨#[]⟩, .int .i64 0], .bool false]) (by simp [results, Tryz.results152, go_sem, z0, z1, z2, z3]) rfl (qb (y := V.noI) (b := false) (by rw [V.cp_dbl]; rfl) HBZ.out)
   ·have G0 : ((S[0].toNat : Int) != 61) = true := by rw [g0, bne_iff_ne]; intro e; exact ha (UInt8.toNat_inj.1 (by rw [show (61 : UInt8).toNat = 61 from rfl]; omega))
    have G1 : (S[1].toNat : Int) = 61 := by rw [g1]; rfl
    clear g0 g1
    have EX : Hid (S.extract 2 S.size = ⟨r.toArray⟩) := zuy (zhy (by rw [HSD.out]; rfl))
    have ET : Hid ((S.extract 0 2).toList = [a, 61]) := zuy (zsj (by rw [HSD.out]; rfl))
    have HA := zuy ha
    clear ha
    go_enter Tryz.func152, Tryz.ntmps152
    go_wp2_with fail
    rw [EX.out]
    generalize w.alloc (.cells #[.string ⟨#[]⟩, .int .i64 0, .string ⟨#[]⟩, .int .i64 0] 120) = w0 at *
    refine (za8 n ⟨(r).toArray⟩ w0 HM0.out (by rw [← EX.out]; exact HV2.out)).mono ?_
    rintro e w1 ⟨rfl, hb1⟩
    rw [zad]
    have KX := zuy (kw hb1 K0.out)
    have HB1 := zuz HB0 hb1
    clear hb1
    rcases hv : V.valid n r with _ | _
    ·have HR := zuy (V.cp2_no HA.out hv)
     clear hv
     exact zu9
    ·by_cases h60 : a = 60
     ·subst h60
      have HR := zuy (V.cp2_le hv)
      clear hv
      have o0 : ((S.extract 0 2).toList == [61]) = false := by rw [ET.out]; rfl
      have o1 : ((S.extract 0 2).toList == [60]) = false := by rw [ET.out]; rfl
      have o2 : ((S.extract 0 2).toList == [60, 61]) = true := by rw [ET.out]; rfl
      go_wp2_with (first | (refine zi rfl 120 _ _ rfl w.heap.size #[.string ⟨#[]⟩, .int .i64 0, .string ⟨#[]⟩, .int .i64 0] _ KX.out rfl #[.string ⟨#[]⟩, .int .i64 0, .string ⟨r.toArray⟩, .int .i64 1] rfl rfl js (by simp [Value.oneCell']) ?_; intro W2 hp2; have z0 := zux hp2.here 0; have z1 := zux hp2.here 1; have z2 := zux hp2.here 2; have z3 := zux hp2.here 3; have HBZ := zuy (hp2.below HB1.out (zu0 _)); clear hp2; simp only [List.getElem?_toArray, List.getElem?_cons_zero, List.getElem?_cons_succ] at z0 z1 z2 z3) | fail)
      exact bodyPost_ret (v := .tuple #[.agg #[.string ⟨#[]⟩, .int .i64 0, .string ⟨r.toArray⟩, .int .i64 1], .bool true]) (by simp [results, Tryz.results152, go_sem, z0, z1, z2, z3]) rfl (qb (y := V.jr 1 r) (b := true) (by rw [HR.out]; rfl) HBZ.out)
     ·by_cases h62 : a = 62
      ·subst h62
       have HR := zuy (V.cp2_ge hv)
       clear hv
       have o0 : ((S.extract 0 2).toList == [61]) = false := by rw [ET.out]; rfl
       have o1 : ((S.extract 0 2).toList == [60]) = false := by rw [ET.out]; rfl
       have o2 : ((S.extract 0 2).toList == [60, 61]) = false := by rw [ET.out]; rfl
       have o3 : ((S.extract 0 2).toList == [62]) = false := by rw [ET.out]; rfl
       have o4 : ((S.extract 0 2).toList == [62, 61]) = true := by rw [ET.out]; rfl
       go_wp2_with (first | (refine zi rfl 120 _ _ rfl w.heap.size #[.string ⟨#[]⟩, .int .i64 0, .string ⟨#[]⟩, .int .i64 0] _ KX.out rfl #[.string ⟨r.toArray⟩, .int .i64 1, .string ⟨#[]⟩, .int .i64 0] rfl rfl js (by simp [Value.oneCell']) ?_; intro W2 hp2; have z0 := zux hp2.here 0; have z1 := zux hp2.here 1; have z2 := zux hp2.here 2; have z3 := zux hp2.here 3; have HBZ := zuy (hp2.below HB1.out (zu0 _)); clear hp2; simp only [List.getElem?_toArray, List.getElem?_cons_zero, List.getElem?_cons_succ] at z0 z1 z2 z3) | fail)
       exact bodyPost_ret (v := .tuple #[.agg #[.string ⟨r.toArray⟩, .int .i64 1, .string ⟨#[]⟩, .int .i64 0], .bool true]) (by simp [results, Tryz.results152, go_sem, z0, z1, z2, z3]) rfl (qb (y := V.jr 0 r) (b := true) (by rw [HR.out]; rfl) HBZ.out)
      ·have h61 := HA.out
       have HR := zuy (V.cp2_else (n := n) (r := r) h61 h60 h62)
       clear hv
       have o0 : ((S.extract 0 2).toList == [61]) = false := by rw [ET.out]; simp
       have o1 : ((S.extract 0 2).toList == [60]) = false := by rw [ET.out]; simp
       have o2 : ((S.extract 0 2).toList == [60, 61]) = false := by rw [ET.out]; simp [h60]
       have o3 : ((S.extract 0 2).toList == [62]) = false := by rw [ET.out]; simp
       have o4 : ((S.extract 0 2).toList == [62, 61]) = false := by rw [ET.out]; simp [h62]
       clear h60 h61 h62
       exact zu9
  ·have G1 : ¬ (S[1].toNat : Int) = 61 := by rw [g1]; intro e; exact hb (UInt8.toNat_inj.1 (by rw [show (61 : UInt8).toNat = 61 from rfl]; omega))
   clear g0 g1
   have EX : Hid (S.extract 1 S.size = ⟨(b :: r).toArray⟩) := zuy (zhy (by rw [HSD.out]; rfl))
   have ET : Hid ((S.extract 0 1).toList = [a]) := zuy (zsj (by rw [HSD.out]; rfl))
   have HA := zuy hb
   clear hb
   go_enter Tryz.func152, Tryz.ntmps152
   go_wp2_with fail
   rw [EX.out]
   generalize w.alloc (.cells #[.string ⟨#[]⟩, .int .i64 0, .string ⟨#[]⟩, .int .i64 0] 120) = w0 at *
   refine (za8 n ⟨(b :: r).toArray⟩ w0 HM0.out (by rw [← EX.out]; exact HV1.out)).mono ?_
   rintro e w1 ⟨rfl, hb1⟩
   rw [zad]
   have KX := zuy (kw hb1 K0.out)
   have HB1 := zuz HB0 hb1
   clear hb1
   rcases hv : V.valid n (b :: r) with _ | _
   ·have HR := zuy (V.cp1_no (a := a) HA.out hv)
    clear hv
    exact zu9
   ·by_cases h61 : a = 61
    ·subst h61
     have HR := zuy (V.cp1_eq hv)
     clear hv
     have o0 : ((S.extract 0 1).toList == [61]) = true := by rw [ET.out]; rfl
     generalize b :: r = u at *
     go_wp2_with (first | (refine zi rfl 120 _ _ rfl w.heap.size #[.string ⟨#[]⟩, .int .i64 0, .string ⟨#[]⟩, .int .i64 0] _ KX.out rfl #[.string ⟨u.toArray⟩, .int .i64 1, .string ⟨u.toArray⟩, .int .i64 1] rfl rfl js (by simp [Value.oneCell']) ?_; intro W2 hp2; have z0 := zux hp2.here 0; have z1 := zux hp2.here 1; have z2 := zux hp2.here 2; have z3 := zux hp2.here 3; have HBZ := zuy (hp2.below HB1.out (zu0 _)); clear hp2; simp only [List.getElem?_toArray, List.getElem?_cons_zero, List.getElem?_cons_succ] at z0 z1 z2 z3) | fail)
     exact bodyPost_ret (v := .tuple #[.agg #[.string ⟨u.toArray⟩, .int .i64 1, .string ⟨u.toArray⟩, .int .i64 1], .bool true]) (by simp [results, Tryz.results152, go_sem, z0, z1, z2, z3]) rfl (qb (y := V.jr 2 u) (b := true) (by rw [HR.out]; rfl) HBZ.out)
    ·by_cases h60 : a = 60
     ·subst h60
      have HR := zuy (V.cp1_lt HA.out hv)
      clear hv
      have o0 : ((S.extract 0 1).toList == [61]) = false := by rw [ET.out]; rfl
      have o1 : ((S.extract 0 1).toList == [60]) = true := by rw [ET.out]; rfl
      generalize b :: r = u at *
      go_wp2_with (first | (refine zi rfl 120 _ _ rfl w.heap.size #[.string ⟨#[]⟩, .int .i64 0, .string ⟨#[]⟩, .int .i64 0] _ KX.out rfl #[.string ⟨#[]⟩, .int .i64 0, .string ⟨u.toArray⟩, .int .i64 2] rfl rfl js (by simp [Value.oneCell']) ?_; intro W2 hp2; have z0 := zux hp2.here 0; have z1 := zux hp2.here 1; have z2 := zux hp2.here 2; have z3 := zux hp2.here 3; have HBZ := zuy (hp2.below HB1.out (zu0 _)); clear hp2; simp only [List.getElem?_toArray, List.getElem?_cons_zero, List.getElem?_cons_succ] at z0 z1 z2 z3) | fail)
      exact bodyPost_ret (v := .tuple #[.agg #[.string ⟨#[]⟩, .int .i64 0, .string ⟨u.toArray⟩, .int .i64 2], .bool true]) (by simp [results, Tryz.results152, go_sem, z0, z1, z2, z3]) rfl (qb (y := V.jr 3 u) (b := true) (by rw [HR.out]; rfl) HBZ.out)
     ·by_cases h62 : a = 62
      ·subst h62
       have HR := zuy (V.cp1_gt HA.out hv)
       clear hv
       have o0 : ((S.extract 0 1).toList == [61]) = false := by rw [ET.out]; rfl
       have o1 : ((S.extract 0 1).toList == [60]) = false := by rw [ET.out]; rfl
       have o2 : ((S.extract 0 1).toList == [60, 61]) = false := by rw [ET.out]; rfl
       have o3 : ((S.extract 0 1).toList == [62]) = true := by rw [ET.out]; rfl
       generalize b :: r = u at *
       go_wp2_with (first | (refine zi rfl 120 _ _ rfl w.heap.size #[.string ⟨#[]⟩, .int .i64 0, .string ⟨#[]⟩, .int .i64 0] _ KX.out rfl #[.string ⟨u.toArray⟩, .int .i64 2, .string ⟨#[]⟩, .int .i64 0] rfl rfl js (by simp [Value.oneCell']) ?_; intro W2 hp2; have z0 := zux hp2.here 0; have z1 := zux hp2.here 1; have z2 := zux hp2.here 2; have z3 := zux hp2.here 3; have HBZ := zuy (hp2.below HB1.out (zu0 _)); clear hp2; simp only [List.getElem?_toArray, List.getElem?_cons_zero, List.getElem?_cons_succ] at z0 z1 z2 z3) | fail)
       exact bodyPost_ret (v := .tuple #[.agg #[.string ⟨u.toArray⟩, .int .i64 2, .string ⟨#[]⟩, .int .i64 0], .bool true]) (by simp [results, Tryz.results152, go_sem, z0, z1, z2, z3]) rfl (qb (y := V.jr 4 u) (b := true) (by rw [HR.out]; rfl) HBZ.out)
      ·have HR := zuy (V.cp1_else (n := n) (b := b) (r := r) h61 h60 h62)
       clear hv
       have o0 : ((S.extract 0 1).toList == [61]) = false := by rw [ET.out]; simp [h61]
       have o1 : ((S.extract 0 1).toList == [60]) = false := by rw [ET.out]; simp [h60]
       have o2 : ((S.extract 0 1).toList == [60, 61]) = false := by rw [ET.out]; simp
       have o3 : ((S.extract 0 1).toList == [62]) = false := by rw [ET.out]; simp [h62]
       have o4 : ((S.extract 0 1).toList == [62, 61]) = false := by rw [ET.out]; simp
       clear h60 h61 h62
       exact zu9
end Go.Proofs.YtnhfaincdabdkaaGreatDoor
