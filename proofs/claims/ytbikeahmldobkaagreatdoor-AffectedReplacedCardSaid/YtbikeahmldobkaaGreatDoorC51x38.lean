/-
  Lemmas for the law.
-/
import Derived.Test.YtbikeahmldobkaaGreatDoorC51x34
import Derived.Test.YtbikeahmldobkaaGreatDoorC51x19
set_option linter.all false
set_option maxRecDepth 100000
set_option maxHeartbeats 6400000
namespace Go.Proofs.YtbikeahmldobkaaGreatDoor
open Go.RowKit
namespace V
theorem cp_nil (n : Int) : kh n [] = none := rfl
theorem cp_one (n : Int) (a : UInt8) : kh n [a] = none := by
 unfold kh opOf
 by_cases h1 : a = 61
 ·subst h1; simp [zdu]
 ·by_cases h2 : a = 60
  ·subst h2; simp [zdu]
  ·by_cases h3 : a = 62
   ·subst h3; simp [zdu]
   ·simp [h1, h2, h3]
theorem _root_.Go.Proofs.YtbikeahmldobkaaGreatDoor.zyd {P : Prop} (h : P := by
 rcases h : valid n (61 :: r) with _ | _
 ·rfl
 ·exact absurd (List.mem_cons_self ..) (zlq h (c := 61) (by decide +kernel))) : P := h
theorem cp_dbl (n : Int) (r : Bs) : kh n (61 :: 61 :: r) = none := by
 have hv : valid n (61 :: r) = false := by
  exact zyd
 unfold kh opOf
 simp [hv]
theorem zun (n : Int) (r : Bs) : valid n (61 :: r) = false := by
 exact zyd
theorem cp2_no {n : Int} {a : UInt8} {r : Bs} (ha : a ≠ 61) (hv : valid n r = false) : kh n (a :: 61 :: r) = none := by
 unfold kh opOf
 by_cases h2 : a = 60
 ·subst h2; simp [hv]
 ·by_cases h3 : a = 62
  ·subst h3; simp [hv]
  ·simp [ha, h2, h3]
theorem cp2_ge {n : Int} {r : Bs} (hv : valid n r = true) : kh n (62 :: 61 :: r) = some (zax 0 r) := by
 unfold kh opOf; simp [hv]
theorem cp2_le {n : Int} {r : Bs} (hv : valid n r = true) : kh n (60 :: 61 :: r) = some (zax 1 r) := by
 unfold kh opOf; simp [hv]
theorem cp2_else {n : Int} {a : UInt8} {r : Bs} (ha : a ≠ 61) (h2 : a ≠ 60) (h3 : a ≠ 62) : kh n (a :: 61 :: r) = none := by
 unfold kh opOf; simp [ha, h2, h3]
theorem cp1_no {n : Int} {a b : UInt8} {r : Bs} (hb : b ≠ 61) (hv : valid n (b :: r) = false) : kh n (a :: b :: r) = none := by
 unfold kh opOf
 by_cases h1 : a = 61
 ·subst h1; simp [hv]
 ·by_cases h2 : a = 60
  ·subst h2; simp [hv, hb]
  ·by_cases h3 : a = 62
   ·subst h3; simp [hv, hb]
   ·simp [h1, h2, h3]
theorem cp1_eq {n : Int} {b : UInt8} {r : Bs} (hv : valid n (b :: r) = true) : kh n (61 :: b :: r) = some (zax 2 (b :: r)) := by
 unfold kh opOf; simp [hv]
theorem cp1_lt {n : Int} {b : UInt8} {r : Bs} (hb : b ≠ 61) (hv : valid n (b :: r) = true) : kh n (60 :: b :: r) = some (zax 3 (b :: r)) := by
 unfold kh opOf; simp [hv, hb]
theorem cp1_gt {n : Int} {b : UInt8} {r : Bs} (hb : b ≠ 61) (hv : valid n (b :: r) = true) : kh n (62 :: b :: r) = some (zax 4 (b :: r)) := by
 unfold kh opOf; simp [hv, hb]
theorem cp1_else {n : Int} {a b : UInt8} {r : Bs} (h1 : a ≠ 61) (h2 : a ≠ 60) (h3 : a ≠ 62) : kh n (a :: b :: r) = none := by
 unfold kh opOf; simp [h1, h2, h3]
end V
theorem zhu {S : ByteArray} {k : Nat} {l : V.Bs} (h : S.data.toList.drop k = l) : S.extract k S.size = ⟨l.toArray⟩ := by
 apply yc
 rw [Lib.extract_to_end, h]
theorem zsm {S : ByteArray} {k : Nat} {l : V.Bs} (h : S.data.toList.take k = l) : (S.extract 0 k).toList = l := by
 rw [ByteArray.toList_eq, Lib.extract_from_zero, h]
theorem zte {S : ByteArray} {k : Nat} (hk : k < S.size) {c : UInt8} (h : S.data.toList[k]? = some c) : S[k] = c := by
 rw [List.getElem?_eq_getElem (by simpa using hk)] at h
 exact Option.some.inj h
theorem zvj {P : Prop} (h : P := by
 go_wp2_with (first | (refine zv rfl 83 _ _ rfl w.heap.size #[.string ⟨#[]⟩, .int .i64 0, .string ⟨#[]⟩, .int .i64 0] _ KX.out rfl #[.string ⟨#[]⟩, .int .i64 0, .string ⟨#[]⟩, .int .i64 0] rfl rfl yi (by simp [Value.oneCell']) ?_; intro W2 hp2; have z0 := zu7 hp2.here 0; have z1 := zu7 hp2.here 1; have z2 := zu7 hp2.here 2; have z3 := zu7 hp2.here 3; have HBZ := zu8 (hp2.below HB1.out (zva _)); clear hp2; simp only [List.getElem?_toArray, List.getElem?_cons_zero, List.getElem?_cons_succ] at z0 z1 z2 z3) | fail)
 exact bodyPost_ret (v := .tuple #[.agg #[.string ⟨#[]⟩, .int .i64 0, .string ⟨#[]⟩, .int .i64 0], .bool false]) (by simp [results, Tryz.results164, go_sem, z0, z1, z2, z3]) rfl (jd (y := V.noI) (b := false) (by rw [HR.out]; rfl) HBZ.out)) : P := h
theorem zhn (n : Int) (s : V.Bs) (w : World) (hm : zj w) (hs : s.length ≤ 100000) :
  Calls Tryz.prog 164 #[.int .i64 n, .string ⟨s.toArray⟩] w (zol (V.kh n s) w) := by
 have g5 : Below w.heap.size w (w.alloc (.cells #[.string ⟨#[]⟩, .int .i64 0, .string ⟨#[]⟩, .int .i64 0] 83)) := (zvb _ w).alloc (zva _) _
 have K0 : Hid ((w.alloc (.cells #[.string ⟨#[]⟩, .int .i64 0, .string ⟨#[]⟩, .int .i64 0] 83)).heap[w.heap.size]? = some (.cells #[.string ⟨#[]⟩, .int .i64 0, .string ⟨#[]⟩, .int .i64 0] 83 (0, 0))) := zu8 (by rw [heap_alloc, if_pos rfl])
 have HB0 := zu8 g5
 have g4 := zu8 (hm.below g5)
 have h0 : Hid ((ByteArray.mk s.toArray).size ≤ 100000) := zu8 (by simpa [ByteArray.size] using hs)
 have g2 : Hid ((ByteArray.mk s.toArray).data.toList = s) := zu8 rfl
 clear g5 hm hs
 generalize (ByteArray.mk s.toArray) = S at *
 have g7 : Hid (S.size = s.length) := zu8 (by rw [← g2.out]; rfl)
 have HV : ∀ k, Hid ((S.extract k S.size).size ≤ maxLen) := fun k => zu8 (by
   have := h0.out
   unfold maxLen
   rw [ByteArray.size_extract]
   omega)
 have g6 := HV 1
 have h1 := HV 2
 clear HV
 rcases s with _ | ⟨a, _ | ⟨b, r⟩⟩
 ·have HT : (S.toList == []) = true := by rw [ByteArray.toList_eq, g2.out]; rfl
  have KX := K0
  go_enter Tryz.func164, Tryz.ntmps164
  go_wp2_with (first | (refine zv rfl 83 _ _ rfl w.heap.size #[.string ⟨#[]⟩, .int .i64 0, .string ⟨#[]⟩, .int .i64 0] _ KX.out rfl #[.string ⟨#[]⟩, .int .i64 0, .string ⟨#[]⟩, .int .i64 0] rfl rfl yi (by simp [Value.oneCell']) ?_; intro W2 hp2; have z0 := zu7 hp2.here 0; have z1 := zu7 hp2.here 1; have z2 := zu7 hp2.here 2; have z3 := zu7 hp2.here 3; have HBZ := zu8 (hp2.below HB0.out (zva _)); clear hp2; simp only [List.getElem?_toArray, List.getElem?_cons_zero, List.getElem?_cons_succ] at z0 z1 z2 z3) | fail)
  exact bodyPost_ret (v := .tuple #[.agg #[.string ⟨#[]⟩, .int .i64 0, .string ⟨#[]⟩, .int .i64 0], .bool false]) (by simp [results, Tryz.results164, go_sem, z0, z1, z2, z3]) rfl (jd (y := V.noI) (b := false) (by rw [V.cp_nil]; rfl) HBZ.out)
 ·have HT : (S.toList == []) = false := by rw [ByteArray.toList_eq, g2.out]; rfl
  have hz : S.size = 1 := g7.out
  have EX : Hid (S.extract 1 S.size = ⟨([] : V.Bs).toArray⟩) := zu8 (zhu (by rw [g2.out]; rfl))
  have g8 : ¬ 1 < S.size := by omega
  have g9 : 0 < S.size := by omega
  have h2 : 1 ≤ S.size := by omega
  clear hz
  go_enter Tryz.func164, Tryz.ntmps164
  go_wp2_with fail
  rw [EX.out]
  generalize w.alloc (.cells #[.string ⟨#[]⟩, .int .i64 0, .string ⟨#[]⟩, .int .i64 0] 83) = w0 at *
  refine (vl n ⟨([] : V.Bs).toArray⟩ w0 g4.out (by rw [← EX.out]; exact g6.out)).mono ?_
  rintro e w1 ⟨rfl, hb1⟩
  rw [za5]
  have KX := zu8 (ws hb1 K0.out)
  have HB1 := zu9 HB0 hb1
  clear hb1
  rw [V.zdu]
  go_wp2_with (first | (refine zv rfl 83 _ _ rfl w.heap.size #[.string ⟨#[]⟩, .int .i64 0, .string ⟨#[]⟩, .int .i64 0] _ KX.out rfl #[.string ⟨#[]⟩, .int .i64 0, .string ⟨#[]⟩, .int .i64 0] rfl rfl yi (by simp [Value.oneCell']) ?_; intro W2 hp2; have z0 := zu7 hp2.here 0; have z1 := zu7 hp2.here 1; have z2 := zu7 hp2.here 2; have z3 := zu7 hp2.here 3; have HBZ := zu8 (hp2.below HB1.out (zva _)); clear hp2; simp only [List.getElem?_toArray, List.getElem?_cons_zero, List.getElem?_cons_succ] at z0 z1 z2 z3) | fail)
  exact bodyPost_ret (v := .tuple #[.agg #[.string ⟨#[]⟩, .int .i64 0, .string ⟨#[]⟩, .int .i64 0], .bool false]) (by simp [results, Tryz.results164, go_sem, z0, z1, z2, z3]) rfl (jd (y := V.noI) (b := false) (by rw [V.cp_one]; rfl) HBZ.out)
 ·have HT : (S.toList == []) = false := by rw [ByteArray.toList_eq, g2.out]; rfl
  have hz : S.size = r.length + 2 := g7.out
  have g8 : 1 < S.size := by omega
  have g9 : 0 < S.size := by omega
  have h2 : 2 ≤ S.size := by omega
  have hz4 : 1 ≤ S.size := by omega
  have g0 : S[0] = a := zte g9 (by rw [g2.out]; rfl)
  have g1 : S[1] = b := zte g8 (by rw [g2.out]; rfl)
  clear hz
  by_cases hb : b = 61
  ·subst hb
   by_cases ha : a = 61
   ·subst ha
    have G0 : ((S[0].toNat : Int) != 61) = false := by rw [g0]; rfl
    have G1 : (S[1].toNat : Int) = 61 := by rw [g1]; rfl
    clear g0 g1
    have EX : Hid (S.extract 1 S.size = ⟨(61 :: r).toArray⟩) := zu8 (zhu (by rw [g2.out]; rfl))
    go_enter Tryz.func164, Tryz.ntmps164
    go_wp2_with fail
    rw [EX.out]
    generalize w.alloc (.cells #[.string ⟨#[]⟩, .int .i64 0, .string ⟨#[]⟩, .int .i64 0] 83) = w0 at *
    refine (vl n ⟨(61 :: r).toArray⟩ w0 g4.out (by rw [← EX.out]; exact g6.out)).mono ?_
    rintro e w1 ⟨rfl, hb1⟩
    rw [za5]
    have KX := zu8 (ws hb1 K0.out)
    have HB1 := zu9 HB0 hb1
    clear hb1
    rw [V.zun]
    go_wp2_with (first | (refine zv rfl 83 _ _ rfl w.heap.size #[.string ⟨#[]⟩, .int .i64 0, .string ⟨#[]⟩, .int .i64 0] _ KX.out rfl #[.string ⟨#[]⟩, .int .i64 0, .string ⟨#[]⟩, .int .i64 0] rfl rfl yi (by simp [Value.oneCell']) ?_; intro W2 hp2; have z0 := zu7 hp2.here 0; have z1 := zu7 hp2.here 1; have z2 := zu7 hp2.here 2; have z3 := zu7 hp2.here 3; have HBZ := zu8 (hp2.below HB1.out (zva _)); clear hp2; simp only [List.getElem?_toArray, List.getElem?_cons_zero, List.getElem?_cons_succ] at z0 z1 z2 z3) | fail)
    exact bodyPost_ret (v := .tuple #[.agg #[.string ⟨#[]⟩, .int .i64 0, .string ⟨#[]⟩, .int .i64 0], .bool false]) (by simp [results, Tryz.results164, go_sem, z0, z1, z2, z3]) rfl (jd (y := V.noI) (b := false) (by rw [V.cp_dbl]; rfl) HBZ.out)
   ·have G0 : ((S[0].toNat : Int) != 61) = true := by rw [g0, bne_iff_ne]; intro e; exact ha (UInt8.toNat_inj.1 (by rw [show (61 : UInt8).toNat = 61 from rfl]; omega))
    have G1 : (S[1].toNat : Int) = 61 := by rw [g1]; rfl
    clear g0 g1
    have EX : Hid (S.extract 2 S.size = ⟨r.toArray⟩) := zu8 (zhu (by rw [g2.out]; rfl))
    have ET : Hid ((S.extract 0 2).toList = [a, 61]) := zu8 (zsm (by rw [g2.out]; rfl))
    have HA := zu8 ha
    clear ha
    go_enter Tryz.func164, Tryz.ntmps164
    go_wp2_with fail
    rw [EX.out]
    generalize w.alloc (.cells #[.string ⟨#[]⟩, .int .i64 0, .string ⟨#[]⟩, .int .i64 0] 83) = w0 at *
    refine (vl n ⟨(r).toArray⟩ w0 g4.out (by rw [← EX.out]; exact h1.out)).mono ?_
    rintro e w1 ⟨rfl, hb1⟩
    rw [za5]
    have KX := zu8 (ws hb1 K0.out)
    have HB1 := zu9 HB0 hb1
    clear hb1
    rcases hv : V.valid n r with _ | _
    ·have HR := zu8 (V.cp2_no HA.out hv)
     clear hv
     exact zvj
    ·by_cases h60 : a = 60
     ·subst h60
      have HR := zu8 (V.cp2_le hv)
      clear hv
      have o0 : ((S.extract 0 2).toList == [61]) = false := by rw [ET.out]; rfl
      have o1 : ((S.extract 0 2).toList == [60]) = false := by rw [ET.out]; rfl
      have o2 : ((S.extract 0 2).toList == [60, 61]) = true := by rw [ET.out]; rfl
      go_wp2_with (first | (refine zv rfl 83 _ _ rfl w.heap.size #[.string ⟨#[]⟩, .int .i64 0, .string ⟨#[]⟩, .int .i64 0] _ KX.out rfl #[.string ⟨#[]⟩, .int .i64 0, .string ⟨r.toArray⟩, .int .i64 1] rfl rfl yi (by simp [Value.oneCell']) ?_; intro W2 hp2; have z0 := zu7 hp2.here 0; have z1 := zu7 hp2.here 1; have z2 := zu7 hp2.here 2; have z3 := zu7 hp2.here 3; have HBZ := zu8 (hp2.below HB1.out (zva _)); clear hp2; simp only [List.getElem?_toArray, List.getElem?_cons_zero, List.getElem?_cons_succ] at z0 z1 z2 z3) | fail)
      exact bodyPost_ret (v := .tuple #[.agg #[.string ⟨#[]⟩, .int .i64 0, .string ⟨r.toArray⟩, .int .i64 1], .bool true]) (by simp [results, Tryz.results164, go_sem, z0, z1, z2, z3]) rfl (jd (y := V.zax 1 r) (b := true) (by rw [HR.out]; rfl) HBZ.out)
     ·by_cases h62 : a = 62
      ·subst h62
       have HR := zu8 (V.cp2_ge hv)
       clear hv
       have o0 : ((S.extract 0 2).toList == [61]) = false := by rw [ET.out]; rfl
       have o1 : ((S.extract 0 2).toList == [60]) = false := by rw [ET.out]; rfl
       have o2 : ((S.extract 0 2).toList == [60, 61]) = false := by rw [ET.out]; rfl
       have o3 : ((S.extract 0 2).toList == [62]) = false := by rw [ET.out]; rfl
       have o4 : ((S.extract 0 2).toList == [62, 61]) = true := by rw [ET.out]; rfl
       go_wp2_with (first | (refine zv rfl 83 _ _ rfl w.heap.size #[.string ⟨#[]⟩, .int .i64 0, .string ⟨#[]⟩, .int .i64 0] _ KX.out rfl #[.string ⟨r.toArray⟩, .int .i64 1, .string ⟨#[]⟩, .int .i64 0] rfl rfl yi (by simp [Value.oneCell']) ?_; intro W2 hp2; have z0 := zu7 hp2.here 0; have z1 := zu7 hp2.here 1; have z2 := zu7 hp2.here 2; have z3 := zu7 hp2.here 3; have HBZ := zu8 (hp2.below HB1.out (zva _)); clear hp2; simp only [List.getElem?_toArray, List.getElem?_cons_zero, List.getElem?_cons_succ] at z0 z1 z2 z3) | fail)
       exact bodyPost_ret (v := .tuple #[.agg #[.string ⟨r.toArray⟩, .int .i64 1, .string ⟨#[]⟩, .int .i64 0], .bool true]) (by simp [results, Tryz.results164, go_sem, z0, z1, z2, z3]) rfl (jd (y := V.zax 0 r) (b := true) (by rw [HR.out]; rfl) HBZ.out)
      ·have g3 := HA.out
       have HR := zu8 (V.cp2_else (n := n) (r := r) g3 h60 h62)
       clear hv
       have o0 : ((S.extract 0 2).toList == [61]) = false := by rw [ET.out]; simp
       have o1 : ((S.extract 0 2).toList == [60]) = false := by rw [ET.out]; simp
       have o2 : ((S.extract 0 2).toList == [60, 61]) = false := by rw [ET.out]; simp [h60]
       have o3 : ((S.extract 0 2).toList == [62]) = false := by rw [ET.out]; simp
       have o4 : ((S.extract 0 2).toList == [62, 61]) = false := by rw [ET.out]; simp [h62]
       clear h60 g3 h62
       exact zvj
  ·have G1 : ¬ (S[1].toNat : Int) = 61 := by rw [g1]; intro e; exact hb (UInt8.toNat_inj.1 (by rw [show (61 : UInt8).toNat = 61 from rfl]; omega))
   clear g0 g1
   have EX : Hid (S.extract 1 S.size = ⟨(b :: r).toArray⟩) := zu8 (zhu (by rw [g2.out]; rfl))
   have ET : Hid ((S.extract 0 1).toList = [a]) := zu8 (zsm (by rw [g2.out]; rfl))
   have HA := zu8 hb
   clear hb
   go_enter Tryz.func164, Tryz.ntmps164
   go_wp2_with fail
   rw [EX.out]
   generalize w.alloc (.cells #[.string ⟨#[]⟩, .int .i64 0, .string ⟨#[]⟩, .int .i64 0] 83) = w0 at *
   refine (vl n ⟨(b :: r).toArray⟩ w0 g4.out (by rw [← EX.out]; exact g6.out)).mono ?_
   rintro e w1 ⟨rfl, hb1⟩
   rw [za5]
   have KX := zu8 (ws hb1 K0.out)
   have HB1 := zu9 HB0 hb1
   clear hb1
   rcases hv : V.valid n (b :: r) with _ | _
   ·have HR := zu8 (V.cp1_no (a := a) HA.out hv)
    clear hv
    exact zvj
   ·by_cases g3 : a = 61
    ·subst g3
     have HR := zu8 (V.cp1_eq hv)
     clear hv
     have o0 : ((S.extract 0 1).toList == [61]) = true := by rw [ET.out]; rfl
     generalize b :: r = u at *
     go_wp2_with (first | (refine zv rfl 83 _ _ rfl w.heap.size #[.string ⟨#[]⟩, .int .i64 0, .string ⟨#[]⟩, .int .i64 0] _ KX.out rfl #[.string ⟨u.toArray⟩, .int .i64 1, .string ⟨u.toArray⟩, .int .i64 1] rfl rfl yi (by simp [Value.oneCell']) ?_; intro W2 hp2; have z0 := zu7 hp2.here 0; have z1 := zu7 hp2.here 1; have z2 := zu7 hp2.here 2; have z3 := zu7 hp2.here 3; have HBZ := zu8 (hp2.below HB1.out (zva _)); clear hp2; simp only [List.getElem?_toArray, List.getElem?_cons_zero, List.getElem?_cons_succ] at z0 z1 z2 z3) | fail)
     exact bodyPost_ret (v := .tuple #[.agg #[.string ⟨u.toArray⟩, .int .i64 1, .string ⟨u.toArray⟩, .int .i64 1], .bool true]) (by simp [results, Tryz.results164, go_sem, z0, z1, z2, z3]) rfl (jd (y := V.zax 2 u) (b := true) (by rw [HR.out]; rfl) HBZ.out)
    ·by_cases h60 : a = 60
     ·subst h60
      have HR := zu8 (V.cp1_lt HA.out hv)
      clear hv
      have o0 : ((S.extract 0 1).toList == [61]) = false := by rw [ET.out]; rfl
      have o1 : ((S.extract 0 1).toList == [60]) = true := by rw [ET.out]; rfl
      generalize b :: r = u at *
      go_wp2_with (first | (refine zv rfl 83 _ _ rfl w.heap.size #[.string ⟨#[]⟩, .int .i64 0, .string ⟨#[]⟩, .int .i64 0] _ KX.out rfl #[.string ⟨#[]⟩, .int .i64 0, .string ⟨u.toArray⟩, .int .i64 2] rfl rfl yi (by simp [Value.oneCell']) ?_; intro W2 hp2; have z0 := zu7 hp2.here 0; have z1 := zu7 hp2.here 1; have z2 := zu7 hp2.here 2; have z3 := zu7 hp2.here 3; have HBZ := zu8 (hp2.below HB1.out (zva _)); clear hp2; simp only [List.getElem?_toArray, List.getElem?_cons_zero, List.getElem?_cons_succ] at z0 z1 z2 z3) | fail)
      exact bodyPost_ret (v := .tuple #[.agg #[.string ⟨#[]⟩, .int .i64 0, .string ⟨u.toArray⟩, .int .i64 2], .bool true]) (by simp [results, Tryz.results164, go_sem, z0, z1, z2, z3]) rfl (jd (y := V.zax 3 u) (b := true) (by rw [HR.out]; rfl) HBZ.out)
     ·by_cases h62 : a = 62
      ·subst h62
       have HR := zu8 (V.cp1_gt HA.out hv)
       clear hv
       have o0 : ((S.extract 0 1).toList == [61]) = false := by rw [ET.out]; rfl
       have o1 : ((S.extract 0 1).toList == [60]) = false := by rw [ET.out]; rfl
       have o2 : ((S.extract 0 1).toList == [60, 61]) = false := by rw [ET.out]; rfl
       have o3 : ((S.extract 0 1).toList == [62]) = true := by rw [ET.out]; rfl
       generalize b :: r = u at *
       go_wp2_with (first | (refine zv rfl 83 _ _ rfl w.heap.size #[.string ⟨#[]⟩, .int .i64 0, .string ⟨#[]⟩, .int .i64 0] _ KX.out rfl #[.string ⟨u.toArray⟩, .int .i64 2, .string ⟨#[]⟩, .int .i64 0] rfl rfl yi (by simp [Value.oneCell']) ?_; intro W2 hp2; have z0 := zu7 hp2.here 0; have z1 := zu7 hp2.here 1; have z2 := zu7 hp2.here 2; have z3 := zu7 hp2.here 3; have HBZ := zu8 (hp2.below HB1.out (zva _)); clear hp2; simp only [List.getElem?_toArray, List.getElem?_cons_zero, List.getElem?_cons_succ] at z0 z1 z2 z3) | fail)
       exact bodyPost_ret (v := .tuple #[.agg #[.string ⟨u.toArray⟩, .int .i64 2, .string ⟨#[]⟩, .int .i64 0], .bool true]) (by simp [results, Tryz.results164, go_sem, z0, z1, z2, z3]) rfl (jd (y := V.zax 4 u) (b := true) (by rw [HR.out]; rfl) HBZ.out)
      ·have HR := zu8 (V.cp1_else (n := n) (b := b) (r := r) g3 h60 h62)
       clear hv
       have o0 : ((S.extract 0 1).toList == [61]) = false := by rw [ET.out]; simp [g3]
       have o1 : ((S.extract 0 1).toList == [60]) = false := by rw [ET.out]; simp [h60]
       have o2 : ((S.extract 0 1).toList == [60, 61]) = false := by rw [ET.out]; simp
       have o3 : ((S.extract 0 1).toList == [62]) = false := by rw [ET.out]; simp [h62]
       have o4 : ((S.extract 0 1).toList == [62, 61]) = false := by rw [ET.out]; simp
       clear h60 g3 h62
       exact zvj
end Go.Proofs.YtbikeahmldobkaaGreatDoor
