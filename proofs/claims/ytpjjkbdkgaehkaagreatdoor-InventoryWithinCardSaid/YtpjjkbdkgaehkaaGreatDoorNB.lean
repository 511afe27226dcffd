/-
  Walk: condition of the reference of range sets. (Printed by gen_NB.py.)
-/
import Derived.Test.YtpjjkbdkgaehkaaGreatDoorNC
import Derived.Test.YtpjjkbdkgaehkaaGreatDoorRO
namespace Go.Proofs.YtpjjkbdkgaehkaaGreatDoor
open Go.RowKit

namespace V
theorem cp_nil (n : Int) : condP n [] = none := rfl
theorem cp_one (n : Int) (a : UInt8) : condP n [a] = none := by
  unfold condP opOf
  by_cases h1 : a = 61
  · subst h1; simp [valid_nil]
  · by_cases h2 : a = 60
    · subst h2; simp [valid_nil]
    · by_cases h3 : a = 62
      · subst h3; simp [valid_nil]
      · simp [h1, h2, h3]
theorem cp_dbl (n : Int) (r : Bs) : condP n (61 :: 61 :: r) = none := by
  have hv : valid n (61 :: r) = false := by
    rcases h : valid n (61 :: r) with _ | _
    · rfl
    · exact absurd (List.mem_cons_self ..) (valid_not h (c := 61) (by decide +kernel))
  unfold condP opOf
  simp [hv]
theorem cp_dbl_no (n : Int) (r : Bs) : valid n (61 :: r) = false := by
  rcases h : valid n (61 :: r) with _ | _
  · rfl
  · exact absurd (List.mem_cons_self ..) (valid_not h (c := 61) (by decide +kernel))
theorem cp2_no {n : Int} {a : UInt8} {r : Bs} (ha : a ≠ 61) (hv : valid n r = false) : condP n (a :: 61 :: r) = none := by
  unfold condP opOf
  by_cases h2 : a = 60
  · subst h2; simp [hv]
  · by_cases h3 : a = 62
    · subst h3; simp [hv]
    · simp [ha, h2, h3]
theorem cp2_ge {n : Int} {r : Bs} (hv : valid n r = true) : condP n (62 :: 61 :: r) = some (condI 0 r) := by
  unfold condP opOf; simp [hv]
theorem cp2_le {n : Int} {r : Bs} (hv : valid n r = true) : condP n (60 :: 61 :: r) = some (condI 1 r) := by
  unfold condP opOf; simp [hv]
theorem cp2_else {n : Int} {a : UInt8} {r : Bs} (ha : a ≠ 61) (h2 : a ≠ 60) (h3 : a ≠ 62) : condP n (a :: 61 :: r) = none := by
  unfold condP opOf; simp [ha, h2, h3]
theorem cp1_no {n : Int} {a b : UInt8} {r : Bs} (hb : b ≠ 61) (hv : valid n (b :: r) = false) : condP n (a :: b :: r) = none := by
  unfold condP opOf
  by_cases h1 : a = 61
  · subst h1; simp [hv]
  · by_cases h2 : a = 60
    · subst h2; simp [hv, hb]
    · by_cases h3 : a = 62
      · subst h3; simp [hv, hb]
      · simp [h1, h2, h3]
theorem cp1_eq {n : Int} {b : UInt8} {r : Bs} (hv : valid n (b :: r) = true) : condP n (61 :: b :: r) = some (condI 2 (b :: r)) := by
  unfold condP opOf; simp [hv]
theorem cp1_lt {n : Int} {b : UInt8} {r : Bs} (hb : b ≠ 61) (hv : valid n (b :: r) = true) : condP n (60 :: b :: r) = some (condI 3 (b :: r)) := by
  unfold condP opOf; simp [hv, hb]
theorem cp1_gt {n : Int} {b : UInt8} {r : Bs} (hb : b ≠ 61) (hv : valid n (b :: r) = true) : condP n (62 :: b :: r) = some (condI 4 (b :: r)) := by
  unfold condP opOf; simp [hv, hb]
theorem cp1_else {n : Int} {a b : UInt8} {r : Bs} (h1 : a ≠ 61) (h2 : a ≠ 60) (h3 : a ≠ 62) : condP n (a :: b :: r) = none := by
  unfold condP opOf; simp [h1, h2, h3]
end V
theorem ext_end {S : ByteArray} {k : Nat} {l : V.Bs} (h : S.data.toList.drop k = l) : S.extract k S.size = ⟨l.toArray⟩ := by
  apply bs_ext
  rw [Lib.extract_to_end, h]
theorem ext_top {S : ByteArray} {k : Nat} {l : V.Bs} (h : S.data.toList.take k = l) : (S.extract 0 k).toList = l := by
  rw [ByteArray.toList_eq, Lib.extract_from_zero, h]
theorem at_byte {S : ByteArray} {k : Nat} (hk : k < S.size) {c : UInt8} (h : S.data.toList[k]? = some c) : S[k] = c := by
  rw [List.getElem?_eq_getElem (by simpa using hk)] at h
  exact Option.some.inj h

set_option maxRecDepth 100000 in
set_option maxHeartbeats 6400000 in
theorem rrCondition_any (n : Int) (s : V.Bs) (w : World) (hm : MaxOk w) (hs : s.length ≤ 100000) :
    Calls Tryz.prog 65 #[.int .i64 n, .string ⟨s.toArray⟩] w (CondPost (V.condP n s) w) := by
  have hb0 : Below w.heap.size w (w.alloc (.cells #[.string ⟨#[]⟩, .int .i64 0, .string ⟨#[]⟩, .int .i64 0] 80)) := (Below.refl _ w).alloc (Nat.le_refl _) _
  have K0 : Hid ((w.alloc (.cells #[.string ⟨#[]⟩, .int .i64 0, .string ⟨#[]⟩, .int .i64 0] 80)).heap[w.heap.size]? = some (.cells #[.string ⟨#[]⟩, .int .i64 0, .string ⟨#[]⟩, .int .i64 0] 80 (0, 0))) := Lib.hid (by rw [heap_alloc, if_pos rfl])
  have HB0 := Lib.hid hb0
  have HM0 := Lib.hid (hm.below hb0)
  have HS0 : Hid ((ByteArray.mk s.toArray).size ≤ 100000) := Lib.hid (by simpa [ByteArray.size] using hs)
  have HSD : Hid ((ByteArray.mk s.toArray).data.toList = s) := Lib.hid rfl
  clear hb0 hm hs
  generalize (ByteArray.mk s.toArray) = S at *
  have HSZ : Hid (S.size = s.length) := Lib.hid (by rw [← HSD.out]; rfl)
  have HV : ∀ k, Hid ((S.extract k S.size).size ≤ maxLen) := fun k => Lib.hid (by
    have := HS0.out
    unfold maxLen
    rw [ByteArray.size_extract]
    omega)
  have HV1 := HV 1
  have HV2 := HV 2
  clear HV
  rcases s with _ | ⟨a, _ | ⟨b, r⟩⟩
  · have HT : (S.toList == []) = true := by rw [ByteArray.toList_eq, HSD.out]; rfl
    have KX := K0
    go_enter Tryz.func65, Tryz.ntmps65
    go_wp2_with (first | (refine wl_putRow rfl 80 _ _ rfl w.heap.size #[.string ⟨#[]⟩, .int .i64 0, .string ⟨#[]⟩, .int .i64 0] _ KX.out rfl #[.string ⟨#[]⟩, .int .i64 0, .string ⟨#[]⟩, .int .i64 0] rfl rfl itvSize (by simp [Value.oneCell']) ?_; intro W2 hp2; have z0 := Lib.cell_of_heap hp2.here 0; have z1 := Lib.cell_of_heap hp2.here 1; have z2 := Lib.cell_of_heap hp2.here 2; have z3 := Lib.cell_of_heap hp2.here 3; have HBZ := Lib.hid (hp2.below HB0.out (Nat.le_refl _)); clear hp2; simp only [List.getElem?_toArray, List.getElem?_cons_zero, List.getElem?_cons_succ] at z0 z1 z2 z3) | fail)
    exact bodyPost_ret (v := .tuple #[.agg #[.string ⟨#[]⟩, .int .i64 0, .string ⟨#[]⟩, .int .i64 0], .bool false]) (by simp [results, Tryz.results65, go_sem, z0, z1, z2, z3]) rfl (condPost_mk (y := V.noI) (b := false) (by rw [V.cp_nil]; rfl) HBZ.out)
  · have HT : (S.toList == []) = false := by rw [ByteArray.toList_eq, HSD.out]; rfl
    have hz : S.size = 1 := HSZ.out
    have EX : Hid (S.extract 1 S.size = ⟨([] : V.Bs).toArray⟩) := Lib.hid (ext_end (by rw [HSD.out]; rfl))
    have hz1 : ¬ 1 < S.size := by omega
    have hz2 : 0 < S.size := by omega
    have hz3 : 1 ≤ S.size := by omega
    clear hz
    go_enter Tryz.func65, Tryz.ntmps65
    go_wp2_with fail
    rw [EX.out]
    generalize w.alloc (.cells #[.string ⟨#[]⟩, .int .i64 0, .string ⟨#[]⟩, .int .i64 0] 80) = w0 at *
    refine (rvalid_any n ⟨([] : V.Bs).toArray⟩ w0 HM0.out (by rw [← EX.out]; exact HV1.out)).mono ?_
    rintro e w1 ⟨rfl, hb1⟩
    rw [bs_mk]
    have KX := Lib.hid (keep4 hb1 K0.out)
    have HB1 := Lib.hid (HB0.out.trans (hb1.mono HB0.out.size))
    clear hb1
    rw [V.valid_nil]
    go_wp2_with (first | (refine wl_putRow rfl 80 _ _ rfl w.heap.size #[.string ⟨#[]⟩, .int .i64 0, .string ⟨#[]⟩, .int .i64 0] _ KX.out rfl #[.string ⟨#[]⟩, .int .i64 0, .string ⟨#[]⟩, .int .i64 0] rfl rfl itvSize (by simp [Value.oneCell']) ?_; intro W2 hp2; have z0 := Lib.cell_of_heap hp2.here 0; have z1 := Lib.cell_of_heap hp2.here 1; have z2 := Lib.cell_of_heap hp2.here 2; have z3 := Lib.cell_of_heap hp2.here 3; have HBZ := Lib.hid (hp2.below HB1.out (Nat.le_refl _)); clear hp2; simp only [List.getElem?_toArray, List.getElem?_cons_zero, List.getElem?_cons_succ] at z0 z1 z2 z3) | fail)
    exact bodyPost_ret (v := .tuple #[.agg #[.string ⟨#[]⟩, .int .i64 0, .string ⟨#[]⟩, .int .i64 0], .bool false]) (by simp [results, Tryz.results65, go_sem, z0, z1, z2, z3]) rfl (condPost_mk (y := V.noI) (b := false) (by rw [V.cp_one]; rfl) HBZ.out)
  · have HT : (S.toList == []) = false := by rw [ByteArray.toList_eq, HSD.out]; rfl
    have hz : S.size = r.length + 2 := HSZ.out
    have hz1 : 1 < S.size := by omega
    have hz2 : 0 < S.size := by omega
    have hz3 : 2 ≤ S.size := by omega
    have hz4 : 1 ≤ S.size := by omega
    have g0 : S[0] = a := at_byte hz2 (by rw [HSD.out]; rfl)
    have g1 : S[1] = b := at_byte hz1 (by rw [HSD.out]; rfl)
    clear hz
    by_cases hb : b = 61
    · subst hb
      by_cases ha : a = 61
      · subst ha
        have G0 : ((S[0].toNat : Int) != 61) = false := by rw [g0]; rfl
        have G1 : (S[1].toNat : Int) = 61 := by rw [g1]; rfl
        clear g0 g1
        have EX : Hid (S.extract 1 S.size = ⟨(61 :: r).toArray⟩) := Lib.hid (ext_end (by rw [HSD.out]; rfl))
        go_enter Tryz.func65, Tryz.ntmps65
        go_wp2_with fail
        rw [EX.out]
        generalize w.alloc (.cells #[.string ⟨#[]⟩, .int .i64 0, .string ⟨#[]⟩, .int .i64 0] 80) = w0 at *
        refine (rvalid_any n ⟨(61 :: r).toArray⟩ w0 HM0.out (by rw [← EX.out]; exact HV1.out)).mono ?_
        rintro e w1 ⟨rfl, hb1⟩
        rw [bs_mk]
        have KX := Lib.hid (keep4 hb1 K0.out)
        have HB1 := Lib.hid (HB0.out.trans (hb1.mono HB0.out.size))
        clear hb1
        rw [V.cp_dbl_no]
        go_wp2_with (first | (refine wl_putRow rfl 80 _ _ rfl w.heap.size #[.string ⟨#[]⟩, .int .i64 0, .string ⟨#[]⟩, .int .i64 0] _ KX.out rfl #[.string ⟨#[]⟩, .int .i64 0, .string ⟨#[]⟩, .int .i64 0] rfl rfl itvSize (by simp [Value.oneCell']) ?_; intro W2 hp2; have z0 := Lib.cell_of_heap hp2.here 0; have z1 := Lib.cell_of_heap hp2.here 1; have z2 := Lib.cell_of_heap hp2.here 2; have z3 := Lib.cell_of_heap hp2.here 3; have HBZ := Lib.hid (hp2.below HB1.out (Nat.le_refl _)); clear hp2; simp only [List.getElem?_toArray, List.getElem?_cons_zero, List.getElem?_cons_succ] at z0 z1 z2 z3) | fail)
        exact bodyPost_ret (v := .tuple #[.agg #[.string ⟨#[]⟩, .int .i64 0, .string ⟨#[]⟩, .int .i64 0], .bool false]) (by simp [results, Tryz.results65, go_sem, z0, z1, z2, z3]) rfl (condPost_mk (y := V.noI) (b := false) (by rw [V.cp_dbl]; rfl) HBZ.out)
      · have G0 : ((S[0].toNat : Int) != 61) = true := by rw [g0, bne_iff_ne]; intro e; exact ha (UInt8.toNat_inj.1 (by rw [show (61 : UInt8).toNat = 61 from rfl]; omega))
        have G1 : (S[1].toNat : Int) = 61 := by rw [g1]; rfl
        clear g0 g1
        have EX : Hid (S.extract 2 S.size = ⟨r.toArray⟩) := Lib.hid (ext_end (by rw [HSD.out]; rfl))
        have ET : Hid ((S.extract 0 2).toList = [a, 61]) := Lib.hid (ext_top (by rw [HSD.out]; rfl))
        have HA := Lib.hid ha
        clear ha
        go_enter Tryz.func65, Tryz.ntmps65
        go_wp2_with fail
        rw [EX.out]
        generalize w.alloc (.cells #[.string ⟨#[]⟩, .int .i64 0, .string ⟨#[]⟩, .int .i64 0] 80) = w0 at *
        refine (rvalid_any n ⟨(r).toArray⟩ w0 HM0.out (by rw [← EX.out]; exact HV2.out)).mono ?_
        rintro e w1 ⟨rfl, hb1⟩
        rw [bs_mk]
        have KX := Lib.hid (keep4 hb1 K0.out)
        have HB1 := Lib.hid (HB0.out.trans (hb1.mono HB0.out.size))
        clear hb1
        rcases hv : V.valid n r with _ | _
        · have HR := Lib.hid (V.cp2_no HA.out hv)
          clear hv
          go_wp2_with (first | (refine wl_putRow rfl 80 _ _ rfl w.heap.size #[.string ⟨#[]⟩, .int .i64 0, .string ⟨#[]⟩, .int .i64 0] _ KX.out rfl #[.string ⟨#[]⟩, .int .i64 0, .string ⟨#[]⟩, .int .i64 0] rfl rfl itvSize (by simp [Value.oneCell']) ?_; intro W2 hp2; have z0 := Lib.cell_of_heap hp2.here 0; have z1 := Lib.cell_of_heap hp2.here 1; have z2 := Lib.cell_of_heap hp2.here 2; have z3 := Lib.cell_of_heap hp2.here 3; have HBZ := Lib.hid (hp2.below HB1.out (Nat.le_refl _)); clear hp2; simp only [List.getElem?_toArray, List.getElem?_cons_zero, List.getElem?_cons_succ] at z0 z1 z2 z3) | fail)
          exact bodyPost_ret (v := .tuple #[.agg #[.string ⟨#[]⟩, .int .i64 0, .string ⟨#[]⟩, .int .i64 0], .bool false]) (by simp [results, Tryz.results65, go_sem, z0, z1, z2, z3]) rfl (condPost_mk (y := V.noI) (b := false) (by rw [HR.out]; rfl) HBZ.out)
        · by_cases h60 : a = 60
          · subst h60
            have HR := Lib.hid (V.cp2_le hv)
            clear hv
            have o0 : ((S.extract 0 2).toList == [61]) = false := by rw [ET.out]; rfl
            have o1 : ((S.extract 0 2).toList == [60]) = false := by rw [ET.out]; rfl
            have o2 : ((S.extract 0 2).toList == [60, 61]) = true := by rw [ET.out]; rfl
            go_wp2_with (first | (refine wl_putRow rfl 80 _ _ rfl w.heap.size #[.string ⟨#[]⟩, .int .i64 0, .string ⟨#[]⟩, .int .i64 0] _ KX.out rfl #[.string ⟨#[]⟩, .int .i64 0, .string ⟨r.toArray⟩, .int .i64 1] rfl rfl itvSize (by simp [Value.oneCell']) ?_; intro W2 hp2; have z0 := Lib.cell_of_heap hp2.here 0; have z1 := Lib.cell_of_heap hp2.here 1; have z2 := Lib.cell_of_heap hp2.here 2; have z3 := Lib.cell_of_heap hp2.here 3; have HBZ := Lib.hid (hp2.below HB1.out (Nat.le_refl _)); clear hp2; simp only [List.getElem?_toArray, List.getElem?_cons_zero, List.getElem?_cons_succ] at z0 z1 z2 z3) | fail)
            exact bodyPost_ret (v := .tuple #[.agg #[.string ⟨#[]⟩, .int .i64 0, .string ⟨r.toArray⟩, .int .i64 1], .bool true]) (by simp [results, Tryz.results65, go_sem, z0, z1, z2, z3]) rfl (condPost_mk (y := V.condI 1 r) (b := true) (by rw [HR.out]; rfl) HBZ.out)
          · by_cases h62 : a = 62
            · subst h62
              have HR := Lib.hid (V.cp2_ge hv)
              clear hv
              have o0 : ((S.extract 0 2).toList == [61]) = false := by rw [ET.out]; rfl
              have o1 : ((S.extract 0 2).toList == [60]) = false := by rw [ET.out]; rfl
              have o2 : ((S.extract 0 2).toList == [60, 61]) = false := by rw [ET.out]; rfl
              have o3 : ((S.extract 0 2).toList == [62]) = false := by rw [ET.out]; rfl
              have o4 : ((S.extract 0 2).toList == [62, 61]) = true := by rw [ET.out]; rfl
              go_wp2_with (first | (refine wl_putRow rfl 80 _ _ rfl w.heap.size #[.string ⟨#[]⟩, .int .i64 0, .string ⟨#[]⟩, .int .i64 0] _ KX.out rfl #[.string ⟨r.toArray⟩, .int .i64 1, .string ⟨#[]⟩, .int .i64 0] rfl rfl itvSize (by simp [Value.oneCell']) ?_; intro W2 hp2; have z0 := Lib.cell_of_heap hp2.here 0; have z1 := Lib.cell_of_heap hp2.here 1; have z2 := Lib.cell_of_heap hp2.here 2; have z3 := Lib.cell_of_heap hp2.here 3; have HBZ := Lib.hid (hp2.below HB1.out (Nat.le_refl _)); clear hp2; simp only [List.getElem?_toArray, List.getElem?_cons_zero, List.getElem?_cons_succ] at z0 z1 z2 z3) | fail)
              exact bodyPost_ret (v := .tuple #[.agg #[.string ⟨r.toArray⟩, .int .i64 1, .string ⟨#[]⟩, .int .i64 0], .bool true]) (by simp [results, Tryz.results65, go_sem, z0, z1, z2, z3]) rfl (condPost_mk (y := V.condI 0 r) (b := true) (by rw [HR.out]; rfl) HBZ.out)
            · have h61 := HA.out
              have HR := Lib.hid (V.cp2_else (n := n) (r := r) h61 h60 h62)
              clear hv
              have o0 : ((S.extract 0 2).toList == [61]) = false := by rw [ET.out]; simp 
              have o1 : ((S.extract 0 2).toList == [60]) = false := by rw [ET.out]; simp 
              have o2 : ((S.extract 0 2).toList == [60, 61]) = false := by rw [ET.out]; simp [h60]
              have o3 : ((S.extract 0 2).toList == [62]) = false := by rw [ET.out]; simp 
              have o4 : ((S.extract 0 2).toList == [62, 61]) = false := by rw [ET.out]; simp [h62]
              clear h60 h61 h62
              go_wp2_with (first | (refine wl_putRow rfl 80 _ _ rfl w.heap.size #[.string ⟨#[]⟩, .int .i64 0, .string ⟨#[]⟩, .int .i64 0] _ KX.out rfl #[.string ⟨#[]⟩, .int .i64 0, .string ⟨#[]⟩, .int .i64 0] rfl rfl itvSize (by simp [Value.oneCell']) ?_; intro W2 hp2; have z0 := Lib.cell_of_heap hp2.here 0; have z1 := Lib.cell_of_heap hp2.here 1; have z2 := Lib.cell_of_heap hp2.here 2; have z3 := Lib.cell_of_heap hp2.here 3; have HBZ := Lib.hid (hp2.below HB1.out (Nat.le_refl _)); clear hp2; simp only [List.getElem?_toArray, List.getElem?_cons_zero, List.getElem?_cons_succ] at z0 z1 z2 z3) | fail)
              exact bodyPost_ret (v := .tuple #[.agg #[.string ⟨#[]⟩, .int .i64 0, .string ⟨#[]⟩, .int .i64 0], .bool false]) (by simp [results, Tryz.results65, go_sem, z0, z1, z2, z3]) rfl (condPost_mk (y := V.noI) (b := false) (by rw [HR.out]; rfl) HBZ.out)
    · have G1 : ¬ (S[1].toNat : Int) = 61 := by rw [g1]; intro e; exact hb (UInt8.toNat_inj.1 (by rw [show (61 : UInt8).toNat = 61 from rfl]; omega))
      clear g0 g1
      have EX : Hid (S.extract 1 S.size = ⟨(b :: r).toArray⟩) := Lib.hid (ext_end (by rw [HSD.out]; rfl))
      have ET : Hid ((S.extract 0 1).toList = [a]) := Lib.hid (ext_top (by rw [HSD.out]; rfl))
      have HA := Lib.hid hb
      clear hb
      go_enter Tryz.func65, Tryz.ntmps65
      go_wp2_with fail
      rw [EX.out]
      generalize w.alloc (.cells #[.string ⟨#[]⟩, .int .i64 0, .string ⟨#[]⟩, .int .i64 0] 80) = w0 at *
      refine (rvalid_any n ⟨(b :: r).toArray⟩ w0 HM0.out (by rw [← EX.out]; exact HV1.out)).mono ?_
      rintro e w1 ⟨rfl, hb1⟩
      rw [bs_mk]
      have KX := Lib.hid (keep4 hb1 K0.out)
      have HB1 := Lib.hid (HB0.out.trans (hb1.mono HB0.out.size))
      clear hb1
      rcases hv : V.valid n (b :: r) with _ | _
      · have HR := Lib.hid (V.cp1_no (a := a) HA.out hv)
        clear hv
        go_wp2_with (first | (refine wl_putRow rfl 80 _ _ rfl w.heap.size #[.string ⟨#[]⟩, .int .i64 0, .string ⟨#[]⟩, .int .i64 0] _ KX.out rfl #[.string ⟨#[]⟩, .int .i64 0, .string ⟨#[]⟩, .int .i64 0] rfl rfl itvSize (by simp [Value.oneCell']) ?_; intro W2 hp2; have z0 := Lib.cell_of_heap hp2.here 0; have z1 := Lib.cell_of_heap hp2.here 1; have z2 := Lib.cell_of_heap hp2.here 2; have z3 := Lib.cell_of_heap hp2.here 3; have HBZ := Lib.hid (hp2.below HB1.out (Nat.le_refl _)); clear hp2; simp only [List.getElem?_toArray, List.getElem?_cons_zero, List.getElem?_cons_succ] at z0 z1 z2 z3) | fail)
        exact bodyPost_ret (v := .tuple #[.agg #[.string ⟨#[]⟩, .int .i64 0, .string ⟨#[]⟩, .int .i64 0], .bool false]) (by simp [results, Tryz.results65, go_sem, z0, z1, z2, z3]) rfl (condPost_mk (y := V.noI) (b := false) (by rw [HR.out]; rfl) HBZ.out)
      · by_cases h61 : a = 61
        · subst h61
          have HR := Lib.hid (V.cp1_eq hv)
          clear hv
          have o0 : ((S.extract 0 1).toList == [61]) = true := by rw [ET.out]; rfl
          generalize b :: r = u at *
          go_wp2_with (first | (refine wl_putRow rfl 80 _ _ rfl w.heap.size #[.string ⟨#[]⟩, .int .i64 0, .string ⟨#[]⟩, .int .i64 0] _ KX.out rfl #[.string ⟨u.toArray⟩, .int .i64 1, .string ⟨u.toArray⟩, .int .i64 1] rfl rfl itvSize (by simp [Value.oneCell']) ?_; intro W2 hp2; have z0 := Lib.cell_of_heap hp2.here 0; have z1 := Lib.cell_of_heap hp2.here 1; have z2 := Lib.cell_of_heap hp2.here 2; have z3 := Lib.cell_of_heap hp2.here 3; have HBZ := Lib.hid (hp2.below HB1.out (Nat.le_refl _)); clear hp2; simp only [List.getElem?_toArray, List.getElem?_cons_zero, List.getElem?_cons_succ] at z0 z1 z2 z3) | fail)
          exact bodyPost_ret (v := .tuple #[.agg #[.string ⟨u.toArray⟩, .int .i64 1, .string ⟨u.toArray⟩, .int .i64 1], .bool true]) (by simp [results, Tryz.results65, go_sem, z0, z1, z2, z3]) rfl (condPost_mk (y := V.condI 2 u) (b := true) (by rw [HR.out]; rfl) HBZ.out)
        · by_cases h60 : a = 60
          · subst h60
            have HR := Lib.hid (V.cp1_lt HA.out hv)
            clear hv
            have o0 : ((S.extract 0 1).toList == [61]) = false := by rw [ET.out]; rfl
            have o1 : ((S.extract 0 1).toList == [60]) = true := by rw [ET.out]; rfl
            generalize b :: r = u at *
            go_wp2_with (first | (refine wl_putRow rfl 80 _ _ rfl w.heap.size #[.string ⟨#[]⟩, .int .i64 0, .string ⟨#[]⟩, .int .i64 0] _ KX.out rfl #[.string ⟨#[]⟩, .int .i64 0, .string ⟨u.toArray⟩, .int .i64 2] rfl rfl itvSize (by simp [Value.oneCell']) ?_; intro W2 hp2; have z0 := Lib.cell_of_heap hp2.here 0; have z1 := Lib.cell_of_heap hp2.here 1; have z2 := Lib.cell_of_heap hp2.here 2; have z3 := Lib.cell_of_heap hp2.here 3; have HBZ := Lib.hid (hp2.below HB1.out (Nat.le_refl _)); clear hp2; simp only [List.getElem?_toArray, List.getElem?_cons_zero, List.getElem?_cons_succ] at z0 z1 z2 z3) | fail)
            exact bodyPost_ret (v := .tuple #[.agg #[.string ⟨#[]⟩, .int .i64 0, .string ⟨u.toArray⟩, .int .i64 2], .bool true]) (by simp [results, Tryz.results65, go_sem, z0, z1, z2, z3]) rfl (condPost_mk (y := V.condI 3 u) (b := true) (by rw [HR.out]; rfl) HBZ.out)
          · by_cases h62 : a = 62
            · subst h62
              have HR := Lib.hid (V.cp1_gt HA.out hv)
              clear hv
              have o0 : ((S.extract 0 1).toList == [61]) = false := by rw [ET.out]; rfl
              have o1 : ((S.extract 0 1).toList == [60]) = false := by rw [ET.out]; rfl
              have o2 : ((S.extract 0 1).toList == [60, 61]) = false := by rw [ET.out]; rfl
              have o3 : ((S.extract 0 1).toList == [62]) = true := by rw [ET.out]; rfl
              generalize b :: r = u at *
              go_wp2_with (first | (refine wl_putRow rfl 80 _ _ rfl w.heap.size #[.string ⟨#[]⟩, .int .i64 0, .string ⟨#[]⟩, .int .i64 0] _ KX.out rfl #[.string ⟨u.toArray⟩, .int .i64 2, .string ⟨#[]⟩, .int .i64 0] rfl rfl itvSize (by simp [Value.oneCell']) ?_; intro W2 hp2; have z0 := Lib.cell_of_heap hp2.here 0; have z1 := Lib.cell_of_heap hp2.here 1; have z2 := Lib.cell_of_heap hp2.here 2; have z3 := Lib.cell_of_heap hp2.here 3; have HBZ := Lib.hid (hp2.below HB1.out (Nat.le_refl _)); clear hp2; simp only [List.getElem?_toArray, List.getElem?_cons_zero, List.getElem?_cons_succ] at z0 z1 z2 z3) | fail)
              exact bodyPost_ret (v := .tuple #[.agg #[.string ⟨u.toArray⟩, .int .i64 2, .string ⟨#[]⟩, .int .i64 0], .bool true]) (by simp [results, Tryz.results65, go_sem, z0, z1, z2, z3]) rfl (condPost_mk (y := V.condI 4 u) (b := true) (by rw [HR.out]; rfl) HBZ.out)
            · have HR := Lib.hid (V.cp1_else (n := n) (b := b) (r := r) h61 h60 h62)
              clear hv
              have o0 : ((S.extract 0 1).toList == [61]) = false := by rw [ET.out]; simp [h61]
              have o1 : ((S.extract 0 1).toList == [60]) = false := by rw [ET.out]; simp [h60]
              have o2 : ((S.extract 0 1).toList == [60, 61]) = false := by rw [ET.out]; simp 
              have o3 : ((S.extract 0 1).toList == [62]) = false := by rw [ET.out]; simp [h62]
              have o4 : ((S.extract 0 1).toList == [62, 61]) = false := by rw [ET.out]; simp 
              clear h60 h61 h62
              go_wp2_with (first | (refine wl_putRow rfl 80 _ _ rfl w.heap.size #[.string ⟨#[]⟩, .int .i64 0, .string ⟨#[]⟩, .int .i64 0] _ KX.out rfl #[.string ⟨#[]⟩, .int .i64 0, .string ⟨#[]⟩, .int .i64 0] rfl rfl itvSize (by simp [Value.oneCell']) ?_; intro W2 hp2; have z0 := Lib.cell_of_heap hp2.here 0; have z1 := Lib.cell_of_heap hp2.here 1; have z2 := Lib.cell_of_heap hp2.here 2; have z3 := Lib.cell_of_heap hp2.here 3; have HBZ := Lib.hid (hp2.below HB1.out (Nat.le_refl _)); clear hp2; simp only [List.getElem?_toArray, List.getElem?_cons_zero, List.getElem?_cons_succ] at z0 z1 z2 z3) | fail)
              exact bodyPost_ret (v := .tuple #[.agg #[.string ⟨#[]⟩, .int .i64 0, .string ⟨#[]⟩, .int .i64 0], .bool false]) (by simp [results, Tryz.results65, go_sem, z0, z1, z2, z3]) rfl (condPost_mk (y := V.noI) (b := false) (by rw [HR.out]; rfl) HBZ.out)
end Go.Proofs.YtpjjkbdkgaehkaaGreatDoor
