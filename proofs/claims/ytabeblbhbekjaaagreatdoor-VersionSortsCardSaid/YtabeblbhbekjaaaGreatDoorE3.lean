/-
  Walks: two versions of a scheme compared.
-/
import Derived.Test.YtabeblbhbekjaaaGreatDoorE2
namespace Go.Proofs.YtabeblbhbekjaaaGreatDoor
open Go.RowKit

theorem two_strs (s t : ByteArray) (w : World) : Strs (w.alloc (.cells #[.string s, .string t] 9)) (.slice (some ⟨w.heap.size, 0, none⟩) 2 2) [s.data.toList, t.data.toList] := by
  have h := Strs.split w [s.data.toList, t.data.toList] 9
  have e : strCells [s.data.toList, t.data.toList] = #[.string s, .string t] := by
    unfold strCells; simp [bs_of]
  rw [e] at h
  exact h

theorem two_le {s t : ByteArray} (hs : s.size ≤ maxLen) (ht : t.size ≤ maxLen) : ∀ x ∈ [s.data.toList, t.data.toList], x.length ≤ maxLen := by
  intro x hx
  simp at hx
  rcases hx with rfl | rfl
  · rw [Array.length_toList]; exact hs
  · rw [Array.length_toList]; exact ht

theorem valid_len {n : Int} {v : V.Bs} (h : V.valid n v = true) : v.length ≤ 64 := by
  unfold V.valid at h; simp at h; omega
theorem valid_sem {v : V.Bs} (h : V.valid 1 v = true) : (V.semParse v).isSome = true := by
  unfold V.valid V.schOk at h; simp at h; exact h.2
theorem valid_deb {v : V.Bs} (h : V.valid 2 v = true) : (V.debParse v).isSome = true := by
  unfold V.valid V.schOk at h; simp at h; exact h.2

set_option maxRecDepth 100000 in
set_option maxHeartbeats 1600000 in
theorem compare1_any (s t : ByteArray) (w : World) (hm : MaxOk w) (hs : s.size ≤ maxLen) (ht : t.size ≤ maxLen) :
    Calls Tryz.prog 25 #[.int .i64 1, .string s, .string t] w fun e w' =>
      e = .returned (.tuple #[.int .i64 (V.compareR 1 s.data.toList t.data.toList).1, .int .i64 (V.compareR 1 s.data.toList t.data.toList).2]) ∧ Below w.heap.size w w' := by
  have hS := two_strs s t w
  have hb0 : Below w.heap.size w (w.alloc (.cells #[.string s, .string t] 9)) := (Below.refl _ w).alloc (Nat.le_refl _) _
  have hm0 := hm.below hb0
  have HF : Hid (V.compareR 1 s.data.toList t.data.toList = if V.valid 1 s.data.toList && V.valid 1 t.data.toList then (V.cmpV 1 s.data.toList t.data.toList, 0) else (0, 1)) := rfl
  have HS := Lib.hid hS
  have HB0 := Lib.hid hb0
  clear hS hb0
  rcases hv : (V.valid 1 s.data.toList && V.valid 1 t.data.toList) with _ | _
  · rw [hv] at HF
    have HV : Hid ([s.data.toList, t.data.toList].all (V.valid 1) = false) := Lib.hid (by simpa using hv)
    have H1 := Lib.hid (show V.compareR 1 s.data.toList t.data.toList = (0, 1) from HF.out)
    clear hv HF
    go_enter Tryz.func25, Tryz.ntmps25
    go_wp2_with fail
    refine (check1_any _ _ _ hm0 HS.out (by show 2 ≤ _; unfold maxLen; omega) (two_le hs ht)).mono ?_
    rintro e w1 ⟨he, hb1⟩
    rw [HV.out] at he
    obtain rfl := he
    have HB1 := Lib.hid (HB0.out.trans (hb1.mono HB0.out.size))
    clear hb1
    go_wp2
    go_ret2
    exact ⟨by rw [H1.out]; rfl, HB1.out⟩
  · have HV : Hid ([s.data.toList, t.data.toList].all (V.valid 1) = true) := Lib.hid (by simpa using hv)
    rw [hv] at HF
    have H1 := Lib.hid (show V.compareR 1 s.data.toList t.data.toList = (V.cmpV 1 s.data.toList t.data.toList, 0) from HF.out)
    rw [Bool.and_eq_true] at hv
    have h64 := valid_len hv.1
    have h65 := valid_len hv.2
    rw [bs_size] at h64 h65
    have HSV := Lib.hid hv
    clear hv HF
    obtain ⟨⟨la, pa⟩, hpa⟩ := Option.isSome_iff_exists.1 (valid_sem HSV.out.1)
    obtain ⟨⟨lb, pb⟩, hpb⟩ := Option.isSome_iff_exists.1 (valid_sem HSV.out.2)
    have HCV : Hid (V.cmpV 1 s.data.toList t.data.toList = V.semCmp (la, pa) (lb, pb)) := Lib.hid (by unfold V.cmpV; rw [if_pos rfl, hpa, hpb])
    have HPA := Lib.hid hpa
    have HPB := Lib.hid hpb
    clear hpa hpb
    have hmeth := meth_cmp1
    go_enter Tryz.func25, Tryz.ntmps25
    go_wp2_with fail
    refine (check1_any _ _ _ hm0 HS.out (by show 2 ≤ _; unfold maxLen; omega) (two_le hs ht)).mono ?_
    rintro e w1 ⟨he, hb1⟩
    rw [HV.out] at he
    obtain rfl := he
    have hm1 := hm0.below hb1
    have HB1 := Lib.hid (HB0.out.trans (hb1.mono HB0.out.size))
    clear hb1
    go_wp2_with fail
    refine (semCompare_any s t la pa lb pb _ hm1 (by omega) (by omega) HPA.out HPB.out).mono ?_
    rintro e w2 ⟨rfl, hb2⟩
    have HB2 := Lib.hid (HB1.out.trans (hb2.mono HB1.out.size))
    clear hb2
    go_wp2
    go_ret2
    exact ⟨by rw [H1.out, HCV.out]; rfl, HB2.out⟩

set_option maxRecDepth 100000 in
set_option maxHeartbeats 1600000 in
theorem compare2_any (s t : ByteArray) (w : World) (hm : MaxOk w) (hs : s.size ≤ maxLen) (ht : t.size ≤ maxLen) :
    Calls Tryz.prog 25 #[.int .i64 2, .string s, .string t] w fun e w' =>
      e = .returned (.tuple #[.int .i64 (V.compareR 2 s.data.toList t.data.toList).1, .int .i64 (V.compareR 2 s.data.toList t.data.toList).2]) ∧ Below w.heap.size w w' := by
  have hS := two_strs s t w
  have hb0 : Below w.heap.size w (w.alloc (.cells #[.string s, .string t] 9)) := (Below.refl _ w).alloc (Nat.le_refl _) _
  have hm0 := hm.below hb0
  have HF : Hid (V.compareR 2 s.data.toList t.data.toList = if V.valid 2 s.data.toList && V.valid 2 t.data.toList then (V.cmpV 2 s.data.toList t.data.toList, 0) else (0, 1)) := rfl
  have HS := Lib.hid hS
  have HB0 := Lib.hid hb0
  clear hS hb0
  rcases hv : (V.valid 2 s.data.toList && V.valid 2 t.data.toList) with _ | _
  · rw [hv] at HF
    have HV : Hid ([s.data.toList, t.data.toList].all (V.valid 2) = false) := Lib.hid (by simpa using hv)
    have H1 := Lib.hid (show V.compareR 2 s.data.toList t.data.toList = (0, 1) from HF.out)
    clear hv HF
    go_enter Tryz.func25, Tryz.ntmps25
    go_wp2_with fail
    refine (check2_any _ _ _ hm0 HS.out (by show 2 ≤ _; unfold maxLen; omega) (two_le hs ht)).mono ?_
    rintro e w1 ⟨he, hb1⟩
    rw [HV.out] at he
    obtain rfl := he
    have HB1 := Lib.hid (HB0.out.trans (hb1.mono HB0.out.size))
    clear hb1
    go_wp2
    go_ret2
    exact ⟨by rw [H1.out]; rfl, HB1.out⟩
  · have HV : Hid ([s.data.toList, t.data.toList].all (V.valid 2) = true) := Lib.hid (by simpa using hv)
    rw [hv] at HF
    have H1 := Lib.hid (show V.compareR 2 s.data.toList t.data.toList = (V.cmpV 2 s.data.toList t.data.toList, 0) from HF.out)
    rw [Bool.and_eq_true] at hv
    have h64 := valid_len hv.1
    have h65 := valid_len hv.2
    rw [bs_size] at h64 h65
    have HSV := Lib.hid hv
    clear hv HF
    obtain ⟨⟨x0, x1, x2⟩, hpa⟩ := Option.isSome_iff_exists.1 (valid_deb HSV.out.1)
    obtain ⟨⟨y0, y1, y2⟩, hpb⟩ := Option.isSome_iff_exists.1 (valid_deb HSV.out.2)
    have HCV : Hid (V.cmpV 2 s.data.toList t.data.toList = V.debCmp (x0, x1, x2) (y0, y1, y2)) := Lib.hid (by unfold V.cmpV; rw [if_neg (by decide), if_pos rfl, hpa, hpb])
    have HPA := Lib.hid hpa
    have HPB := Lib.hid hpb
    clear hpa hpb
    have hmeth := meth_cmp2
    go_enter Tryz.func25, Tryz.ntmps25
    go_wp2_with fail
    refine (check2_any _ _ _ hm0 HS.out (by show 2 ≤ _; unfold maxLen; omega) (two_le hs ht)).mono ?_
    rintro e w1 ⟨he, hb1⟩
    rw [HV.out] at he
    obtain rfl := he
    have hm1 := hm0.below hb1
    have HB1 := Lib.hid (HB0.out.trans (hb1.mono HB0.out.size))
    clear hb1
    go_wp2_with fail
    refine (debCompare_any s t x0 x1 x2 y0 y1 y2 _ hm1 (by omega) (by omega) HPA.out HPB.out).mono ?_
    rintro e w2 ⟨rfl, hb2⟩
    have HB2 := Lib.hid (HB1.out.trans (hb2.mono HB1.out.size))
    clear hb2
    go_wp2
    go_ret2
    exact ⟨by rw [H1.out, HCV.out]; rfl, HB2.out⟩

set_option maxRecDepth 100000 in
set_option maxHeartbeats 1600000 in
theorem compare3_any (s t : ByteArray) (w : World) (hm : MaxOk w) (hs : s.size ≤ maxLen) (ht : t.size ≤ maxLen) :
    Calls Tryz.prog 25 #[.int .i64 3, .string s, .string t] w fun e w' =>
      e = .returned (.tuple #[.int .i64 (V.compareR 3 s.data.toList t.data.toList).1, .int .i64 (V.compareR 3 s.data.toList t.data.toList).2]) ∧ Below w.heap.size w w' := by
  have hS := two_strs s t w
  have hb0 : Below w.heap.size w (w.alloc (.cells #[.string s, .string t] 9)) := (Below.refl _ w).alloc (Nat.le_refl _) _
  have hm0 := hm.below hb0
  have HF : Hid (V.compareR 3 s.data.toList t.data.toList = if V.valid 3 s.data.toList && V.valid 3 t.data.toList then (V.cmpV 3 s.data.toList t.data.toList, 0) else (0, 1)) := rfl
  have HS := Lib.hid hS
  have HB0 := Lib.hid hb0
  clear hS hb0
  rcases hv : (V.valid 3 s.data.toList && V.valid 3 t.data.toList) with _ | _
  · rw [hv] at HF
    have HV : Hid ([s.data.toList, t.data.toList].all (V.valid 3) = false) := Lib.hid (by simpa using hv)
    have H1 := Lib.hid (show V.compareR 3 s.data.toList t.data.toList = (0, 1) from HF.out)
    clear hv HF
    go_enter Tryz.func25, Tryz.ntmps25
    go_wp2_with fail
    refine (check3_any _ _ _ hm0 HS.out (by show 2 ≤ _; unfold maxLen; omega) (two_le hs ht)).mono ?_
    rintro e w1 ⟨he, hb1⟩
    rw [HV.out] at he
    obtain rfl := he
    have HB1 := Lib.hid (HB0.out.trans (hb1.mono HB0.out.size))
    clear hb1
    go_wp2
    go_ret2
    exact ⟨by rw [H1.out]; rfl, HB1.out⟩
  · have HV : Hid ([s.data.toList, t.data.toList].all (V.valid 3) = true) := Lib.hid (by simpa using hv)
    rw [hv] at HF
    have H1 := Lib.hid (show V.compareR 3 s.data.toList t.data.toList = (V.cmpV 3 s.data.toList t.data.toList, 0) from HF.out)
    rw [Bool.and_eq_true] at hv
    have h64 := valid_len hv.1
    have h65 := valid_len hv.2
    rw [bs_size] at h64 h65
    have HSV := Lib.hid hv
    clear hv HF
    have HCV : Hid (V.cmpV 3 s.data.toList t.data.toList = V.dotCmp s.data.toList t.data.toList) := Lib.hid (by unfold V.cmpV; rw [if_neg (by decide), if_neg (by decide)])
    have hmeth := meth_cmp3
    go_enter Tryz.func25, Tryz.ntmps25
    go_wp2_with fail
    refine (check3_any _ _ _ hm0 HS.out (by show 2 ≤ _; unfold maxLen; omega) (two_le hs ht)).mono ?_
    rintro e w1 ⟨he, hb1⟩
    rw [HV.out] at he
    obtain rfl := he
    have hm1 := hm0.below hb1
    have HB1 := Lib.hid (HB0.out.trans (hb1.mono HB0.out.size))
    clear hb1
    go_wp2_with fail
    refine (dotCompare_any s t _ hm1 (by omega) (by omega)).mono ?_
    rintro e w2 ⟨rfl, hb2⟩
    have HB2 := Lib.hid (HB1.out.trans (hb2.mono HB1.out.size))
    clear hb2
    go_wp2
    go_ret2
    exact ⟨by rw [H1.out, HCV.out]; rfl, HB2.out⟩

set_option maxRecDepth 100000 in
set_option maxHeartbeats 800000 in
theorem compare0_any (n : Int) (h1 : n ≠ 1) (h2 : n ≠ 2) (h3 : n ≠ 3) (s t : ByteArray) (w : World) :
    Calls Tryz.prog 25 #[.int .i64 n, .string s, .string t] w fun e w' =>
      e = .returned (.tuple #[.int .i64 (V.compareR n s.data.toList t.data.toList).1, .int .i64 (V.compareR n s.data.toList t.data.toList).2]) ∧ Below w.heap.size w w' := by
  have HF : Hid (V.compareR n s.data.toList t.data.toList = (0, 14)) := Lib.hid (by unfold V.compareR V.scheme; simp [h1, h2, h3])
  go_enter Tryz.func25, Tryz.ntmps25
  go_wp2_with fail
  refine (check0_any n h1 h2 h3 _ _).mono ?_
  rintro e w' ⟨rfl, rfl⟩
  go_wp2
  go_ret2
  exact ⟨by rw [HF.out]; rfl, (Below.refl _ _).alloc (Nat.le_refl _) _⟩

theorem compare_any (n : Int) (s t : ByteArray) (w : World) (hm : MaxOk w) (hs : s.size ≤ maxLen) (ht : t.size ≤ maxLen) :
    Calls Tryz.prog 25 #[.int .i64 n, .string s, .string t] w fun e w' =>
      e = .returned (.tuple #[.int .i64 (V.compareR n s.data.toList t.data.toList).1, .int .i64 (V.compareR n s.data.toList t.data.toList).2]) ∧ Below w.heap.size w w' := by
  by_cases h1 : n = 1
  · subst h1; exact compare1_any s t w hm hs ht
  · by_cases h2 : n = 2
    · subst h2; exact compare2_any s t w hm hs ht
    · by_cases h3 : n = 3
      · subst h3; exact compare3_any s t w hm hs ht
      · exact compare0_any n h1 h2 h3 s t w
end Go.Proofs.YtabeblbhbekjaaaGreatDoor
