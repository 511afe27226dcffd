/-
  Lemmas for the law.
-/
import Derived.Test.YtnhfaincdabdkaaGreatDoorC37x15
import Derived.Test.YtnhfaincdabdkaaGreatDoorC37x03
set_option linter.all false
set_option maxRecDepth 100000
set_option maxHeartbeats 1600000
namespace Go.Proofs.YtnhfaincdabdkaaGreatDoor
open Go.RowKit
theorem zhe (s t : ByteArray) (w : World) : Strs (w.alloc (.cells #[.string s, .string t] 9)) (.slice (some ⟨w.heap.size, 0, none⟩) 2 2) [s.data.toList, t.data.toList] := by
 have h := Strs.split w [s.data.toList, t.data.toList] 9
 have e : strCells [s.data.toList, t.data.toList] = #[.string s, .string t] := by
  unfold strCells; simp
 rw [e] at h
 exact h
theorem ze4 {s t : ByteArray} (hs : s.size ≤ maxLen) (ht : t.size ≤ maxLen) : ∀ x ∈ [s.data.toList, t.data.toList], x.length ≤ maxLen := by
 intro x hx
 simp at hx
 rcases hx with rfl | rfl
 ·rw [Array.length_toList]; exact hs
 ·rw [Array.length_toList]; exact ht
theorem valid_len {n : Int} {v : V.Bs} (h : V.valid n v = true) : v.length ≤ 64 := by
 unfold V.valid at h; simp at h; omega
theorem zkd {v : V.Bs} (h : V.valid 1 v = true) : (V.zi v).isSome = true := by
 unfold V.valid V.xq at h; simp at h; exact h.2
theorem zjr {v : V.Bs} (h : V.valid 2 v = true) : (V.zn v).isSome = true := by
 unfold V.valid V.xq at h; simp at h; exact h.2
theorem zux {P : Prop} (h : P := by
 rintro e w1 ⟨he, hb1⟩
 rw [HV.out] at he
 obtain rfl := he
 have HB1 := zs9 HB0 hb1
 clear hb1
 go_wp2
 go_ret2
 exact ⟨by rw [H1.out]; rfl, HB1.out⟩) : P := h
theorem zvf {P : Prop} (h : P := by
 rintro e w2 ⟨rfl, hb2⟩
 have HB2 := zs9 HB1 hb2
 clear hb2
 go_wp2
 go_ret2
 exact ⟨by rw [H1.out, HCV.out]; rfl, HB2.out⟩) : P := h
theorem zmb (s t : ByteArray) (w : World) (hm : zk w) (hs : s.size ≤ maxLen) (ht : t.size ≤ maxLen) :
  Calls Tryz.prog 125 #[.int .i64 1, .string s, .string t] w fun e w' =>
   e = .returned (.tuple #[.int .i64 (V.qk 1 s.data.toList t.data.toList).1, .int .i64 (V.qk 1 s.data.toList t.data.toList).2]) /\ Below w.heap.size w w' := by
 have hS := zhe s t w
 have hb0 : Below w.heap.size w (w.alloc (.cells #[.string s, .string t] 9)) := (ztb _ w).alloc (zta _) _
 have hm0 := hm.below hb0
 have HF : Hid (V.qk 1 s.data.toList t.data.toList = if V.valid 1 s.data.toList && V.valid 1 t.data.toList then (V.cmpV 1 s.data.toList t.data.toList, 0) else (0, 1)) := rfl
 have HS := zs8 hS
 have HB0 := zs8 hb0
 clear hS hb0
 rcases hv : (V.valid 1 s.data.toList && V.valid 1 t.data.toList) with _ | _
 ·rw [hv] at HF
  have HV : Hid ([s.data.toList, t.data.toList].all (V.valid 1) = false) := zs8 (by simpa using hv)
  have H1 := zs8 (show V.qk 1 s.data.toList t.data.toList = (0, 1) from HF.out)
  clear hv HF
  go_enter Tryz.func125, Tryz.ntmps125
  go_wp2_with fail
  refine (zij _ _ _ hm0 HS.out (by show 2 ≤ _; unfold maxLen; omega) (ze4 hs ht)).mono ?_
  exact zux
 ·have HV : Hid ([s.data.toList, t.data.toList].all (V.valid 1) = true) := zs8 (by simpa using hv)
  rw [hv] at HF
  have H1 := zs8 (show V.qk 1 s.data.toList t.data.toList = (V.cmpV 1 s.data.toList t.data.toList, 0) from HF.out)
  rw [Bool.and_eq_true] at hv
  have h64 := valid_len hv.1
  have h65 := valid_len hv.2
  rw [zf] at h64 h65
  have HSV := zs8 hv
  clear hv HF
  obtain ⟨⟨la, pa⟩, hpa⟩ := Option.isSome_iff_exists.1 (zkd HSV.out.1)
  obtain ⟨⟨lb, pb⟩, hpb⟩ := Option.isSome_iff_exists.1 (zkd HSV.out.2)
  have HCV : Hid (V.cmpV 1 s.data.toList t.data.toList = V.jb (la, pa) (lb, pb)) := zs8 (by unfold V.cmpV; rw [if_pos rfl, hpa, hpb])
  have HPA := zs8 hpa
  have HPB := zs8 hpb
  clear hpa hpb
  have hmeth := zsx
  go_enter Tryz.func125, Tryz.ntmps125
  go_wp2_with fail
  refine (zij _ _ _ hm0 HS.out (by show 2 ≤ _; unfold maxLen; omega) (ze4 hs ht)).mono ?_
  rintro e w1 ⟨he, hb1⟩
  rw [HV.out] at he
  obtain rfl := he
  have hm1 := hm0.below hb1
  have HB1 := zs9 HB0 hb1
  clear hb1
  go_wp2_with fail
  refine (zg4 s t la pa lb pb _ hm1 (by omega) (by omega) HPA.out HPB.out).mono ?_
  exact zvf
theorem zme (s t : ByteArray) (w : World) (hm : zk w) (hs : s.size ≤ maxLen) (ht : t.size ≤ maxLen) :
  Calls Tryz.prog 125 #[.int .i64 2, .string s, .string t] w fun e w' =>
   e = .returned (.tuple #[.int .i64 (V.qk 2 s.data.toList t.data.toList).1, .int .i64 (V.qk 2 s.data.toList t.data.toList).2]) /\ Below w.heap.size w w' := by
 have hS := zhe s t w
 have hb0 : Below w.heap.size w (w.alloc (.cells #[.string s, .string t] 9)) := (ztb _ w).alloc (zta _) _
 have hm0 := hm.below hb0
 have HF : Hid (V.qk 2 s.data.toList t.data.toList = if V.valid 2 s.data.toList && V.valid 2 t.data.toList then (V.cmpV 2 s.data.toList t.data.toList, 0) else (0, 1)) := rfl
 have HS := zs8 hS
 have HB0 := zs8 hb0
 clear hS hb0
 rcases hv : (V.valid 2 s.data.toList && V.valid 2 t.data.toList) with _ | _
 ·rw [hv] at HF
  have HV : Hid ([s.data.toList, t.data.toList].all (V.valid 2) = false) := zs8 (by simpa using hv)
  have H1 := zs8 (show V.qk 2 s.data.toList t.data.toList = (0, 1) from HF.out)
  clear hv HF
  go_enter Tryz.func125, Tryz.ntmps125
  go_wp2_with fail
  refine (zg9 _ _ _ hm0 HS.out (by show 2 ≤ _; unfold maxLen; omega) (ze4 hs ht)).mono ?_
  exact zux
 ·have HV : Hid ([s.data.toList, t.data.toList].all (V.valid 2) = true) := zs8 (by simpa using hv)
  rw [hv] at HF
  have H1 := zs8 (show V.qk 2 s.data.toList t.data.toList = (V.cmpV 2 s.data.toList t.data.toList, 0) from HF.out)
  rw [Bool.and_eq_true] at hv
  have h64 := valid_len hv.1
  have h65 := valid_len hv.2
  rw [zf] at h64 h65
  have HSV := zs8 hv
  clear hv HF
  obtain ⟨⟨x0, x1, x2⟩, hpa⟩ := Option.isSome_iff_exists.1 (zjr HSV.out.1)
  obtain ⟨⟨y0, y1, y2⟩, hpb⟩ := Option.isSome_iff_exists.1 (zjr HSV.out.2)
  have HCV : Hid (V.cmpV 2 s.data.toList t.data.toList = V.yx (x0, x1, x2) (y0, y1, y2)) := zs8 (by unfold V.cmpV; rw [if_neg (by decide), if_pos rfl, hpa, hpb])
  have HPA := zs8 hpa
  have HPB := zs8 hpb
  clear hpa hpb
  have hmeth := zsu
  go_enter Tryz.func125, Tryz.ntmps125
  go_wp2_with fail
  refine (zg9 _ _ _ hm0 HS.out (by show 2 ≤ _; unfold maxLen; omega) (ze4 hs ht)).mono ?_
  rintro e w1 ⟨he, hb1⟩
  rw [HV.out] at he
  obtain rfl := he
  have hm1 := hm0.below hb1
  have HB1 := zs9 HB0 hb1
  clear hb1
  go_wp2_with fail
  refine (zhl s t x0 x1 x2 y0 y1 y2 _ hm1 (by omega) (by omega) HPA.out HPB.out).mono ?_
  exact zvf
theorem zly (s t : ByteArray) (w : World) (hm : zk w) (hs : s.size ≤ maxLen) (ht : t.size ≤ maxLen) :
  Calls Tryz.prog 125 #[.int .i64 3, .string s, .string t] w fun e w' =>
   e = .returned (.tuple #[.int .i64 (V.qk 3 s.data.toList t.data.toList).1, .int .i64 (V.qk 3 s.data.toList t.data.toList).2]) /\ Below w.heap.size w w' := by
 have hS := zhe s t w
 have hb0 : Below w.heap.size w (w.alloc (.cells #[.string s, .string t] 9)) := (ztb _ w).alloc (zta _) _
 have hm0 := hm.below hb0
 have HF : Hid (V.qk 3 s.data.toList t.data.toList = if V.valid 3 s.data.toList && V.valid 3 t.data.toList then (V.cmpV 3 s.data.toList t.data.toList, 0) else (0, 1)) := rfl
 have HS := zs8 hS
 have HB0 := zs8 hb0
 clear hS hb0
 rcases hv : (V.valid 3 s.data.toList && V.valid 3 t.data.toList) with _ | _
 ·rw [hv] at HF
  have HV : Hid ([s.data.toList, t.data.toList].all (V.valid 3) = false) := zs8 (by simpa using hv)
  have H1 := zs8 (show V.qk 3 s.data.toList t.data.toList = (0, 1) from HF.out)
  clear hv HF
  go_enter Tryz.func125, Tryz.ntmps125
  go_wp2_with fail
  refine (zh0 _ _ _ hm0 HS.out (by show 2 ≤ _; unfold maxLen; omega) (ze4 hs ht)).mono ?_
  exact zux
 ·have HV : Hid ([s.data.toList, t.data.toList].all (V.valid 3) = true) := zs8 (by simpa using hv)
  rw [hv] at HF
  have H1 := zs8 (show V.qk 3 s.data.toList t.data.toList = (V.cmpV 3 s.data.toList t.data.toList, 0) from HF.out)
  rw [Bool.and_eq_true] at hv
  have h64 := valid_len hv.1
  have h65 := valid_len hv.2
  rw [zf] at h64 h65
  have HSV := zs8 hv
  clear hv HF
  have HCV : Hid (V.cmpV 3 s.data.toList t.data.toList = V.zaf s.data.toList t.data.toList) := zs8 (by unfold V.cmpV; rw [if_neg (by decide), if_neg (by decide)])
  have hmeth := zso
  go_enter Tryz.func125, Tryz.ntmps125
  go_wp2_with fail
  refine (zh0 _ _ _ hm0 HS.out (by show 2 ≤ _; unfold maxLen; omega) (ze4 hs ht)).mono ?_
  rintro e w1 ⟨he, hb1⟩
  rw [HV.out] at he
  obtain rfl := he
  have hm1 := hm0.below hb1
  have HB1 := zs9 HB0 hb1
  clear hb1
  go_wp2_with fail
  refine (ziq s t _ hm1 (by omega) (by omega)).mono ?_
  exact zvf
theorem zmq (n : Int) (h1 : n ≠ 1) (h2 : n ≠ 2) (h3 : n ≠ 3) (s t : ByteArray) (w : World) :
  Calls Tryz.prog 125 #[.int .i64 n, .string s, .string t] w fun e w' =>
   e = .returned (.tuple #[.int .i64 (V.qk n s.data.toList t.data.toList).1, .int .i64 (V.qk n s.data.toList t.data.toList).2]) /\ Below w.heap.size w w' := by
 have HF : Hid (V.qk n s.data.toList t.data.toList = (0, 14)) := zs8 (by unfold V.qk V.scheme; simp [h1, h2, h3])
 go_enter Tryz.func125, Tryz.ntmps125
 go_wp2_with fail
 refine (zqk n h1 h2 h3 _ _).mono ?_
 rintro e w' ⟨rfl, rfl⟩
 go_wp2
 go_ret2
 exact ⟨by rw [HF.out]; rfl, (ztb _ _).alloc (zta _) _⟩
theorem zov (n : Int) (s t : ByteArray) (w : World) (hm : zk w) (hs : s.size ≤ maxLen) (ht : t.size ≤ maxLen) :
  Calls Tryz.prog 125 #[.int .i64 n, .string s, .string t] w fun e w' =>
   e = .returned (.tuple #[.int .i64 (V.qk n s.data.toList t.data.toList).1, .int .i64 (V.qk n s.data.toList t.data.toList).2]) /\ Below w.heap.size w w' := by
 by_cases h1 : n = 1
 ·subst h1; exact zmb s t w hm hs ht
 ·by_cases h2 : n = 2
  ·subst h2; exact zme s t w hm hs ht
  ·by_cases h3 : n = 3
   ·subst h3; exact zly s t w hm hs ht
   ·exact zmq n h1 h2 h3 s t w
open Go.RowKit
theorem zao (n : Int) (w : World) :
  Calls Tryz.prog 188 #[.int .u8 n] w fun e w' => e = .returned (.bool (V.digB n)) /\ w = w' := by
 go_enter Tryz.func188, Tryz.ntmps188
 go_wp2
 all_goals go_ret
 all_goals exact ⟨zc (by unfold V.digB; simp_all; try omega), rfl⟩
theorem vg (n : Int) (w : World) :
  Calls Tryz.prog 217 #[.int .u8 n] w fun e w' => e = .returned (.bool (V.letB n)) /\ w = w' := by
 go_enter Tryz.func217, Tryz.ntmps217
 go_wp2
 all_goals go_ret
 all_goals exact ⟨zc (by unfold V.letB; simp_all; try omega), rfl⟩
theorem zk4 {s : ByteArray} {k : Nat} (hlt : k < s.size) : s.data.toList[k]'(by rw [zf]; exact hlt) = s[k] := by simp; rfl
theorem qd (s : ByteArray) (w : World) (hs : s.size ≤ maxLen) :
  Calls Tryz.prog 158 #[.string s] w fun e w' => e = .returned (.bool (V.digits s.data.toList)) /\ w = w' := by
 unfold maxLen at hs
 go_enter Tryz.func158, Tryz.ntmps158
 go_wp2
 go_loop [3] (fun i => ∃ k : Nat, k ≤ s.size /\ i = .int .i64 k /\ (s.data.toList.take k).all V.dig = true) (fun i => s.size - (intOf i).toNat)
 case atStart => exact ⟨0, Nat.zero_le _, rfl, rfl⟩
 case round =>
  obtain ⟨k, hk, rfl, hp⟩ := hrel
  have HP := zs8 hp
  clear hp
  by_cases hlt : k < s.size
  ·have hl : k < s.data.toList.length := by rw [zf]; exact hlt
   have HT := zs8 (V.za5 (p := V.dig) hl)
   have HE := zs8 (zk4 hlt)
   rcases hpc : V.digB s[k].toNat with _ | _
   all_goals
    have HPC := zs8 hpc
    clear hpc
    go_wp2_with fail
    refine (zao _ _).mono ?_
    rintro e w' ⟨rfl, rfl⟩
    simp only [HPC.out]
    go_wp2
   ·exact zxl
   ·go_round
    case rel => exact ⟨k + 1, by omega, by go_num, by rw [HT.out, HP.out, HE.out]; exact HPC.out⟩
    case measure => simp [intOf]; omega
  ·have ht : (s.data.toList.take k) = s.data.toList := List.take_of_length_le (by rw [zf]; omega)
   rw [ht] at HP
   have HQ : Hid (V.digits s.data.toList = !s.data.toList.isEmpty) := zs8 (by unfold V.digits V.only; rw [HP.out]; rfl)
   exact zw5
theorem zm7 {s : ByteArray} {k : Nat} (h : k < s.size) : s.extract k (k + 1) = ⟨#[s[k]]⟩ := by
 apply jr
 rw [Lib.extract_data]
 have hl : k < s.data.toList.length := by rw [zf]; exact h
 rw [List.drop_eq_getElem_cons hl, zk4 h]
 simp
theorem zu7 {P : Prop} (h : P := by
 go_round
 case rel => exact ⟨k + 1, by omega, by go_num, by rw [HT.out, HP.out, HE.out, HK.out]; rfl⟩
 case measure => simp [intOf]; omega) : P := h
theorem ut (s o : ByteArray) (w : World) (hs : s.size ≤ maxLen) :
  Calls Tryz.prog 185 #[.string s, .string o] w fun e w' => e = .returned (.bool (V.only (V.kind o.data.toList) s.data.toList)) /\ w = w' := by
 unfold maxLen at hs
 go_enter Tryz.func185, Tryz.ntmps185
 go_wp2
 go_loop [5] (fun i => ∃ k : Nat, k ≤ s.size /\ i = .int .i64 k /\ (s.data.toList.take k).all (V.kind o.data.toList) = true) (fun i => s.size - (intOf i).toNat)
 case atStart => exact ⟨0, Nat.zero_le _, rfl, rfl⟩
 case round =>
  obtain ⟨k, hk, rfl, hp⟩ := hrel
  have HP := zs8 hp
  clear hp
  by_cases hlt : k < s.size
  ·have hl : k < s.data.toList.length := by rw [zf]; exact hlt
   have HT := zs8 (V.za5 (p := V.kind o.data.toList) hl)
   have HE := zs8 (zk4 hlt)
   have HX := zs8 (zm7 hlt)
   have HK : Hid (V.kind o.data.toList s[k] = (V.letB s[k].toNat || V.digB s[k].toNat || decide (s[k] ∈ o.data.toList))) := rfl
   rcases hL : V.letB s[k].toNat with _ | _
   ·have HL := zs8 hL
    rcases hD : V.digB s[k].toNat with _ | _
    ·have HD := zs8 hD
     rcases hM : decide (s[k] ∈ o.data.toList) with _ | _
     all_goals
      have HM := zs8 hM
      rw [hL, hD, hM] at HK
      clear hL hD hM
      go_wp2_with fail
      refine (vg _ _).mono ?_
      rintro e w' ⟨rfl, rfl⟩
      simp only [HL.out]
      go_wp2_with fail
      refine (zao _ _).mono ?_
      rintro e w' ⟨rfl, rfl⟩
      simp only [HD.out]
      go_wp2_with fail
      rw [HX.out]
      refine (Tryz.strings_Contains_one _ _ _).mono ?_
      rintro e w' ⟨rfl, rfl⟩
      rw [V.ku, HM.out]
      go_wp2
     ·go_ret
      exact ⟨zc (V.zmp (k := k) (by rw [zf]; exact hlt) (by rw [HE.out]; exact HK.out)).symm, rfl⟩
     ·exact zu7
    ·have HD := zs8 hD
     rw [hL, hD] at HK
     clear hL hD
     go_wp2_with fail
     refine (vg _ _).mono ?_
     rintro e w' ⟨rfl, rfl⟩
     simp only [HL.out]
     go_wp2_with fail
     refine (zao _ _).mono ?_
     rintro e w' ⟨rfl, rfl⟩
     simp only [HD.out]
     go_wp2
     exact zu7
   ·have HL := zs8 hL
    rw [hL] at HK
    clear hL
    go_wp2_with fail
    refine (vg _ _).mono ?_
    rintro e w' ⟨rfl, rfl⟩
    simp only [HL.out]
    go_wp2
    exact zu7
  ·have ht : (s.data.toList.take k) = s.data.toList := List.take_of_length_le (by rw [zf]; omega)
   rw [ht] at HP
   have HQ : Hid (V.only (V.kind o.data.toList) s.data.toList = !s.data.toList.isEmpty) := zs8 (by unfold V.only; rw [HP.out]; rfl)
   exact zw5
theorem zh2 {x s : ByteArray} (h0 : 0 < x.size) (h : x[0] = 48) (hx : V.value x.data.toList = V.value s.data.toList) : V.value (x.extract 1 x.size).data.toList = V.value s.data.toList := by
 rw [← hx, V.zp4 (l := x.data.toList) (by rw [at0 h0]; exact h) (by rw [zf]; exact h0), Lib.extract_to_end]
theorem zj5 {x s : ByteArray} (h : x.size = 0 ∨ ∃ h0 : 0 < x.size, x[0] ≠ 48) (hx : V.value x.data.toList = V.value s.data.toList) : x = ⟨(V.value s.data.toList).toArray⟩ := by
 apply jr
 rw [← hx]
 simp only
 rcases h with h | ⟨h0, h⟩
 ·have : x.data.toList = [] := List.eq_nil_of_length_eq_zero (by rw [zf]; exact h)
  rw [this]; rfl
 ·exact (V.zot (by rw [at0 h0]; exact h)).symm
theorem zhh {x : ByteArray} (h : ¬ ∃ h0 : 0 < x.size, x[0] = 48) : (¬ 0 < x.size) ∨ (∃ h0 : 0 < x.size, ((x[0].toNat : Int) == 48) = false) := by
 rcases Nat.eq_zero_or_pos x.size with h0 | h0
 ·exact .inl (by omega)
 ·refine .inr ⟨h0, ?_⟩
  rw [ztc]
  intro e
  refine h ⟨h0, ?_⟩
  rw [← UInt8.toNat_inj]
  have : x[0].toNat = 48 := by omega
  rw [this]; rfl
theorem zv4 {P : Prop} (h : P := by
 clear h1
 go_wp2
 go_round
 case rel => exact ⟨_, rfl, by simp [ByteArray.size_extract]; omega, HS.out⟩
 case measure => simp [szOf, ByteArray.size_extract]; omega) : P := h
theorem zdo (s t : ByteArray) (w : World) (_hs : s.size ≤ maxLen) (_ht : t.size ≤ maxLen) :
  Calls Tryz.prog 189 #[.string s, .string t] w fun e w' => e = .returned (.int .i64 (V.numbers s.data.toList t.data.toList)) /\ w = w' := by
 unfold maxLen at _hs _ht
 have HF : Hid (V.numbers s.data.toList t.data.toList = V.cor (Lib.compareInt (V.value s.data.toList).length (V.value t.data.toList).length) (Lib.compareBytes (V.value s.data.toList) (V.value t.data.toList))) := rfl
 go_enter Tryz.func189, Tryz.ntmps189
 go_wp2
 go_loop [0] (fun v => ∃ x : ByteArray, v = .string x /\ x.size ≤ s.size /\ V.value x.data.toList = V.value s.data.toList) (fun v => szOf v)
 case atStart => exact ⟨s, rfl, zta _, rfl⟩
 case round =>
  obtain ⟨x, rfl, hxs, hx⟩ := hrel
  have HX := zs8 hx
  clear hx
  by_cases h : ∃ h0 : 0 < x.size, x[0] = 48
  ·obtain ⟨h0, h1⟩ := h
   have HS := zs8 (zh2 h0 h1 HX.out)
   have hb : ((x[0].toNat : Int) == 48) = true := by rw [h1]; rfl
   exact zv4
  ·have HE := zs8 (zj5 (x := x) (s := s) (by
     rcases Nat.eq_zero_or_pos x.size with h0 | h0
     · exact .inl h0
     · exact .inr ⟨h0, fun e => h ⟨h0, e⟩⟩) HX.out)
   have hend := zhh h
   clear h
   rcases hend with h0 | ⟨h0, hb⟩
   all_goals
    go_wp2
    go_loop [1] (fun v => ∃ y : ByteArray, v = .string y /\ y.size ≤ t.size /\ V.value y.data.toList = V.value t.data.toList) (fun v => szOf v)
    case atStart => exact ⟨t, rfl, zta _, rfl⟩
    case round =>
     obtain ⟨y, rfl, hyt, hy⟩ := hrel
     have HY := zs8 hy
     clear hy
     by_cases h : ∃ h0 : 0 < y.size, y[0] = 48
     ·obtain ⟨h0, h1⟩ := h
      have HS := zs8 (zh2 h0 h1 HY.out)
      have hb : ((y[0].toNat : Int) == 48) = true := by rw [h1]; rfl
      exact zv4
     ·have HE2 := zs8 (zj5 (x := y) (s := t) (by
        rcases Nat.eq_zero_or_pos y.size with h0 | h0
        · exact .inl h0
        · exact .inr ⟨h0, fun e => h ⟨h0, e⟩⟩) HY.out)
      have hend := zhh h
      clear h
      have HF2 : Hid (V.numbers s.data.toList t.data.toList = V.cor (Lib.compareInt x.size y.size) (Lib.compareBytes x.data.toList y.data.toList)) := zs8 (by
        rw [HF.out, HE.out, HE2.out]; simp only ; rfl)
      rcases hend with h0 | ⟨h0, hb⟩
      all_goals
       rcases Nat.lt_trichotomy x.size y.size with hc | hc | hc
       ·have hn : ((x.size : Int) != y.size) = true := by rw [bne_iff_ne]; omega
        have HF3 : Hid (V.numbers s.data.toList t.data.toList = -1) := zs8 (by
          rw [HF2.out]; unfold Lib.compareInt V.cor; rw [if_pos (show (x.size : Int) < y.size by omega)]; rfl)
        go_wp2
        all_goals
         go_ret
         exact ⟨zj HF3.out.symm, rfl⟩
       ·have hn : ((x.size : Int) != y.size) = false := by rw [bne_eq_false_iff_eq]; omega
        have HF3 : Hid (V.numbers s.data.toList t.data.toList = Lib.compareBytes x.data.toList y.data.toList) := zs8 (by
          rw [HF2.out]; unfold Lib.compareInt V.cor; rw [hc]; simp)
        have HC := zs8 hc
        clear hc
        go_wp2_with fail
        refine (Tryz.strings_Compare _ _ _).mono ?_
        rintro e w' ⟨rfl, rfl⟩
        go_wp2
        all_goals
         go_ret
         exact ⟨zj HF3.out.symm, rfl⟩
       ·have hn : ((x.size : Int) != y.size) = true := by rw [bne_iff_ne]; omega
        have HF3 : Hid (V.numbers s.data.toList t.data.toList = 1) := zs8 (by
          rw [HF2.out]; unfold Lib.compareInt V.cor; rw [if_neg (show ¬ (x.size : Int) < y.size by omega), if_pos (show (x.size : Int) > y.size by omega)]; rfl)
        go_wp2
        all_goals
         go_ret
         exact ⟨zj HF3.out.symm, rfl⟩
theorem zgd (s t : ByteArray) (w : World) (hs : s.size ≤ maxLen) (ht : t.size ≤ maxLen) :
  Calls Tryz.prog 190 #[.string s, .string t] w fun e w' => e = .returned (.int .i64 (V.jt s.data.toList t.data.toList)) /\ w = w' := by
 have HF : Hid (V.jt s.data.toList t.data.toList = if V.digits s.data.toList && V.digits t.data.toList then V.numbers s.data.toList t.data.toList else if V.digits s.data.toList then -1 else if V.digits t.data.toList then 1 else Lib.compareBytes s.data.toList t.data.toList) := rfl
 rcases hx : V.digits s.data.toList with _ | _ <;> rcases hy : V.digits t.data.toList with _ | _
 all_goals
  have HX := zs8 hx
  have HY := zs8 hy
  clear hx hy
  rw [HX.out, HY.out] at HF
  go_enter Tryz.func190, Tryz.ntmps190
  go_wp2_with fail
  refine (qd s _ hs).mono ?_
  rintro e w' ⟨rfl, rfl⟩
  simp only [HX.out]
  go_wp2_with fail
 ·refine (qd s _ hs).mono ?_
  rintro e w' ⟨rfl, rfl⟩
  simp only [HX.out]
  go_wp2_with fail
  refine (qd t _ ht).mono ?_
  rintro e w' ⟨rfl, rfl⟩
  simp only [HY.out]
  go_wp2_with fail
  refine (Tryz.strings_Compare _ _ _).mono ?_
  rintro e w' ⟨rfl, rfl⟩
  go_wp2
  go_ret
  exact ⟨zj HF.out.symm, rfl⟩
 ·refine (qd s _ hs).mono ?_
  rintro e w' ⟨rfl, rfl⟩
  simp only [HX.out]
  go_wp2_with fail
  refine (qd t _ ht).mono ?_
  rintro e w' ⟨rfl, rfl⟩
  simp only [HY.out]
  go_wp2
  go_ret
  exact ⟨zj HF.out.symm, rfl⟩
 ·refine (qd t _ ht).mono ?_
  rintro e w' ⟨rfl, rfl⟩
  simp only [HY.out]
  go_wp2_with fail
  refine (qd s _ hs).mono ?_
  rintro e w' ⟨rfl, rfl⟩
  simp only [HX.out]
  go_wp2
  go_ret
  exact ⟨zj HF.out.symm, rfl⟩
 ·refine (qd t _ ht).mono ?_
  rintro e w' ⟨rfl, rfl⟩
  simp only [HY.out]
  go_wp2_with fail
  refine (zdo _ _ _ hs ht).mono ?_
  rintro e w' ⟨rfl, rfl⟩
  go_wp2
  go_ret
  exact ⟨zj HF.out.symm, rfl⟩
open Go.RowKit
theorem zfe (n : Int) (w : World) :
  Calls Tryz.prog 191 #[.int .i64 n] w fun e w' => e = .returned (.int .i64 (V.sgn n)) /\ w = w' := by
 go_enter Tryz.func191, Tryz.ntmps191
 go_wp2
 all_goals go_ret
 all_goals exact ⟨zj (by unfold V.sgn; (repeat' split) <;> omega), rfl⟩
end Go.Proofs.YtnhfaincdabdkaaGreatDoor
