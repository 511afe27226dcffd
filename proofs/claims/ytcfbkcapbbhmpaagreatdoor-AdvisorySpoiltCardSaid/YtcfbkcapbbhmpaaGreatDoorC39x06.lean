import Derived.Test.YtcfbkcapbbhmpaaGreatDoorC39x05
import Derived.Test.YtcfbkcapbbhmpaaGreatDoorC39x02
import Derived.Test.YtcfbkcapbbhmpaaGreatDoorC39x01
import Derived.Deep.DeepCutAuto
import Derived.BigRegion
import Derived.OwnWalk
set_option linter.all false
set_option maxRecDepth 100000
set_option maxHeartbeats 3200000
namespace Go.Proofs.YtcfbkcapbbhmpaaGreatDoor
open Go.RowKit
theorem zv5 (k : Nat) (w : World) : (method (k + 1) 183 (.agg #[]) "admission/version.compare").run Tryz.prog w = .ok (207, .agg #[]) w := by kernel_rfl
theorem zv1 (k : Nat) (w : World) : (method (k + 1) 184 (.agg #[]) "admission/version.compare").run Tryz.prog w = .ok (233, .agg #[]) w := by kernel_rfl
theorem zvw (k : Nat) (w : World) : (method (k + 1) 185 (.agg #[]) "admission/version.compare").run Tryz.prog w = .ok (245, .agg #[]) w := by kernel_rfl
def zsp (T : Nat) (ok : Bool) (e : Ending) : Prop :=
 e = .returned (if ok then .tuple #[.func (.method "admission/version.compare") #[.iface T (.agg #[])] #[], .int .i64 0] else .tuple #[.nilFunc, .int .i64 1])
theorem zy8 {P : Prop} (h : P := by
 have HF := zwe (NEXT.out HVX.out)
 go_roundw
 case rel => exact ⟨k + 1, by omega, by go_num, HF.out, HB1.out⟩
 case measure => simp [intOf]; omega) : P := h
theorem z1a {P : Prop} (h : P := by
 have HF := zwe (BAD.out HVX.out)
 go_ret2
 exact ⟨by rw [HF.out]; rfl, HB1.out⟩) : P := h
theorem zma (v : Value) (l : List V.Bs) (w : World) (hm : zg w) (hv : Strs w v l) (hl : l.length ≤ maxLen) (hx : ∀ x ∈ l, x.length ≤ maxLen) :
  Calls Tryz.prog 157 #[.int .i64 1, v] w fun e w' =>
   zsp 183 (l.all (V.valid 1)) e /\ Below w.heap.size w w' := by
 obtain ⟨a, cap, rfl, hc⟩ := hv
 unfold maxLen at hl
 have HC := zwe hc
 have HX := zwe hx
 have HM := zwe hm
 clear hc hx hm
 go_enter Tryz.func157, Tryz.ntmps157
 go_wp2_with fail
 refine (zjq _).mono ?_
 rintro e w' ⟨rfl, rfl⟩
 go_wp2
 go_loopw [15] (fun i wr => ∃ k : Nat, k ≤ l.length /\ i = .int .i64 k /\ (∀ j, j < k -> V.valid 1 (l.getD j []) = true) /\ Below w.heap.size w wr) (fun i _ => l.length - (intOf i).toNat)
 case atStart => exact ⟨0, Nat.zero_le _, rfl, fun j hj => by omega, zwh _ _⟩
 case round =>
  obtain ⟨k, hk, rfl, hz, hB⟩ := hrel
  have HZ := zwe hz
  have HB := zwe hB
  clear hz hB
  by_cases hlt : k < l.length
  ·obtain ⟨b, o, ha, hb, hcell⟩ := HC.out k hlt
   have hx1 := (HB.out.cell (p := ⟨b, o + k, none⟩) hb).trans hcell
   rw [← kg hlt] at hx1
   have s1 := HX.out _ (List.getElem_mem hlt)
   rw [← kg hlt] at s1
   have BAD : Hid (V.valid 1 (l.getD k []) = false -> l.all (V.valid 1) = false) := zwe (fun h => by
     rw [List.all_eq_false]
     exact ⟨l[k], List.getElem_mem hlt, by rw [← kg hlt, h]; simp⟩)
   have NEXT : Hid (V.valid 1 (l.getD k []) = true -> ∀ j, j < k + 1 -> V.valid 1 (l.getD j []) = true) := zwe (fun h0 j hj => by
     by_cases e : j = k
     · subst e; exact h0
     · exact HZ.out j (by omega))
   subst ha
   clear hcell
   generalize l.getD k [] = x at *
   rcases hvx : V.valid 1 x with _ | _
   all_goals
    have HVX := zwe hvx
    clear hvx
    go_wp2_with fail
    refine (zk3 ⟨x.toArray⟩ _ (HM.out.below HB.out) s1).mono ?_
    rintro e w1 ⟨rfl, hb1⟩
    simp only [HVX.out]
    have HB1 := zwf HB hb1
    clear hb1
    go_wp2
   ·exact z1a
   ·exact zy8
  ·have HF : Hid (l.all (V.valid 1) = true) := zwe (by
     rw [List.all_eq_true]
     intro x hx
     obtain ⟨j, hj, e⟩ := List.getElem_of_mem hx
     have := HZ.out j (by omega)
     rw [kg hj] at this
     rw [← e]; exact this)
   go_wp2
   go_ret2
   exact ⟨by rw [HF.out]; rfl, HB.out⟩
theorem zkp (v : Value) (l : List V.Bs) (w : World) (hm : zg w) (hv : Strs w v l) (hl : l.length ≤ maxLen) (hx : ∀ x ∈ l, x.length ≤ maxLen) :
  Calls Tryz.prog 157 #[.int .i64 2, v] w fun e w' =>
   zsp 184 (l.all (V.valid 2)) e /\ Below w.heap.size w w' := by
 obtain ⟨a, cap, rfl, hc⟩ := hv
 unfold maxLen at hl
 have HC := zwe hc
 have HX := zwe hx
 have HM := zwe hm
 clear hc hx hm
 go_enter Tryz.func157, Tryz.ntmps157
 go_wp2_with fail
 refine (zjh _).mono ?_
 rintro e w' ⟨rfl, rfl⟩
 go_wp2
 go_loopw [15] (fun i wr => ∃ k : Nat, k ≤ l.length /\ i = .int .i64 k /\ (∀ j, j < k -> V.valid 2 (l.getD j []) = true) /\ Below w.heap.size w wr) (fun i _ => l.length - (intOf i).toNat)
 case atStart => exact ⟨0, Nat.zero_le _, rfl, fun j hj => by omega, zwh _ _⟩
 case round =>
  obtain ⟨k, hk, rfl, hz, hB⟩ := hrel
  have HZ := zwe hz
  have HB := zwe hB
  clear hz hB
  by_cases hlt : k < l.length
  ·obtain ⟨b, o, ha, hb, hcell⟩ := HC.out k hlt
   have hx1 := (HB.out.cell (p := ⟨b, o + k, none⟩) hb).trans hcell
   rw [← kg hlt] at hx1
   have s1 := HX.out _ (List.getElem_mem hlt)
   rw [← kg hlt] at s1
   have BAD : Hid (V.valid 2 (l.getD k []) = false -> l.all (V.valid 2) = false) := zwe (fun h => by
     rw [List.all_eq_false]
     exact ⟨l[k], List.getElem_mem hlt, by rw [← kg hlt, h]; simp⟩)
   have NEXT : Hid (V.valid 2 (l.getD k []) = true -> ∀ j, j < k + 1 -> V.valid 2 (l.getD j []) = true) := zwe (fun h0 j hj => by
     by_cases e : j = k
     · subst e; exact h0
     · exact HZ.out j (by omega))
   subst ha
   clear hcell
   generalize l.getD k [] = x at *
   rcases hvx : V.valid 2 x with _ | _
   all_goals
    have HVX := zwe hvx
    clear hvx
    go_wp2_with fail
    refine (zj2 ⟨x.toArray⟩ _ (HM.out.below HB.out) s1).mono ?_
    rintro e w1 ⟨rfl, hb1⟩
    simp only [HVX.out]
    have HB1 := zwf HB hb1
    clear hb1
    go_wp2
   ·exact z1a
   ·exact zy8
  ·have HF : Hid (l.all (V.valid 2) = true) := zwe (by
     rw [List.all_eq_true]
     intro x hx
     obtain ⟨j, hj, e⟩ := List.getElem_of_mem hx
     have := HZ.out j (by omega)
     rw [kg hj] at this
     rw [← e]; exact this)
   go_wp2
   go_ret2
   exact ⟨by rw [HF.out]; rfl, HB.out⟩
theorem zlm (v : Value) (l : List V.Bs) (w : World) (hm : zg w) (hv : Strs w v l) (hl : l.length ≤ maxLen) (hx : ∀ x ∈ l, x.length ≤ maxLen) :
  Calls Tryz.prog 157 #[.int .i64 3, v] w fun e w' =>
   zsp 185 (l.all (V.valid 3)) e /\ Below w.heap.size w w' := by
 obtain ⟨a, cap, rfl, hc⟩ := hv
 unfold maxLen at hl
 have HC := zwe hc
 have HX := zwe hx
 have HM := zwe hm
 clear hc hx hm
 go_enter Tryz.func157, Tryz.ntmps157
 go_wp2_with fail
 refine (zjg _).mono ?_
 rintro e w' ⟨rfl, rfl⟩
 go_wp2
 go_loopw [15] (fun i wr => ∃ k : Nat, k ≤ l.length /\ i = .int .i64 k /\ (∀ j, j < k -> V.valid 3 (l.getD j []) = true) /\ Below w.heap.size w wr) (fun i _ => l.length - (intOf i).toNat)
 case atStart => exact ⟨0, Nat.zero_le _, rfl, fun j hj => by omega, zwh _ _⟩
 case round =>
  obtain ⟨k, hk, rfl, hz, hB⟩ := hrel
  have HZ := zwe hz
  have HB := zwe hB
  clear hz hB
  by_cases hlt : k < l.length
  ·obtain ⟨b, o, ha, hb, hcell⟩ := HC.out k hlt
   have hx1 := (HB.out.cell (p := ⟨b, o + k, none⟩) hb).trans hcell
   rw [← kg hlt] at hx1
   have s1 := HX.out _ (List.getElem_mem hlt)
   rw [← kg hlt] at s1
   have BAD : Hid (V.valid 3 (l.getD k []) = false -> l.all (V.valid 3) = false) := zwe (fun h => by
     rw [List.all_eq_false]
     exact ⟨l[k], List.getElem_mem hlt, by rw [← kg hlt, h]; simp⟩)
   have NEXT : Hid (V.valid 3 (l.getD k []) = true -> ∀ j, j < k + 1 -> V.valid 3 (l.getD j []) = true) := zwe (fun h0 j hj => by
     by_cases e : j = k
     · subst e; exact h0
     · exact HZ.out j (by omega))
   subst ha
   clear hcell
   generalize l.getD k [] = x at *
   rcases hvx : V.valid 3 x with _ | _
   all_goals
    have HVX := zwe hvx
    clear hvx
    go_wp2_with fail
    refine (zlz ⟨x.toArray⟩ _ (HM.out.below HB.out) s1).mono ?_
    rintro e w1 ⟨rfl, hb1⟩
    simp only [HVX.out]
    have HB1 := zwf HB hb1
    clear hb1
    go_wp2
   ·exact z1a
   ·exact zy8
  ·have HF : Hid (l.all (V.valid 3) = true) := zwe (by
     rw [List.all_eq_true]
     intro x hx
     obtain ⟨j, hj, e⟩ := List.getElem_of_mem hx
     have := HZ.out j (by omega)
     rw [kg hj] at this
     rw [← e]; exact this)
   go_wp2
   go_ret2
   exact ⟨by rw [HF.out]; rfl, HB.out⟩
theorem ztw (n : Int) (h1 : n ≠ 1) (h2 : n ≠ 2) (h3 : n ≠ 3) (v : Value) (w : World) :
  Calls Tryz.prog 157 #[.int .i64 n, v] w fun e w' => e = .returned (.tuple #[.nilFunc, .int .i64 14]) /\ w = w' := by
 go_enter Tryz.func157, Tryz.ntmps157
 go_wp2_with fail
 refine (zt7 n h1 h2 h3 _).mono ?_
 rintro e w' ⟨rfl, rfl⟩
 go_wp2
 go_ret2
 exact ⟨rfl, rfl⟩
open Go.RowKit
theorem zku (s t : ByteArray) (w : World) : Strs (w.alloc (.cells #[.string s, .string t] 9)) (.slice (some ⟨w.heap.size, 0, none⟩) 2 2) [s.data.toList, t.data.toList] := by
 have h := Strs.split w [s.data.toList, t.data.toList] 9
 have e : strCells [s.data.toList, t.data.toList] = #[.string s, .string t] := by
  unfold strCells; simp
 rw [e] at h
 exact h
theorem zhm {s t : ByteArray} (hs : s.size ≤ maxLen) (ht : t.size ≤ maxLen) : ∀ x ∈ [s.data.toList, t.data.toList], x.length ≤ maxLen := by
 intro x hx
 simp at hx
 rcases hx with rfl | rfl
 ·rw [Array.length_toList]; exact hs
 ·rw [Array.length_toList]; exact ht
theorem valid_len {n : Int} {v : V.Bs} (h : V.valid n v = true) : v.length ≤ 64 := by
 unfold V.valid at h; simp at h; omega
theorem zn6 {v : V.Bs} (h : V.valid 1 v = true) : (V.zq v).isSome = true := by
 unfold V.valid V.uh at h; simp at h; exact h.2
theorem znh {v : V.Bs} (h : V.valid 2 v = true) : (V.zu v).isSome = true := by
 unfold V.valid V.uh at h; simp at h; exact h.2
theorem zy5 {P : Prop} (h : P := by
 rintro e w1 ⟨he, hb1⟩
 rw [HV.out] at he
 obtain rfl := he
 have HB1 := zwf HB0 hb1
 clear hb1
 go_wp2
 go_ret2
 exact ⟨by rw [H1.out]; rfl, HB1.out⟩) : P := h
theorem zzp {P : Prop} (h : P := by
 rintro e w2 ⟨rfl, hb2⟩
 have HB2 := zwf HB1 hb2
 clear hb2
 go_wp2
 go_ret2
 exact ⟨by rw [H1.out, HCV.out]; rfl, HB2.out⟩) : P := h
theorem zp6 (s t : ByteArray) (w : World) (hm : zg w) (hs : s.size ≤ maxLen) (ht : t.size ≤ maxLen) :
  Calls Tryz.prog 125 #[.int .i64 1, .string s, .string t] w fun e w' =>
   e = .returned (.tuple #[.int .i64 (V.qt 1 s.data.toList t.data.toList).1, .int .i64 (V.qt 1 s.data.toList t.data.toList).2]) /\ Below w.heap.size w w' := by
 have hS := zku s t w
 have hb0 : Below w.heap.size w (w.alloc (.cells #[.string s, .string t] 9)) := (zwh _ w).alloc (zwg _) _
 have hm0 := hm.below hb0
 have HF : Hid (V.qt 1 s.data.toList t.data.toList = if V.valid 1 s.data.toList && V.valid 1 t.data.toList then (V.cmpV 1 s.data.toList t.data.toList, 0) else (0, 1)) := rfl
 have HS := zwe hS
 have HB0 := zwe hb0
 clear hS hb0
 rcases hv : (V.valid 1 s.data.toList && V.valid 1 t.data.toList) with _ | _
 ·rw [hv] at HF
  have HV : Hid ([s.data.toList, t.data.toList].all (V.valid 1) = false) := zwe (by simpa using hv)
  have H1 := zwe (show V.qt 1 s.data.toList t.data.toList = (0, 1) from HF.out)
  clear hv HF
  go_enter Tryz.func125, Tryz.ntmps125
  go_wp2_with fail
  refine (zma _ _ _ hm0 HS.out (by show 2 ≤ _; unfold maxLen; omega) (zhm hs ht)).mono ?_
  exact zy5
 ·have HV : Hid ([s.data.toList, t.data.toList].all (V.valid 1) = true) := zwe (by simpa using hv)
  rw [hv] at HF
  have H1 := zwe (show V.qt 1 s.data.toList t.data.toList = (V.cmpV 1 s.data.toList t.data.toList, 0) from HF.out)
  rw [Bool.and_eq_true] at hv
  have h64 := valid_len hv.1
  have h65 := valid_len hv.2
  rw [zf] at h64 h65
  have HSV := zwe hv
  clear hv HF
  obtain ⟨⟨la, pa⟩, hpa⟩ := Option.isSome_iff_exists.1 (zn6 HSV.out.1)
  obtain ⟨⟨lb, pb⟩, hpb⟩ := Option.isSome_iff_exists.1 (zn6 HSV.out.2)
  have HCV : Hid (V.cmpV 1 s.data.toList t.data.toList = V.js (la, pa) (lb, pb)) := zwe (by unfold V.cmpV; rw [if_pos rfl, hpa, hpb])
  have HPA := zwe hpa
  have HPB := zwe hpb
  clear hpa hpb
  have hmeth := zv5
  go_enter Tryz.func125, Tryz.ntmps125
  go_wp2_with fail
  refine (zma _ _ _ hm0 HS.out (by show 2 ≤ _; unfold maxLen; omega) (zhm hs ht)).mono ?_
  rintro e w1 ⟨he, hb1⟩
  rw [HV.out] at he
  obtain rfl := he
  have hm1 := hm0.below hb1
  have HB1 := zwf HB0 hb1
  clear hb1
  go_wp2_with fail
  refine (zkc s t la pa lb pb _ hm1 (by omega) (by omega) HPA.out HPB.out).mono ?_
  exact zzp
theorem zp8 (s t : ByteArray) (w : World) (hm : zg w) (hs : s.size ≤ maxLen) (ht : t.size ≤ maxLen) :
  Calls Tryz.prog 125 #[.int .i64 2, .string s, .string t] w fun e w' =>
   e = .returned (.tuple #[.int .i64 (V.qt 2 s.data.toList t.data.toList).1, .int .i64 (V.qt 2 s.data.toList t.data.toList).2]) /\ Below w.heap.size w w' := by
 have hS := zku s t w
 have hb0 : Below w.heap.size w (w.alloc (.cells #[.string s, .string t] 9)) := (zwh _ w).alloc (zwg _) _
 have hm0 := hm.below hb0
 have HF : Hid (V.qt 2 s.data.toList t.data.toList = if V.valid 2 s.data.toList && V.valid 2 t.data.toList then (V.cmpV 2 s.data.toList t.data.toList, 0) else (0, 1)) := rfl
 have HS := zwe hS
 have HB0 := zwe hb0
 clear hS hb0
 rcases hv : (V.valid 2 s.data.toList && V.valid 2 t.data.toList) with _ | _
 ·rw [hv] at HF
  have HV : Hid ([s.data.toList, t.data.toList].all (V.valid 2) = false) := zwe (by simpa using hv)
  have H1 := zwe (show V.qt 2 s.data.toList t.data.toList = (0, 1) from HF.out)
  clear hv HF
  go_enter Tryz.func125, Tryz.ntmps125
  go_wp2_with fail
  refine (zkp _ _ _ hm0 HS.out (by show 2 ≤ _; unfold maxLen; omega) (zhm hs ht)).mono ?_
  exact zy5
 ·have HV : Hid ([s.data.toList, t.data.toList].all (V.valid 2) = true) := zwe (by simpa using hv)
  rw [hv] at HF
  have H1 := zwe (show V.qt 2 s.data.toList t.data.toList = (V.cmpV 2 s.data.toList t.data.toList, 0) from HF.out)
  rw [Bool.and_eq_true] at hv
  have h64 := valid_len hv.1
  have h65 := valid_len hv.2
  rw [zf] at h64 h65
  have HSV := zwe hv
  clear hv HF
  obtain ⟨⟨x0, x1, x2⟩, hpa⟩ := Option.isSome_iff_exists.1 (znh HSV.out.1)
  obtain ⟨⟨y0, y1, y2⟩, hpb⟩ := Option.isSome_iff_exists.1 (znh HSV.out.2)
  have HCV : Hid (V.cmpV 2 s.data.toList t.data.toList = V.vv (x0, x1, x2) (y0, y1, y2)) := zwe (by unfold V.cmpV; rw [if_neg (by decide), if_pos rfl, hpa, hpb])
  have HPA := zwe hpa
  have HPB := zwe hpb
  clear hpa hpb
  have hmeth := zv1
  go_enter Tryz.func125, Tryz.ntmps125
  go_wp2_with fail
  refine (zkp _ _ _ hm0 HS.out (by show 2 ≤ _; unfold maxLen; omega) (zhm hs ht)).mono ?_
  rintro e w1 ⟨he, hb1⟩
  rw [HV.out] at he
  obtain rfl := he
  have hm1 := hm0.below hb1
  have HB1 := zwf HB0 hb1
  clear hb1
  go_wp2_with fail
  refine (zk2 s t x0 x1 x2 y0 y1 y2 _ hm1 (by omega) (by omega) HPA.out HPB.out).mono ?_
  exact zzp
theorem zps (s t : ByteArray) (w : World) (hm : zg w) (hs : s.size ≤ maxLen) (ht : t.size ≤ maxLen) :
  Calls Tryz.prog 125 #[.int .i64 3, .string s, .string t] w fun e w' =>
   e = .returned (.tuple #[.int .i64 (V.qt 3 s.data.toList t.data.toList).1, .int .i64 (V.qt 3 s.data.toList t.data.toList).2]) /\ Below w.heap.size w w' := by
 have hS := zku s t w
 have hb0 : Below w.heap.size w (w.alloc (.cells #[.string s, .string t] 9)) := (zwh _ w).alloc (zwg _) _
 have hm0 := hm.below hb0
 have HF : Hid (V.qt 3 s.data.toList t.data.toList = if V.valid 3 s.data.toList && V.valid 3 t.data.toList then (V.cmpV 3 s.data.toList t.data.toList, 0) else (0, 1)) := rfl
 have HS := zwe hS
 have HB0 := zwe hb0
 clear hS hb0
 rcases hv : (V.valid 3 s.data.toList && V.valid 3 t.data.toList) with _ | _
 ·rw [hv] at HF
  have HV : Hid ([s.data.toList, t.data.toList].all (V.valid 3) = false) := zwe (by simpa using hv)
  have H1 := zwe (show V.qt 3 s.data.toList t.data.toList = (0, 1) from HF.out)
  clear hv HF
  go_enter Tryz.func125, Tryz.ntmps125
  go_wp2_with fail
  refine (zlm _ _ _ hm0 HS.out (by show 2 ≤ _; unfold maxLen; omega) (zhm hs ht)).mono ?_
  exact zy5
 ·have HV : Hid ([s.data.toList, t.data.toList].all (V.valid 3) = true) := zwe (by simpa using hv)
  rw [hv] at HF
  have H1 := zwe (show V.qt 3 s.data.toList t.data.toList = (V.cmpV 3 s.data.toList t.data.toList, 0) from HF.out)
  rw [Bool.and_eq_true] at hv
  have h64 := valid_len hv.1
  have h65 := valid_len hv.2
  rw [zf] at h64 h65
  have HSV := zwe hv
  clear hv HF
  have HCV : Hid (V.cmpV 3 s.data.toList t.data.toList = V.zbz s.data.toList t.data.toList) := zwe (by unfold V.cmpV; rw [if_neg (by decide), if_neg (by decide)])
  have hmeth := zvw
  go_enter Tryz.func125, Tryz.ntmps125
  go_wp2_with fail
  refine (zlm _ _ _ hm0 HS.out (by show 2 ≤ _; unfold maxLen; omega) (zhm hs ht)).mono ?_
  rintro e w1 ⟨he, hb1⟩
  rw [HV.out] at he
  obtain rfl := he
  have hm1 := hm0.below hb1
  have HB1 := zwf HB0 hb1
  clear hb1
  go_wp2_with fail
  refine (zmd s t _ hm1 (by omega) (by omega)).mono ?_
  exact zzp
theorem zqk (n : Int) (h1 : n ≠ 1) (h2 : n ≠ 2) (h3 : n ≠ 3) (s t : ByteArray) (w : World) :
  Calls Tryz.prog 125 #[.int .i64 n, .string s, .string t] w fun e w' =>
   e = .returned (.tuple #[.int .i64 (V.qt n s.data.toList t.data.toList).1, .int .i64 (V.qt n s.data.toList t.data.toList).2]) /\ Below w.heap.size w w' := by
 have HF : Hid (V.qt n s.data.toList t.data.toList = (0, 14)) := zwe (by unfold V.qt V.scheme; simp [h1, h2, h3])
 go_enter Tryz.func125, Tryz.ntmps125
 go_wp2_with fail
 refine (ztw n h1 h2 h3 _ _).mono ?_
 rintro e w' ⟨rfl, rfl⟩
 go_wp2
 go_ret2
 exact ⟨by rw [HF.out]; rfl, (zwh _ _).alloc (zwg _) _⟩
theorem zsi (n : Int) (s t : ByteArray) (w : World) (hm : zg w) (hs : s.size ≤ maxLen) (ht : t.size ≤ maxLen) :
  Calls Tryz.prog 125 #[.int .i64 n, .string s, .string t] w fun e w' =>
   e = .returned (.tuple #[.int .i64 (V.qt n s.data.toList t.data.toList).1, .int .i64 (V.qt n s.data.toList t.data.toList).2]) /\ Below w.heap.size w w' := by
 by_cases h1 : n = 1
 ·subst h1; exact zp6 s t w hm hs ht
 ·by_cases h2 : n = 2
  ·subst h2; exact zp8 s t w hm hs ht
  ·by_cases h3 : n = 3
   ·subst h3; exact zps s t w hm hs ht
   ·exact zqk n h1 h2 h3 s t w
open Go.RowKit
theorem zb7 (n : Int) (w : World) :
  Calls Tryz.prog 161 #[.int .u8 n] w fun e w' => e = .returned (.bool (V.digB n)) /\ w = w' := by
 go_enter Tryz.func161, Tryz.ntmps161
 go_wp2
 all_goals go_ret
 all_goals exact ⟨zc (by unfold V.digB; simp_all; try omega), rfl⟩
theorem zar (n : Int) (w : World) :
  Calls Tryz.prog 177 #[.int .u8 n] w fun e w' => e = .returned (.bool (V.letB n)) /\ w = w' := by
 go_enter Tryz.func177, Tryz.ntmps177
 go_wp2
 all_goals go_ret
 all_goals exact ⟨zc (by unfold V.letB; simp_all; try omega), rfl⟩
theorem zow {s : ByteArray} {k : Nat} (hlt : k < s.size) : s.data.toList[k]'(by rw [zf]; exact hlt) = s[k] := by simp; rfl
theorem qm (s : ByteArray) (w : World) (hs : s.size ≤ maxLen) :
  Calls Tryz.prog 128 #[.string s] w fun e w' => e = .returned (.bool (V.digits s.data.toList)) /\ w = w' := by
 unfold maxLen at hs
 go_enter Tryz.func128, Tryz.ntmps128
 go_wp2
 go_loop [3] (fun i => ∃ k : Nat, k ≤ s.size /\ i = .int .i64 k /\ (s.data.toList.take k).all V.dig = true) (fun i => s.size - (intOf i).toNat)
 case atStart => exact ⟨0, Nat.zero_le _, rfl, rfl⟩
 case round =>
  obtain ⟨k, hk, rfl, hp⟩ := hrel
  have HP := zwe hp
  clear hp
  by_cases hlt : k < s.size
  ·have hl : k < s.data.toList.length := by rw [zf]; exact hlt
   have HT := zwe (V.zc1 (p := V.dig) hl)
   have HE := zwe (zow hlt)
   rcases hpc : V.digB s[k].toNat with _ | _
   all_goals
    have HPC := zwe hpc
    clear hpc
    go_wp2_with fail
    refine (zb7 _ _).mono ?_
    rintro e w' ⟨rfl, rfl⟩
    simp only [HPC.out]
    go_wp2
   ·exact z14
   ·go_round
    case rel => exact ⟨k + 1, by omega, by go_num, by rw [HT.out, HP.out, HE.out]; exact HPC.out⟩
    case measure => simp [intOf]; omega
  ·have ht : (s.data.toList.take k) = s.data.toList := List.take_of_length_le (by rw [zf]; omega)
   rw [ht] at HP
   have HQ : Hid (V.digits s.data.toList = !s.data.toList.isEmpty) := zwe (by unfold V.digits V.only; rw [HP.out]; rfl)
   exact z1l
theorem zq0 {s : ByteArray} {k : Nat} (h : k < s.size) : s.extract k (k + 1) = ⟨#[s[k]]⟩ := by
 apply jk
 rw [Lib.extract_data]
 have hl : k < s.data.toList.length := by rw [zf]; exact h
 rw [List.drop_eq_getElem_cons hl, zow h]
 simp
theorem zzg {P : Prop} (h : P := by
 go_round
 case rel => exact ⟨k + 1, by omega, by go_num, by rw [HT.out, HP.out, HE.out, HK.out]; rfl⟩
 case measure => simp [intOf]; omega) : P := h
theorem zae (s o : ByteArray) (w : World) (hs : s.size ≤ maxLen) :
  Calls Tryz.prog 158 #[.string s, .string o] w fun e w' => e = .returned (.bool (V.only (V.kind o.data.toList) s.data.toList)) /\ w = w' := by
 unfold maxLen at hs
 go_enter Tryz.func158, Tryz.ntmps158
 go_wp2
 go_loop [5] (fun i => ∃ k : Nat, k ≤ s.size /\ i = .int .i64 k /\ (s.data.toList.take k).all (V.kind o.data.toList) = true) (fun i => s.size - (intOf i).toNat)
 case atStart => exact ⟨0, Nat.zero_le _, rfl, rfl⟩
 case round =>
  obtain ⟨k, hk, rfl, hp⟩ := hrel
  have HP := zwe hp
  clear hp
  by_cases hlt : k < s.size
  ·have hl : k < s.data.toList.length := by rw [zf]; exact hlt
   have HT := zwe (V.zc1 (p := V.kind o.data.toList) hl)
   have HE := zwe (zow hlt)
   have HX := zwe (zq0 hlt)
   have HK : Hid (V.kind o.data.toList s[k] = (V.letB s[k].toNat || V.digB s[k].toNat || decide (s[k] ∈ o.data.toList))) := rfl
   rcases hL : V.letB s[k].toNat with _ | _
   ·have HL := zwe hL
    rcases hD : V.digB s[k].toNat with _ | _
    ·have HD := zwe hD
     rcases hM : decide (s[k] ∈ o.data.toList) with _ | _
     all_goals
      have HM := zwe hM
      rw [hL, hD, hM] at HK
      clear hL hD hM
      go_wp2_with fail
      refine (zar _ _).mono ?_
      rintro e w' ⟨rfl, rfl⟩
      simp only [HL.out]
      go_wp2_with fail
      refine (zb7 _ _).mono ?_
      rintro e w' ⟨rfl, rfl⟩
      simp only [HD.out]
      go_wp2_with fail
      rw [HX.out]
      refine (Tryz.strings_Contains_one _ _ _).mono ?_
      rintro e w' ⟨rfl, rfl⟩
      rw [V.yg, HM.out]
      go_wp2
     ·go_ret
      exact ⟨zc (V.zqj (k := k) (by rw [zf]; exact hlt) (by rw [HE.out]; exact HK.out)).symm, rfl⟩
     ·exact zzg
    ·have HD := zwe hD
     rw [hL, hD] at HK
     clear hL hD
     go_wp2_with fail
     refine (zar _ _).mono ?_
     rintro e w' ⟨rfl, rfl⟩
     simp only [HL.out]
     go_wp2_with fail
     refine (zb7 _ _).mono ?_
     rintro e w' ⟨rfl, rfl⟩
     simp only [HD.out]
     go_wp2
     exact zzg
   ·have HL := zwe hL
    rw [hL] at HK
    clear hL
    go_wp2_with fail
    refine (zar _ _).mono ?_
    rintro e w' ⟨rfl, rfl⟩
    simp only [HL.out]
    go_wp2
    exact zzg
  ·have ht : (s.data.toList.take k) = s.data.toList := List.take_of_length_le (by rw [zf]; omega)
   rw [ht] at HP
   have HQ : Hid (V.only (V.kind o.data.toList) s.data.toList = !s.data.toList.isEmpty) := zwe (by unfold V.only; rw [HP.out]; rfl)
   exact z1l
theorem zlo {x s : ByteArray} (h0 : 0 < x.size) (h : x[0] = 48) (hx : V.value x.data.toList = V.value s.data.toList) : V.value (x.extract 1 x.size).data.toList = V.value s.data.toList := by
 rw [← hx, V.zti (l := x.data.toList) (by rw [at0 h0]; exact h) (by rw [zf]; exact h0), Lib.extract_to_end]
theorem zny {x s : ByteArray} (h : x.size = 0 ∨ ∃ h0 : 0 < x.size, x[0] ≠ 48) (hx : V.value x.data.toList = V.value s.data.toList) : x = ⟨(V.value s.data.toList).toArray⟩ := by
 apply jk
 rw [← hx]
 simp only
 rcases h with h | ⟨h0, h⟩
 ·have : x.data.toList = [] := List.eq_nil_of_length_eq_zero (by rw [zf]; exact h)
  rw [this]; rfl
 ·exact (V.zsh (by rw [at0 h0]; exact h)).symm
theorem zky {x : ByteArray} (h : ¬ ∃ h0 : 0 < x.size, x[0] = 48) : (¬ 0 < x.size) ∨ (∃ h0 : 0 < x.size, ((x[0].toNat : Int) == 48) = false) := by
 rcases Nat.eq_zero_or_pos x.size with h0 | h0
 ·exact .inl (by omega)
 ·refine .inr ⟨h0, ?_⟩
  rw [zwi]
  intro e
  refine h ⟨h0, ?_⟩
  rw [← UInt8.toNat_inj]
  have : x[0].toNat = 48 := by omega
  rw [this]; rfl
theorem z0g {P : Prop} (h : P := by
 clear h1
 go_wp2
 go_round
 case rel => exact ⟨_, rfl, by simp [ByteArray.size_extract]; omega, HS.out⟩
 case measure => simp [szOf, ByteArray.size_extract]; omega) : P := h
theorem zf3 (s t : ByteArray) (w : World) (_hs : s.size ≤ maxLen) (_ht : t.size ≤ maxLen) :
  Calls Tryz.prog 162 #[.string s, .string t] w fun e w' => e = .returned (.int .i64 (V.numbers s.data.toList t.data.toList)) /\ w = w' := by
 unfold maxLen at _hs _ht
 have HF : Hid (V.numbers s.data.toList t.data.toList = V.cor (Lib.compareInt (V.value s.data.toList).length (V.value t.data.toList).length) (Lib.compareBytes (V.value s.data.toList) (V.value t.data.toList))) := rfl
 go_enter Tryz.func162, Tryz.ntmps162
 go_wp2
 go_loop [0] (fun v => ∃ x : ByteArray, v = .string x /\ x.size ≤ s.size /\ V.value x.data.toList = V.value s.data.toList) (fun v => szOf v)
 case atStart => exact ⟨s, rfl, zwg _, rfl⟩
 case round =>
  obtain ⟨x, rfl, hxs, hx⟩ := hrel
  have HX := zwe hx
  clear hx
  by_cases h : ∃ h0 : 0 < x.size, x[0] = 48
  ·obtain ⟨h0, h1⟩ := h
   have HS := zwe (zlo h0 h1 HX.out)
   have hb : ((x[0].toNat : Int) == 48) = true := by rw [h1]; rfl
   exact z0g
  ·have HE := zwe (zny (x := x) (s := s) (by
     rcases Nat.eq_zero_or_pos x.size with h0 | h0
     · exact .inl h0
     · exact .inr ⟨h0, fun e => h ⟨h0, e⟩⟩) HX.out)
   have hend := zky h
   clear h
   rcases hend with h0 | ⟨h0, hb⟩
   all_goals
    go_wp2
    go_loop [1] (fun v => ∃ y : ByteArray, v = .string y /\ y.size ≤ t.size /\ V.value y.data.toList = V.value t.data.toList) (fun v => szOf v)
    case atStart => exact ⟨t, rfl, zwg _, rfl⟩
    case round =>
     obtain ⟨y, rfl, hyt, hy⟩ := hrel
     have HY := zwe hy
     clear hy
     by_cases h : ∃ h0 : 0 < y.size, y[0] = 48
     ·obtain ⟨h0, h1⟩ := h
      have HS := zwe (zlo h0 h1 HY.out)
      have hb : ((y[0].toNat : Int) == 48) = true := by rw [h1]; rfl
      exact z0g
     ·have HE2 := zwe (zny (x := y) (s := t) (by
        rcases Nat.eq_zero_or_pos y.size with h0 | h0
        · exact .inl h0
        · exact .inr ⟨h0, fun e => h ⟨h0, e⟩⟩) HY.out)
      have hend := zky h
      clear h
      have HF2 : Hid (V.numbers s.data.toList t.data.toList = V.cor (Lib.compareInt x.size y.size) (Lib.compareBytes x.data.toList y.data.toList)) := zwe (by
        rw [HF.out, HE.out, HE2.out]; simp only ; rfl)
      rcases hend with h0 | ⟨h0, hb⟩
      all_goals
       rcases Nat.lt_trichotomy x.size y.size with hc | hc | hc
       ·have hn : ((x.size : Int) != y.size) = true := by rw [bne_iff_ne]; omega
        have HF3 : Hid (V.numbers s.data.toList t.data.toList = -1) := zwe (by
          rw [HF2.out]; unfold Lib.compareInt V.cor; rw [if_pos (show (x.size : Int) < y.size by omega)]; rfl)
        go_wp2
        all_goals
         go_ret
         exact ⟨zp HF3.out.symm, rfl⟩
       ·have hn : ((x.size : Int) != y.size) = false := by rw [bne_eq_false_iff_eq]; omega
        have HF3 : Hid (V.numbers s.data.toList t.data.toList = Lib.compareBytes x.data.toList y.data.toList) := zwe (by
          rw [HF2.out]; unfold Lib.compareInt V.cor; rw [hc]; simp)
        have HC := zwe hc
        clear hc
        go_wp2_with fail
        refine (Tryz.strings_Compare _ _ _).mono ?_
        rintro e w' ⟨rfl, rfl⟩
        go_wp2
        all_goals
         go_ret
         exact ⟨zp HF3.out.symm, rfl⟩
       ·have hn : ((x.size : Int) != y.size) = true := by rw [bne_iff_ne]; omega
        have HF3 : Hid (V.numbers s.data.toList t.data.toList = 1) := zwe (by
          rw [HF2.out]; unfold Lib.compareInt V.cor; rw [if_neg (show ¬ (x.size : Int) < y.size by omega), if_pos (show (x.size : Int) > y.size by omega)]; rfl)
        go_wp2
        all_goals
         go_ret
         exact ⟨zp HF3.out.symm, rfl⟩
theorem zjd (s t : ByteArray) (w : World) (hs : s.size ≤ maxLen) (ht : t.size ≤ maxLen) :
  Calls Tryz.prog 163 #[.string s, .string t] w fun e w' => e = .returned (.int .i64 (V.kl s.data.toList t.data.toList)) /\ w = w' := by
 have HF : Hid (V.kl s.data.toList t.data.toList = if V.digits s.data.toList && V.digits t.data.toList then V.numbers s.data.toList t.data.toList else if V.digits s.data.toList then -1 else if V.digits t.data.toList then 1 else Lib.compareBytes s.data.toList t.data.toList) := rfl
 rcases hx : V.digits s.data.toList with _ | _ <;> rcases hy : V.digits t.data.toList with _ | _
 all_goals
  have HX := zwe hx
  have HY := zwe hy
  clear hx hy
  rw [HX.out, HY.out] at HF
  go_enter Tryz.func163, Tryz.ntmps163
  go_wp2_with fail
  refine (qm s _ hs).mono ?_
  rintro e w' ⟨rfl, rfl⟩
  simp only [HX.out]
  go_wp2_with fail
 ·refine (qm s _ hs).mono ?_
  rintro e w' ⟨rfl, rfl⟩
  simp only [HX.out]
  go_wp2_with fail
  refine (qm t _ ht).mono ?_
  rintro e w' ⟨rfl, rfl⟩
  simp only [HY.out]
  go_wp2_with fail
  refine (Tryz.strings_Compare _ _ _).mono ?_
  rintro e w' ⟨rfl, rfl⟩
  go_wp2
  go_ret
  exact ⟨zp HF.out.symm, rfl⟩
 ·refine (qm s _ hs).mono ?_
  rintro e w' ⟨rfl, rfl⟩
  simp only [HX.out]
  go_wp2_with fail
  refine (qm t _ ht).mono ?_
  rintro e w' ⟨rfl, rfl⟩
  simp only [HY.out]
  go_wp2
  go_ret
  exact ⟨zp HF.out.symm, rfl⟩
 ·refine (qm t _ ht).mono ?_
  rintro e w' ⟨rfl, rfl⟩
  simp only [HY.out]
  go_wp2_with fail
  refine (qm s _ hs).mono ?_
  rintro e w' ⟨rfl, rfl⟩
  simp only [HX.out]
  go_wp2
  go_ret
  exact ⟨zp HF.out.symm, rfl⟩
 ·refine (qm t _ ht).mono ?_
  rintro e w' ⟨rfl, rfl⟩
  simp only [HY.out]
  go_wp2_with fail
  refine (zf3 _ _ _ hs ht).mono ?_
  rintro e w' ⟨rfl, rfl⟩
  go_wp2
  go_ret
  exact ⟨zp HF.out.symm, rfl⟩
open Go.RowKit
theorem zhz (n : Int) (w : World) :
  Calls Tryz.prog 164 #[.int .i64 n] w fun e w' => e = .returned (.int .i64 (V.sgn n)) /\ w = w' := by
 go_enter Tryz.func164, Tryz.ntmps164
 go_wp2
 all_goals go_ret
 all_goals exact ⟨zp (by unfold V.sgn; (repeat' split) <;> omega), rfl⟩
theorem zda (s : ByteArray) (d : Bool) (w : World) (hs : s.size ≤ maxLen) :
  Calls Tryz.prog 182 #[.string s, .bool d] w fun e w' => e = .returned (.tuple #[.string ⟨(V.zv s.data.toList d).1.toArray⟩, .string ⟨(V.zv s.data.toList d).2.toArray⟩]) /\ Below w.heap.size w w' := by
 unfold maxLen at hs
 go_enter Tryz.func182, Tryz.ntmps182
 go_wp2
 go_loop [6] (fun i => ∃ k : Nat, k ≤ s.size /\ i = .int .i64 k /\ (s.data.toList.take k).all (fun c => V.dig c == d) = true) (fun i => s.size - (intOf i).toNat)
 case atStart => exact ⟨0, Nat.zero_le _, rfl, rfl⟩
 case round =>
  obtain ⟨k, hk, rfl, hp⟩ := hrel
  have HP := zwe hp
  clear hp
  have fin : (k = s.size ∨ ∃ h : k < s.size, (V.digB s[k].toNat == d) = false) -> Hid (s.extract 0 k = ⟨(V.zv s.data.toList d).1.toArray⟩ /\ s.extract k s.size = ⟨(V.zv s.data.toList d).2.toArray⟩) := fun h => by
   have := V.zt9 s.data.toList (fun c => V.dig c == d) k (by rw [zf]; exact hk) HP.out (by
     rcases h with h | ⟨h, h2⟩
     · left; rw [zf]; exact h
     · right
       have e : s.data.toList[k]'(by rw [zf]; exact h) = s[k] := by simp; rfl
       exact ⟨by rw [zf]; exact h, by rw [e]; exact h2⟩)
   exact z1z
  have FIN := zwe fin
  clear fin
  by_cases hlt : k < s.size
  ·have hl : k < s.data.toList.length := by rw [zf]; exact hlt
   have HT := zwe (V.zc1 (p := fun c => V.dig c == d) hl)
   have HE : Hid (s.data.toList[k] = s[k]) := zwe (by simp; rfl)
   rcases hD : V.digB s[k].toNat with _ | _ <;> cases d
   all_goals
    have HD := zwe hD
    clear hD
    go_wp2_with fail
    refine (zb7 _ _).mono ?_
    rintro e w' ⟨rfl, rfl⟩
    simp only [HD.out]
    go_wp2
   ·exact zzy
   ·have HF := FIN.out (.inr ⟨hlt, by rw [HD.out]; rfl⟩)
    exact zx7
   ·have HF := FIN.out (.inr ⟨hlt, by rw [HD.out]; rfl⟩)
    exact zx7
   ·exact zzz
  ·have HF := FIN.out (.inl (by omega))
   go_wp2
   exact zx7
theorem zy7 {P : Prop} (h : P := by
 have HL := zwe hL
 clear hL h1
 go_enter Tryz.func183, Tryz.ntmps183
 go_wp2_with fail
 refine (zar _ _).mono ?_
 rintro e w' ⟨rfl, rfl⟩
 simp only [HL.out]
 go_wp2
 go_ret
 exact ⟨zp HW.out.symm, rfl⟩) : P := h
theorem z0s {P : Prop} (h : P := by
 go_enter Tryz.func183, Tryz.ntmps183
 go_wp2
 go_ret
 exact ⟨zp HW.out.symm, rfl⟩) : P := h
theorem zig (s : ByteArray) (i : Nat) (w : World) (_hs : s.size ≤ maxLen) (_hi : i ≤ maxLen) :
  Calls Tryz.prog 183 #[.string s, .int .i64 i] w fun e w' => e = .returned (.int .i64 (V.rwt s.data.toList i)) /\ w = w' := by
 unfold maxLen at _hs _hi
 by_cases hlt : i < s.size
 ·have HG := zwe (zum hlt)
  have hb8 := s[i].toNat_lt
  by_cases h1 : s[i] = 126
  ·have HW : Hid (V.rwt s.data.toList i = 0) := zwe (by unfold V.rwt; rw [if_neg (by rw [zf]; omega), HG.out, if_pos h1])
   have hb : ((s[i].toNat : Int) == 126) = true := by rw [h1]; rfl
   clear h1
   exact z0s
  ·have hb : ((s[i].toNat : Int) == 126) = false := by
    exact z13
   rcases hL : V.letB s[i].toNat with _ | _
   ·have HW : Hid (V.rwt s.data.toList i = 300 + s[i].toNat) := zwe (by
      unfold V.rwt; rw [if_neg (by rw [zf]; omega), HG.out, if_neg h1, if_neg]
      unfold V.lett; rw [hL]; simp)
    exact zy7
   ·have HW : Hid (V.rwt s.data.toList i = 2 + s[i].toNat) := zwe (by
      unfold V.rwt; rw [if_neg (by rw [zf]; omega), HG.out, if_neg h1, if_pos]
      unfold V.lett; rw [hL])
    exact zy7
 ·have HW : Hid (V.rwt s.data.toList i = 1) := zwe (by unfold V.rwt; rw [if_pos (by rw [zf]; omega)])
  exact z0s
theorem zvl (s t : ByteArray) (w : World) (hs : s.size ≤ maxLen) (ht : t.size ≤ maxLen) (has : V.Ascii s.data.toList) (hat : V.Ascii t.data.toList) :
  Calls Tryz.prog 165 #[.string s, .string t] w fun e w' => e = .returned (.int .i64 (V.ql s.data.toList t.data.toList)) /\ Below w.heap.size w w' := by
 unfold maxLen at hs ht
 have HAS := zwe has
 have HAT := zwe hat
 clear has hat
 go_enter Tryz.func165, Tryz.ntmps165
 go_wp2
 go_loopw [0, 1] (fun v1 v2 wr => ∃ a b : ByteArray, v1 = .string a /\ v2 = .string b /\ a.size ≤ s.size /\ b.size ≤ t.size /\ V.Ascii a.data.toList /\ V.Ascii b.data.toList /\ V.ql a.data.toList b.data.toList = V.ql s.data.toList t.data.toList /\ Below w.heap.size w wr) (fun v1 v2 _ => szOf v1 + szOf v2)
 case atStart => exact ⟨s, t, rfl, rfl, zwg _, zwg _, HAS.out, HAT.out, rfl, zwh _ _⟩
 case round =>
  obtain ⟨a, b, rfl, rfl, has, hbt, haa, hab, htx, hB⟩ := hrel
  have HT := zwe htx
  have HB := zwe hB
  have HAA := zwe haa
  have HAB := zwe hab
  clear htx hB haa hab
  rcases hea : a.toList.isEmpty with _ | _ <;> rcases heb : b.toList.isEmpty with _ | _
  case true.true =>
   exact zzq
  all_goals
   have hne : ¬ (a.data.toList.isEmpty && b.data.toList.isEmpty) = true := by rw [← Lib.toList_data, ← Lib.toList_data, hea, heb]; simp
   have hstep := V.zep _ _ hne
   have HNE := zwe hne
   clear hne
   obtain ⟨x, a1, hxa⟩ : ∃ x a1, V.zv a.data.toList false = (x, a1) := ⟨_, _, rfl⟩
   obtain ⟨y, b1, hyb⟩ : ∃ y b1, V.zv b.data.toList false = (y, b1) := ⟨_, _, rfl⟩
   obtain ⟨p, a2, hpa⟩ : ∃ p a2, V.zv a1 true = (p, a2) := ⟨_, _, rfl⟩
   obtain ⟨q, b2, hqb⟩ : ∃ q b2, V.zv b1 true = (q, b2) := ⟨_, _, rfl⟩
   have l1 := V.qn a.data.toList false
   have l2 := V.qn b.data.toList false
   have l3 := V.qn a1 true
   have l4 := V.qn b1 true
   have AX := zwe (HAA.out.take false)
   have AA1 := HAA.out.rest false
   have AY := zwe (HAB.out.take false)
   have AB1 := HAB.out.rest false
   rw [hxa] at AX AA1
   rw [hyb] at AY AB1
   have AA2 := zwe (AA1.rest true)
   have AB2 := zwe (AB1.rest true)
   rw [hpa] at AA2
   rw [hqb] at AB2
   clear AA1 AB1
   rw [hxa, zf] at l1
   rw [hyb, zf] at l2
   rw [hpa] at l3
   rw [hqb] at l4
   have l5 : a2.length + b2.length < a.size + b.size := by
    exact zyy
   rw [hxa, hyb] at hstep
   simp only [hpa, hqb] at hstep
   rw [HT.out] at hstep
   have HSTEP := zwe hstep
   have HXA := zwe hxa
   have HYB := zwe hyb
   have HPA := zwe hpa
   have HQB := zwe hqb
   simp only at l1 l2 l3 l4
   have m1 : x.length ≤ s.size := by omega
   have m2 : y.length ≤ t.size := by omega
   have m3 : a1.length ≤ s.size := by omega
   have m4 : b1.length ≤ t.size := by omega
   have m5 : a2.length ≤ s.size := by omega
   have m6 : b2.length ≤ t.size := by omega
   have m7 : p.length ≤ s.size := by omega
   have m8 : q.length ≤ t.size := by omega
   have L5 := zwe l5
   clear hstep hxa hyb hpa hqb l1 l2 l3 l4 l5
   go_wp2_with fail
   refine (zda a false _ (by unfold maxLen; omega)).mono ?_
   rintro e w1 ⟨rfl, hb1⟩
   simp only [HXA.out]
   go_wp2_with fail
   refine (zda b false _ (by unfold maxLen; omega)).mono ?_
   rintro e w2 ⟨rfl, hb2⟩
   simp only [HYB.out]
   have HB2 := zwe (HB.out.trans ((hb1.trans (hb2.mono hb1.size)).mono HB.out.size))
   clear hb1 hb2
   go_wp2
   go_loop [9] (fun i => ∃ k : Nat, k ≤ max x.length y.length /\ i = .int .i64 k /\ ∀ j, j < k -> Lib.compareInt (V.wt x j) (V.wt y j) = 0) (fun i => max x.length y.length - (intOf i).toNat)
   case atStart => exact ⟨0, Nat.zero_le _, rfl, fun j hj => by omega⟩
   case round =>
    obtain ⟨k, hk, rfl, hz⟩ := hrel
    have HZ := zwe hz
    clear hz
    by_cases hlt : k < max x.length y.length
    ·have hor : (k < x.length) ∨ (¬ k < x.length /\ k < y.length) := by omega
     have hcut := zra x y k hlt HZ.out
     have HCUT := zwe hcut
     have HLT := zwe hlt
     have HSG := zwe (V.sgn_rwt x y k AX.out AY.out)
     have hr1 := V.zuz x k
     have hr2 := V.zuz y k
     obtain ⟨c1, hc1⟩ : ∃ c1, V.rwt x k = c1 := ⟨_, rfl⟩
     obtain ⟨c2, hc2⟩ : ∃ c2, V.rwt y k = c2 := ⟨_, rfl⟩
     rw [hc1] at hr1 HSG
     rw [hc2] at hr2 HSG
     have HC1 := zwe hc1
     have HC2 := zwe hc2
     obtain ⟨r1, r1'⟩ := hr1
     obtain ⟨r2, r2'⟩ := hr2
     clear hcut hlt hc1 hc2
     rcases hor with h1 | ⟨h1, h2⟩
     all_goals
      go_wp2_with fail
      refine (zig ⟨x.toArray⟩ k _ (by show x.length ≤ _; unfold maxLen; omega) (by unfold maxLen; omega)).mono ?_
      rintro e w' ⟨rfl, rfl⟩
      simp only [HC1.out]
      go_wp2_with fail
      refine (zig ⟨y.toArray⟩ k _ (by show y.length ≤ _; unfold maxLen; omega) (by unfold maxLen; omega)).mono ?_
      rintro e w' ⟨rfl, rfl⟩
      simp only [HC2.out]
      by_cases h0 : c1 = c2
      ·have HR : Hid (∀ j, j < k + 1 -> Lib.compareInt (V.wt x j) (V.wt y j) = 0) := zwe (fun j hj => by
         by_cases e : j = k
         · subst e; rw [← HSG.out, h0, Int.sub_self]; rfl
         · exact HZ.out j (by omega))
       have HL2 := HLT.out
       have hb : (c1 - c2 != 0) = false := by rw [h0, Int.sub_self]; rfl
       exact zzv
      ·have HR : Hid (V.ql s.data.toList t.data.toList = V.sgn (c1 - c2)) := zwe (by
         have h5 : Lib.compareInt (V.wt x k) (V.wt y k) ≠ 0 := by rw [← HSG.out, Ne, V.sgn_zero]; omega
         rw [HSTEP.out, HCUT.out h5, V.kk h5, HSG.out])
       have hb : (c1 - c2 != 0) = true := by rw [bne_iff_ne]; omega
       clear h0
       go_wp2_with fail
       refine (zhz _ _).mono ?_
       rintro e w' ⟨rfl, rfl⟩
       exact z0f
    ·have HZ0 : Hid (V.wcmp x y = 0) := zwe (zm8 x y (fun j hj => HZ.out j (by omega)))
     have h1 : ¬ k < x.length := by omega
     have h2 : ¬ k < y.length := by omega
     clear hlt
     go_wp2_with fail
     refine (zda ⟨a1.toArray⟩ true _ (by show a1.length ≤ _; unfold maxLen; omega)).mono ?_
     rintro e w3 ⟨rfl, hb3⟩
     simp only [HPA.out]
     go_wp2_with fail
     refine (zda ⟨b1.toArray⟩ true _ (by show b1.length ≤ _; unfold maxLen; omega)).mono ?_
     rintro e w4 ⟨rfl, hb4⟩
     simp only [HQB.out]
     go_wp2_with fail
     refine (zf3 ⟨p.toArray⟩ ⟨q.toArray⟩ _ (by show p.length ≤ _; unfold maxLen; omega) (by show q.length ≤ _; unfold maxLen; omega)).mono ?_
     rintro e w5 ⟨rfl, rfl⟩
     simp only
     have HB5 := zwe (HB2.out.trans ((hb3.trans (hb4.mono hb3.size)).mono HB2.out.size))
     clear hb3 hb4
     by_cases h0 : V.numbers p q = 0
     ·have HR : Hid (V.ql a2 b2 = V.ql s.data.toList t.data.toList) := zwe (by
        rw [HSTEP.out, HZ0.out, h0]; rfl)
      rw [h0]
      clear h0
      go_wp2
      go_roundw
      case rel => exact ⟨⟨a2.toArray⟩, ⟨b2.toArray⟩, rfl, rfl, m5, m6, by simp only ; exact AA2.out, by simp only ; exact AB2.out, by simp only ; exact HR.out, HB5.out⟩
      case measure => exact L5.out
     ·exact zy6
theorem zsd (x y : V.Bs) (w : World) (hx : x.length ≤ 1000) (hy : y.length ≤ 1000) (ax : V.Ascii x) (ay : V.Ascii y) :
  Calls Tryz.prog 165 #[.string ⟨x.toArray⟩, .string ⟨y.toArray⟩] w fun e w' => e = .returned (.int .i64 (V.ql x y)) /\ Below w.heap.size w w' := by
 have h := zvl ⟨x.toArray⟩ ⟨y.toArray⟩ w (by show x.length ≤ _; unfold maxLen; omega) (by show y.length ≤ _; unfold maxLen; omega)
 simp only  at h
 exact h ax ay
open Go.RowKit
theorem zy4 {P : Prop} (h : P := by
 rw [h1] at HN
 go_enter Tryz.func159, Tryz.ntmps159
 go_wp2_with fail
 refine (qm s _ hs').mono ?_
 rintro e w' ⟨rfl, rfl⟩
 simp only [HD.out]
 go_wp2
 all_goals
  go_ret
  exact ⟨zc (by rw [HN.out]; simp_all), rfl⟩) : P := h
theorem yr (s : ByteArray) (w : World) (hs : s.size ≤ maxLen) :
  Calls Tryz.prog 159 #[.string s] w fun e w' => e = .returned (.bool (V.numb s.data.toList true)) /\ w = w' := by
 have hs' := hs
 unfold maxLen at hs
 rcases hd : V.digits s.data.toList with _ | _
 ·have HD := zwe hd
  have HN : Hid (V.numb s.data.toList true = false) := zwe (by unfold V.numb; rw [hd]; rfl)
  clear hd
  go_enter Tryz.func159, Tryz.ntmps159
  go_wp2_with fail
  refine (qm s _ hs').mono ?_
  rintro e w' ⟨rfl, rfl⟩
  simp only [HD.out]
  go_wp2
  go_ret
  exact ⟨zc HN.out.symm, rfl⟩
 ·have HD := zwe hd
  have hp := zf7 hd
  rw [zf] at hp
  have h0 := zwe (at0 hp)
  have HN : Hid (V.numb s.data.toList true = (((s[0].toNat : Int) != 48) || ((s.size : Int) == 1))) := by
   refine zwe ?_
   unfold V.numb
   have : (s[0] == (48 : UInt8)) = ((s[0].toNat : Int) == 48) := by
    rw [Bool.eq_iff_iff]; simp [← UInt8.toNat_inj]; omega
   rw [HD.out, h0.out, zf, this]
   unfold bne
   rcases (s[0].toNat : Int) == 48 with _ | _
   ·simp
   ·rw [Bool.eq_iff_iff]; simp; omega
  clear hd
  rcases h1 : ((s[0].toNat : Int) != 48) with _ | _
  ·exact zy4
  ·exact zy4
def RSem (r : Option (List V.Bs × List V.Bs)) (w : World) (e : Ending) (w' : World) : Prop :=
 Below w.heap.size w w' /\ match r with
 | none => e = .returned (.tuple #[.slice none 0 0, .slice none 0 0, .bool false])
 | some (l, ids) => ∃ v u, e = .returned (.tuple #[v, u, .bool true]) /\ Strs w' v l /\ Strs w' u ids
theorem zft (x : V.Bs) : V.km false x = V.only (V.kind [45]) x := by
 unfold V.km V.numb
 rcases V.digits x with _ | _ <;> simp
theorem vm {w w4 : World} {l : List V.Bs} {t : Nat} (h : w4 = w.alloc (.cells (strCells l) t)) (j : Nat) (hj : j < l.length) : w4.cell? ⟨w.heap.size, j, none⟩ = some (.string ⟨l[j].toArray⟩) := by
 rw [h, World.cell?_alloc_new, yp l j hj]
theorem zqd {α : Type} {l : List α} {p : α -> Bool} {k : Nat} (h : k < l.length) (hp : p l[k] = false) : l.all p = false := by
 rw [List.all_eq_false]
 exact ⟨l[k], List.getElem_mem h, by simp [hp]⟩
theorem zer {α : Type} {l : List α} {p : α -> Bool} {k : Nat} (h : k < l.length) : (l.take (k + 1)).all p = ((l.take k).all p && p l[k]) := by
 rw [List.take_succ_eq_append_getElem h, List.all_append]; simp
theorem z0e {P : Prop} (h : P := by
 go_ret3
 have HN : Hid (V.zq s.data.toList = none) := zwe (by
   rw [HP.out, HI.out, zqd (k := k) hlt (by rw [HK.out]; rfl)]; simp)
 rw [HN.out]
 exact ⟨HB4.out, rfl⟩) : P := h
theorem z1b {P : Prop} (h : P := by
 go_round
 case rel => exact ⟨k + 1, by omega, by go_num, by rw [HT.out, HQ.out, HK.out]; rfl⟩
 case measure => simp [intOf]; omega) : P := h
theorem zd8 (s : ByteArray) (w : World) (hm : zg w) (hs : s.size ≤ 1000) :
  Calls Tryz.prog 126 #[.string s] w (RSem (V.zq s.data.toList) w) := by
 obtain ⟨v1, bu, B, hx1⟩ : ∃ a b c, V.cut1 43 s.data.toList = (a, b, c) := ⟨_, _, _, rfl⟩
 obtain ⟨v2, pr, E, hx2⟩ : ∃ a b c, V.cut1 45 v1 = (a, b, c) := ⟨_, _, _, rfl⟩
 obtain ⟨L, hL⟩ : ∃ L, V.zd 46 v2 = L := ⟨_, rfl⟩
 have HP : Hid (V.zq s.data.toList = if (B && !V.identifiers bu false) || (E && !V.identifiers pr true) || L.length != 3 then none else if L.all (fun x => V.numb x true) then some (L, if E then V.zd 46 pr else []) else none) := zwe (by
   unfold V.zq
   rw [hx1]
   simp only
   rw [hx2]
   simp only
   rw [hL])
 have hl1 : v1.length ≤ s.size /\ bu.length ≤ s.size := by
  have := uo 43 s.data.toList
  rw [hx1, zf] at this
  exact this
 have hl2 : v2.length ≤ v1.length /\ pr.length ≤ v1.length := by
  have := uo 45 v1
  rw [hx2] at this
  exact this
 have hl3 : L.length ≤ v2.length + 1 := by rw [← hL]; exact jn 46 v2
 have hl4 : Hid (∀ x ∈ L, x.length ≤ v2.length) := zwe (fun x hx => kd 46 v2 x (by rw [hL]; exact hx))
 obtain ⟨hl1, hl1'⟩ := hl1
 obtain ⟨hl2, hl2'⟩ := hl2
 have HX1 := zwe hx1
 have HX2 := zwe hx2
 have HL := zwe hL
 have HM := zwe hm
 clear hx1 hx2 hL hm
 go_enter Tryz.func126, Tryz.ntmps126
 go_wp2_with fail
 refine (zdm s 43 _ HM.out (by omega)).mono ?_
 rintro e w1 ⟨rfl, hb1⟩
 simp only [HX1.out]
 have HB1 := zwe hb1
 clear hb1
 go_upto_if 22 with (fail)
 go_cut [8] (fun _ wx => Below w.heap.size w wx /\ (B = true -> V.identifiers bu false = true))
 case first =>
  cases B with
  | false =>
   go_wp2
   go_meet
   exact ⟨HB1.out, fun e => by cases e⟩
  | true =>
   go_wp2_with fail
   refine (kp ⟨bu.toArray⟩ 46 _ (HM.out.below HB1.out) (by show bu.length < _; omega)).mono ?_
   rintro e w4 ⟨rfl, hw4⟩
   simp only  at hw4 ⊢
   have hi : V.identifiers bu false = (V.zd 46 bu).all (V.km false) := rfl
   have hle := jn 46 bu
   have hmem := zwe (kd 46 bu)
   obtain ⟨L0, hL0⟩ : ∃ L0, V.zd 46 bu = L0 := ⟨_, rfl⟩
   rw [hL0] at hw4 hi hle hmem ⊢
   have hcs := zwe (vm hw4)
   have HB4 : Hid (Below w.heap.size w w4) := zwe (by rw [hw4]; exact HB1.out.alloc HB1.out.size _)
   have HI := zwe hi
   clear hw4 hi hL0
   go_wp2
   go_loop [9] (fun i => ∃ k : Nat, k ≤ L0.length /\ i = .int .i64 k /\ (L0.take k).all (V.km false) = true) (fun i => L0.length - (intOf i).toNat)
   case atStart => exact ⟨0, Nat.zero_le _, rfl, rfl⟩
   case round =>
    obtain ⟨k, hk, rfl, hp⟩ := hrel
    have HQ := zwe hp
    clear hp
    by_cases hlt : k < L0.length
    ·have hc := hcs.out k hlt
     have hsz : L0[k].length ≤ bu.length := hmem.out _ (List.getElem_mem hlt)
     have HT := zwe (zer (p := V.km false) hlt)
     rcases hpk : V.only (V.kind [45]) L0[k] with _ | _
     all_goals
      have HPK := zwe hpk
      clear hpk
      go_wp2_with fail
      refine (zae ⟨L0[k].toArray⟩ ⟨#[45]⟩ _ (by show L0[k].length ≤ _; unfold maxLen; omega)).mono ?_
      rintro e w' ⟨rfl, rfl⟩
      simp only [HPK.out]
      go_wp2
     ·go_ret3
      have HN : Hid (V.zq s.data.toList = none) := zwe (by
        rw [HP.out, HI.out, zqd (k := k) hlt (by rw [zft]; exact HPK.out)]; rfl)
      rw [HN.out]
      exact ⟨HB4.out, rfl⟩
     ·go_round
      case rel => exact ⟨k + 1, by omega, by go_num, by rw [HT.out, HQ.out, zft]; exact HPK.out⟩
      case measure => simp [intOf]; omega
    ·have ht : L0.take k = L0 := List.take_of_length_le (by omega)
     rw [ht] at HQ
     clear ht
     go_wp2
     go_meet
     exact ⟨HB4.out, fun _ => by rw [HI.out]; exact HQ.out⟩
 case rest =>
  obtain ⟨hb2, hids⟩ := hcut
  have HB2 := zwe hb2
  have HIDS := zwe hids
  clear hb2 hids HB1
  obtain ⟨wo, rfl⟩ : ∃ wo : World, wo = wc := ⟨_, rfl⟩
  go_wp2_with fail
  refine (zdm ⟨v1.toArray⟩ 45 _ (HM.out.below HB2.out) (by show v1.length < _; omega)).mono ?_
  rintro e w3 ⟨rfl, hb3⟩
  simp only [HX2.out]
  have HB3 := zwf HB2 hb3
  clear hb3
  go_upto_if 43 with (fail)
  go_cut [13] (fun v wx => ∃ ids : List V.Bs, Strs wx v ids /\ Below w.heap.size w wx /\ ids = (if E then V.zd 46 pr else []) /\ (E = true -> V.identifiers pr true = true))
  case first =>
   cases E with
   | false =>
    go_wp2
    go_meet
    exact ⟨[], Strs.nil _, HB3.out, rfl, fun e => by cases e⟩
   | true =>
    go_wp2_with fail
    refine (kp ⟨pr.toArray⟩ 46 _ (HM.out.below HB3.out) (by show pr.length < _; omega)).mono ?_
    rintro e w4 ⟨rfl, hw4⟩
    simp only  at hw4 ⊢
    have hi : V.identifiers pr true = (V.zd 46 pr).all (V.km true) := rfl
    have hle := jn 46 pr
    have hmem := zwe (kd 46 pr)
    obtain ⟨L0, hL0⟩ : ∃ L0, V.zd 46 pr = L0 := ⟨_, rfl⟩
    rw [hL0] at hw4 hi hle hmem ⊢
    have hcs := zwe (vm hw4)
    have HB4 : Hid (Below w.heap.size w w4) := zwe (by rw [hw4]; exact HB3.out.alloc HB3.out.size _)
    have HS4 : Hid (Strs w4 (.slice (some ⟨w3.heap.size, 0, none⟩) L0.length L0.length) L0) := zwe (by rw [hw4]; exact Strs.split w3 L0 _)
    have HI := zwe hi
    have HL0 := zwe hL0
    clear hw4 hi hL0
    go_wp2
    go_loop [14] (fun i => ∃ k : Nat, k ≤ L0.length /\ i = .int .i64 k /\ (L0.take k).all (V.km true) = true) (fun i => L0.length - (intOf i).toNat)
    case atStart => exact ⟨0, Nat.zero_le _, rfl, rfl⟩
    case round =>
     obtain ⟨k, hk, rfl, hp⟩ := hrel
     have HQ := zwe hp
     clear hp
     by_cases hlt : k < L0.length
     ·have hc := hcs.out k hlt
      have hsz : L0[k].length ≤ pr.length := hmem.out _ (List.getElem_mem hlt)
      have HT := zwe (zer (p := V.km true) hlt)
      have HK : Hid (V.km true L0[k] = (V.only (V.kind [45]) L0[k] && !(V.digits L0[k] && !V.numb L0[k] true))) := rfl
      rcases hpk : V.only (V.kind [45]) L0[k] with _ | _
      ·have HPK := zwe hpk
       rw [hpk] at HK
       clear hpk
       go_wp2_with fail
       refine (zae ⟨L0[k].toArray⟩ ⟨#[45]⟩ _ (by show L0[k].length ≤ _; unfold maxLen; omega)).mono ?_
       rintro e w' ⟨rfl, rfl⟩
       simp only [HPK.out]
       go_wp2
       exact z0e
      ·have HPK := zwe hpk
       rcases hdk : V.digits L0[k] with _ | _
       ·have HDK := zwe hdk
        rw [hpk, hdk] at HK
        clear hpk hdk
        go_wp2_with fail
        refine (zae ⟨L0[k].toArray⟩ ⟨#[45]⟩ _ (by show L0[k].length ≤ _; unfold maxLen; omega)).mono ?_
        rintro e w' ⟨rfl, rfl⟩
        simp only [HPK.out]
        go_wp2_with fail
        refine (qm ⟨L0[k].toArray⟩ _ (by show L0[k].length ≤ _; unfold maxLen; omega)).mono ?_
        rintro e w' ⟨rfl, rfl⟩
        simp only [HDK.out]
        go_wp2
        exact z1b
       ·have HDK := zwe hdk
        rcases hnk : V.numb L0[k] true with _ | _
        all_goals
         have HNK := zwe hnk
         rw [hpk, hdk, hnk] at HK
         clear hpk hdk hnk
         go_wp2_with fail
         refine (zae ⟨L0[k].toArray⟩ ⟨#[45]⟩ _ (by show L0[k].length ≤ _; unfold maxLen; omega)).mono ?_
         rintro e w' ⟨rfl, rfl⟩
         simp only [HPK.out]
         go_wp2_with fail
         refine (qm ⟨L0[k].toArray⟩ _ (by show L0[k].length ≤ _; unfold maxLen; omega)).mono ?_
         rintro e w' ⟨rfl, rfl⟩
         simp only [HDK.out]
         go_wp2_with fail
         refine (yr ⟨L0[k].toArray⟩ _ (by show L0[k].length ≤ _; unfold maxLen; omega)).mono ?_
         rintro e w' ⟨rfl, rfl⟩
         simp only [HNK.out]
         go_wp2
        ·exact z0e
        ·exact z1b
     ·have ht : L0.take k = L0 := List.take_of_length_le (by omega)
      rw [ht] at HQ
      clear ht
      go_wp2
      go_meet
      exact ⟨L0, HS4.out, HB4.out, by rw [HL0.out]; simp, fun _ => by rw [HI.out]; exact HQ.out⟩
  case rest =>
   obtain ⟨ids, hst, hb5, hids, hid2⟩ := hcut
   have HST := zwe hst
   have HB5 := zwe hb5
   have HIDL := zwe hids
   have HID2 := zwe hid2
   clear hst hb5 hids hid2 HB3
   go_wp2_with fail
   refine (kp ⟨v2.toArray⟩ 46 _ (HM.out.below HB5.out) (by show v2.length < _; omega)).mono ?_
   rintro e w6 ⟨rfl, hw6⟩
   simp only [HL.out] at hw6 ⊢
   have hcs := zwe (vm hw6)
   have HB6 : Hid (Below w.heap.size w w6) := zwe (by rw [hw6]; exact HB5.out.alloc HB5.out.size _)
   have HS6 : Hid (Strs w6 u13 ids) := zwe (HST.out.below (by rw [hw6]; exact (zwh _ _).alloc (zwg _) _))
   have HSL : Hid (Strs w6 (.slice (some ⟨wc.heap.size, 0, none⟩) L.length L.length) L) := zwe (by rw [hw6]; exact Strs.split wc L _)
   have HQ : Hid (V.zq s.data.toList = if L.length != 3 then none else if L.all (fun x => V.numb x true) then some (L, ids) else none) := zwe (by
     rw [HP.out, HIDL.out]
     have e1 : (B && !V.identifiers bu false) = false := by
       cases B with
       | false => rfl
       | true => rw [HIDS.out rfl]; rfl
     have e2 : (E && !V.identifiers pr true) = false := by
       cases E with
       | false => rfl
       | true => rw [HID2.out rfl]; rfl
     rw [e1, e2]; rfl)
   clear hw6
   by_cases hlen : L.length = 3
   ·obtain ⟨x, y, z, rfl⟩ : ∃ x y z, L = [x, y, z] := by
     match L, hlen with
     | [x, y, z], _ => exact ⟨x, y, z, rfl⟩
    have cx : w6.cell? ⟨wc.heap.size, 0, none⟩ = some (.string ⟨x.toArray⟩) := hcs.out 0 (by simp)
    have cy : w6.cell? ⟨wc.heap.size, 1, none⟩ = some (.string ⟨y.toArray⟩) := hcs.out 1 (by simp)
    have cz : w6.cell? ⟨wc.heap.size, 2, none⟩ = some (.string ⟨z.toArray⟩) := hcs.out 2 (by simp)
    have lx := hl4.out x (by simp)
    have ly := hl4.out y (by simp)
    have lz := hl4.out z (by simp)
    simp only [List.length_cons, List.length_nil, Nat.reduceAdd] at HSL ⊢
    rcases hx : V.numb x true with _ | _
    ·have HX := zwe hx
     clear hx
     go_wp2_with fail
     refine (yr ⟨x.toArray⟩ _ (by show x.length ≤ _; unfold maxLen; omega)).mono ?_
     rintro e w' ⟨rfl, rfl⟩
     simp only [HX.out]
     go_wp2
     go_ret3
     have HN : Hid (V.zq s.data.toList = none) := zwe (by rw [HQ.out]; simp [HX.out])
     rw [HN.out]
     exact ⟨HB6.out, rfl⟩
    ·have HX := zwe hx
     rcases hy : V.numb y true with _ | _
     ·have HY := zwe hy
      clear hx hy
      go_wp2_with fail
      refine (yr ⟨x.toArray⟩ _ (by show x.length ≤ _; unfold maxLen; omega)).mono ?_
      rintro e w' ⟨rfl, rfl⟩
      simp only [HX.out]
      go_wp2_with fail
      refine (yr ⟨y.toArray⟩ _ (by show y.length ≤ _; unfold maxLen; omega)).mono ?_
      rintro e w' ⟨rfl, rfl⟩
      simp only [HY.out]
      go_wp2
      go_ret3
      have HN : Hid (V.zq s.data.toList = none) := zwe (by rw [HQ.out]; simp [HX.out, HY.out])
      rw [HN.out]
      exact ⟨HB6.out, rfl⟩
     ·have HY := zwe hy
      rcases hz : V.numb z true with _ | _
      all_goals
       have HZ := zwe hz
       clear hx hy hz
       go_wp2_with fail
       refine (yr ⟨x.toArray⟩ _ (by show x.length ≤ _; unfold maxLen; omega)).mono ?_
       rintro e w' ⟨rfl, rfl⟩
       simp only [HX.out]
       go_wp2_with fail
       refine (yr ⟨y.toArray⟩ _ (by show y.length ≤ _; unfold maxLen; omega)).mono ?_
       rintro e w' ⟨rfl, rfl⟩
       simp only [HY.out]
       go_wp2_with fail
       refine (yr ⟨z.toArray⟩ _ (by show z.length ≤ _; unfold maxLen; omega)).mono ?_
       rintro e w' ⟨rfl, rfl⟩
       simp only [HZ.out]
       go_wp2
       go_ret3
      ·have HN : Hid (V.zq s.data.toList = none) := zwe (by rw [HQ.out]; simp [HX.out, HY.out, HZ.out])
       rw [HN.out]
       exact ⟨HB6.out, rfl⟩
      ·have HN : Hid (V.zq s.data.toList = some ([x, y, z], ids)) := zwe (by rw [HQ.out]; simp [HX.out, HY.out, HZ.out])
       rw [HN.out]
       exact ⟨HB6.out, _, _, rfl, HSL.out, HS6.out⟩
   ·have hle : ((L.length : Int) != 3) = true := by simp; omega
    have HN : Hid (V.zq s.data.toList = none) := zwe (by rw [HQ.out]; simp [hlen])
    go_wp2
    go_ret3
    rw [HN.out]
    exact ⟨HB6.out, rfl⟩
end Go.Proofs.YtcfbkcapbbhmpaaGreatDoor
