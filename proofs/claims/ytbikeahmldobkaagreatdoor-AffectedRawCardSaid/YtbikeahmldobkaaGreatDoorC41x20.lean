/-
  Lemmas for the law.
-/
import Derived.Test.YtbikeahmldobkaaGreatDoorC41x16
set_option linter.all false
set_option maxRecDepth 100000
set_option maxHeartbeats 1600000
namespace Go.Proofs.YtbikeahmldobkaaGreatDoor
open Go.RowKit
def zlu (T : Nat) (ok : Bool) (e : Ending) : Prop :=
 e = .returned (if ok then .tuple #[.func (.method "admission/version.compare") #[.iface T (.agg #[])] #[], .int .i64 0] else .tuple #[.nilFunc, .int .i64 1])
theorem zql {P : Prop} (h : P := by
 have HF := zpa (NEXT.out HVX.out)
 go_roundw
 case rel => exact ⟨k + 1, by omega, by go_num, HF.out, HB1.out⟩
 case measure => simp [intOf]; omega) : P := h
theorem zrv {P : Prop} (h : P := by
 have HF := zpa (BAD.out HVX.out)
 go_ret2
 exact ⟨by rw [HF.out]; rfl, HB1.out⟩) : P := h
theorem zf2 (v : Value) (l : List V.Bs) (w : World) (hm : zm w) (hv : Strs w v l) (hl : l.length ≤ maxLen) (hx : ∀ x ∈ l, x.length ≤ maxLen) :
  Calls Tryz.prog 110 #[.int .i64 1, v] w fun e w' =>
   zlu 203 (l.all (V.valid 1)) e /\ Below w.heap.size w w' := by
 obtain ⟨a, cap, rfl, hc⟩ := hv
 unfold maxLen at hl
 have HC := zpa hc
 have HX := zpa hx
 have HM := zpa hm
 clear hc hx hm
 go_enter Tryz.func110, Tryz.ntmps110
 go_wp2_with fail
 refine (zee _).mono ?_
 rintro e w' ⟨rfl, rfl⟩
 go_wp2
 go_loopw [15] (fun i wr => ∃ k : Nat, k ≤ l.length /\ i = .int .i64 k /\ (∀ j, j < k -> V.valid 1 (l.getD j []) = true) /\ Below w.heap.size w wr) (fun i _ => l.length - (intOf i).toNat)
 case atStart => exact ⟨0, Nat.zero_le _, rfl, fun j hj => by omega, zpd _ _⟩
 case round =>
  obtain ⟨k, hk, rfl, hz, hB⟩ := hrel
  have HZ := zpa hz
  have HB := zpa hB
  clear hz hB
  by_cases hlt : k < l.length
  ·obtain ⟨b, o, ha, hb, hcell⟩ := HC.out k hlt
   have hx1 := (HB.out.cell (p := ⟨b, o + k, none⟩) hb).trans hcell
   rw [← qw hlt] at hx1
   have s1 := HX.out _ (List.getElem_mem hlt)
   rw [← qw hlt] at s1
   have BAD : Hid (V.valid 1 (l.getD k []) = false -> l.all (V.valid 1) = false) := zpa (fun h => by
     rw [List.all_eq_false]
     exact ⟨l[k], List.getElem_mem hlt, by rw [← qw hlt, h]; simp⟩)
   have NEXT : Hid (V.valid 1 (l.getD k []) = true -> ∀ j, j < k + 1 -> V.valid 1 (l.getD j []) = true) := zpa (fun h0 j hj => by
     by_cases e : j = k
     · subst e; exact h0
     · exact HZ.out j (by omega))
   subst ha
   clear hcell
   generalize l.getD k [] = x at *
   rcases hvx : V.valid 1 x with _ | _
   all_goals
    have HVX := zpa hvx
    clear hvx
    go_wp2_with fail
    refine (zfb ⟨x.toArray⟩ _ (HM.out.below HB.out) s1).mono ?_
    rintro e w1 ⟨rfl, hb1⟩
    simp only [HVX.out]
    have HB1 := zpb HB hb1
    clear hb1
    go_wp2
   ·exact zrv
   ·exact zql
  ·have HF : Hid (l.all (V.valid 1) = true) := zpa (by
     rw [List.all_eq_true]
     intro x hx
     obtain ⟨j, hj, e⟩ := List.getElem_of_mem hx
     have := HZ.out j (by omega)
     rw [qw hj] at this
     rw [← e]; exact this)
   go_wp2
   go_ret2
   exact ⟨by rw [HF.out]; rfl, HB.out⟩
theorem ze0 (v : Value) (l : List V.Bs) (w : World) (hm : zm w) (hv : Strs w v l) (hl : l.length ≤ maxLen) (hx : ∀ x ∈ l, x.length ≤ maxLen) :
  Calls Tryz.prog 110 #[.int .i64 2, v] w fun e w' =>
   zlu 204 (l.all (V.valid 2)) e /\ Below w.heap.size w w' := by
 obtain ⟨a, cap, rfl, hc⟩ := hv
 unfold maxLen at hl
 have HC := zpa hc
 have HX := zpa hx
 have HM := zpa hm
 clear hc hx hm
 go_enter Tryz.func110, Tryz.ntmps110
 go_wp2_with fail
 refine (zeb _).mono ?_
 rintro e w' ⟨rfl, rfl⟩
 go_wp2
 go_loopw [15] (fun i wr => ∃ k : Nat, k ≤ l.length /\ i = .int .i64 k /\ (∀ j, j < k -> V.valid 2 (l.getD j []) = true) /\ Below w.heap.size w wr) (fun i _ => l.length - (intOf i).toNat)
 case atStart => exact ⟨0, Nat.zero_le _, rfl, fun j hj => by omega, zpd _ _⟩
 case round =>
  obtain ⟨k, hk, rfl, hz, hB⟩ := hrel
  have HZ := zpa hz
  have HB := zpa hB
  clear hz hB
  by_cases hlt : k < l.length
  ·obtain ⟨b, o, ha, hb, hcell⟩ := HC.out k hlt
   have hx1 := (HB.out.cell (p := ⟨b, o + k, none⟩) hb).trans hcell
   rw [← qw hlt] at hx1
   have s1 := HX.out _ (List.getElem_mem hlt)
   rw [← qw hlt] at s1
   have BAD : Hid (V.valid 2 (l.getD k []) = false -> l.all (V.valid 2) = false) := zpa (fun h => by
     rw [List.all_eq_false]
     exact ⟨l[k], List.getElem_mem hlt, by rw [← qw hlt, h]; simp⟩)
   have NEXT : Hid (V.valid 2 (l.getD k []) = true -> ∀ j, j < k + 1 -> V.valid 2 (l.getD j []) = true) := zpa (fun h0 j hj => by
     by_cases e : j = k
     · subst e; exact h0
     · exact HZ.out j (by omega))
   subst ha
   clear hcell
   generalize l.getD k [] = x at *
   rcases hvx : V.valid 2 x with _ | _
   all_goals
    have HVX := zpa hvx
    clear hvx
    go_wp2_with fail
    refine (zeq ⟨x.toArray⟩ _ (HM.out.below HB.out) s1).mono ?_
    rintro e w1 ⟨rfl, hb1⟩
    simp only [HVX.out]
    have HB1 := zpb HB hb1
    clear hb1
    go_wp2
   ·exact zrv
   ·exact zql
  ·have HF : Hid (l.all (V.valid 2) = true) := zpa (by
     rw [List.all_eq_true]
     intro x hx
     obtain ⟨j, hj, e⟩ := List.getElem_of_mem hx
     have := HZ.out j (by omega)
     rw [qw hj] at this
     rw [← e]; exact this)
   go_wp2
   go_ret2
   exact ⟨by rw [HF.out]; rfl, HB.out⟩
theorem zfj (v : Value) (l : List V.Bs) (w : World) (hm : zm w) (hv : Strs w v l) (hl : l.length ≤ maxLen) (hx : ∀ x ∈ l, x.length ≤ maxLen) :
  Calls Tryz.prog 110 #[.int .i64 3, v] w fun e w' =>
   zlu 205 (l.all (V.valid 3)) e /\ Below w.heap.size w w' := by
 obtain ⟨a, cap, rfl, hc⟩ := hv
 unfold maxLen at hl
 have HC := zpa hc
 have HX := zpa hx
 have HM := zpa hm
 clear hc hx hm
 go_enter Tryz.func110, Tryz.ntmps110
 go_wp2_with fail
 refine (zea _).mono ?_
 rintro e w' ⟨rfl, rfl⟩
 go_wp2
 go_loopw [15] (fun i wr => ∃ k : Nat, k ≤ l.length /\ i = .int .i64 k /\ (∀ j, j < k -> V.valid 3 (l.getD j []) = true) /\ Below w.heap.size w wr) (fun i _ => l.length - (intOf i).toNat)
 case atStart => exact ⟨0, Nat.zero_le _, rfl, fun j hj => by omega, zpd _ _⟩
 case round =>
  obtain ⟨k, hk, rfl, hz, hB⟩ := hrel
  have HZ := zpa hz
  have HB := zpa hB
  clear hz hB
  by_cases hlt : k < l.length
  ·obtain ⟨b, o, ha, hb, hcell⟩ := HC.out k hlt
   have hx1 := (HB.out.cell (p := ⟨b, o + k, none⟩) hb).trans hcell
   rw [← qw hlt] at hx1
   have s1 := HX.out _ (List.getElem_mem hlt)
   rw [← qw hlt] at s1
   have BAD : Hid (V.valid 3 (l.getD k []) = false -> l.all (V.valid 3) = false) := zpa (fun h => by
     rw [List.all_eq_false]
     exact ⟨l[k], List.getElem_mem hlt, by rw [← qw hlt, h]; simp⟩)
   have NEXT : Hid (V.valid 3 (l.getD k []) = true -> ∀ j, j < k + 1 -> V.valid 3 (l.getD j []) = true) := zpa (fun h0 j hj => by
     by_cases e : j = k
     · subst e; exact h0
     · exact HZ.out j (by omega))
   subst ha
   clear hcell
   generalize l.getD k [] = x at *
   rcases hvx : V.valid 3 x with _ | _
   all_goals
    have HVX := zpa hvx
    clear hvx
    go_wp2_with fail
    refine (zft ⟨x.toArray⟩ _ (HM.out.below HB.out) s1).mono ?_
    rintro e w1 ⟨rfl, hb1⟩
    simp only [HVX.out]
    have HB1 := zpb HB hb1
    clear hb1
    go_wp2
   ·exact zrv
   ·exact zql
  ·have HF : Hid (l.all (V.valid 3) = true) := zpa (by
     rw [List.all_eq_true]
     intro x hx
     obtain ⟨j, hj, e⟩ := List.getElem_of_mem hx
     have := HZ.out j (by omega)
     rw [qw hj] at this
     rw [← e]; exact this)
   go_wp2
   go_ret2
   exact ⟨by rw [HF.out]; rfl, HB.out⟩
theorem zm4 (n : Int) (h1 : n ≠ 1) (h2 : n ≠ 2) (h3 : n ≠ 3) (v : Value) (w : World) :
  Calls Tryz.prog 110 #[.int .i64 n, v] w fun e w' => e = .returned (.tuple #[.nilFunc, .int .i64 14]) /\ w = w' := by
 go_enter Tryz.func110, Tryz.ntmps110
 go_wp2_with fail
 refine (zm9 n h1 h2 h3 _).mono ?_
 rintro e w' ⟨rfl, rfl⟩
 go_wp2
 go_ret2
 exact ⟨rfl, rfl⟩
theorem ze7 (s t : ByteArray) (w : World) : Strs (w.alloc (.cells #[.string s, .string t] 9)) (.slice (some ⟨w.heap.size, 0, none⟩) 2 2) [s.data.toList, t.data.toList] := by
 have h := Strs.split w [s.data.toList, t.data.toList] 9
 have e : xb [s.data.toList, t.data.toList] = #[.string s, .string t] := by
  unfold xb; simp
 rw [e] at h
 exact h
theorem zc4 {s t : ByteArray} (hs : s.size ≤ maxLen) (ht : t.size ≤ maxLen) : ∀ x ∈ [s.data.toList, t.data.toList], x.length ≤ maxLen := by
 intro x hx
 simp at hx
 rcases hx with rfl | rfl
 ·rw [Array.length_toList]; exact hs
 ·rw [Array.length_toList]; exact ht
theorem yr {n : Int} {v : V.Bs} (h : V.valid n v = true) : v.length ≤ 64 := by
 unfold V.valid at h; simp at h; omega
theorem zhp {v : V.Bs} (h : V.valid 1 v = true) : (V.zl v).isSome = true := by
 unfold V.valid V.kj at h; simp at h; exact h.2
theorem zg5 {v : V.Bs} (h : V.valid 2 v = true) : (V.zq v).isSome = true := by
 unfold V.valid V.kj at h; simp at h; exact h.2
theorem zqj {P : Prop} (h : P := by
 rintro e w1 ⟨he, hb1⟩
 rw [HV.out] at he
 obtain rfl := he
 have HB1 := zpb HB0 hb1
 clear hb1
 go_wp2
 go_ret2
 exact ⟨by rw [H1.out]; rfl, HB1.out⟩) : P := h
theorem zqv {P : Prop} (h : P := by
 rintro e w2 ⟨rfl, hb2⟩
 have HB2 := zpb HB1 hb2
 clear hb2
 go_wp2
 go_ret2
 exact ⟨by rw [H1.out, HCV.out]; rfl, HB2.out⟩) : P := h
theorem zjf (s t : ByteArray) (w : World) (hm : zm w) (hs : s.size ≤ maxLen) (ht : t.size ≤ maxLen) :
  Calls Tryz.prog 79 #[.int .i64 1, .string s, .string t] w fun e w' =>
   e = .returned (.tuple #[.int .i64 (V.zv 1 s.data.toList t.data.toList).1, .int .i64 (V.zv 1 s.data.toList t.data.toList).2]) /\ Below w.heap.size w w' := by
 have hS := ze7 s t w
 have hb0 : Below w.heap.size w (w.alloc (.cells #[.string s, .string t] 9)) := (zpd _ w).alloc (zpc _) _
 have hm0 := hm.below hb0
 have HF : Hid (V.zv 1 s.data.toList t.data.toList = if V.valid 1 s.data.toList && V.valid 1 t.data.toList then (V.cmpV 1 s.data.toList t.data.toList, 0) else (0, 1)) := rfl
 have HS := zpa hS
 have HB0 := zpa hb0
 clear hS hb0
 rcases hv : (V.valid 1 s.data.toList && V.valid 1 t.data.toList) with _ | _
 ·rw [hv] at HF
  have HV : Hid ([s.data.toList, t.data.toList].all (V.valid 1) = false) := zpa (by simpa using hv)
  have H1 := zpa (show V.zv 1 s.data.toList t.data.toList = (0, 1) from HF.out)
  clear hv HF
  go_enter Tryz.func79, Tryz.ntmps79
  go_wp2_with fail
  refine (zf2 _ _ _ hm0 HS.out (by show 2 ≤ _; unfold maxLen; omega) (zc4 hs ht)).mono ?_
  exact zqj
 ·have HV : Hid ([s.data.toList, t.data.toList].all (V.valid 1) = true) := zpa (by simpa using hv)
  rw [hv] at HF
  have H1 := zpa (show V.zv 1 s.data.toList t.data.toList = (V.cmpV 1 s.data.toList t.data.toList, 0) from HF.out)
  rw [Bool.and_eq_true] at hv
  have h64 := yr hv.1
  have h65 := yr hv.2
  rw [zi] at h64 h65
  have HSV := zpa hv
  clear hv HF
  obtain ⟨⟨la, pa⟩, hpa⟩ := Option.isSome_iff_exists.1 (zhp HSV.out.1)
  obtain ⟨⟨lb, pb⟩, hpb⟩ := Option.isSome_iff_exists.1 (zhp HSV.out.2)
  have HCV : Hid (V.cmpV 1 s.data.toList t.data.toList = V.qp (la, pa) (lb, pb)) := zpa (by unfold V.cmpV; rw [if_pos rfl, hpa, hpb])
  have HPA := zpa hpa
  have HPB := zpa hpb
  clear hpa hpb
  have hmeth := zox
  go_enter Tryz.func79, Tryz.ntmps79
  go_wp2_with fail
  refine (zf2 _ _ _ hm0 HS.out (by show 2 ≤ _; unfold maxLen; omega) (zc4 hs ht)).mono ?_
  rintro e w1 ⟨he, hb1⟩
  rw [HV.out] at he
  obtain rfl := he
  have hm1 := hm0.below hb1
  have HB1 := zpb HB0 hb1
  clear hb1
  go_wp2_with fail
  refine (zev s t la pa lb pb _ hm1 (by omega) (by omega) HPA.out HPB.out).mono ?_
  exact zqv
theorem zjh (s t : ByteArray) (w : World) (hm : zm w) (hs : s.size ≤ maxLen) (ht : t.size ≤ maxLen) :
  Calls Tryz.prog 79 #[.int .i64 2, .string s, .string t] w fun e w' =>
   e = .returned (.tuple #[.int .i64 (V.zv 2 s.data.toList t.data.toList).1, .int .i64 (V.zv 2 s.data.toList t.data.toList).2]) /\ Below w.heap.size w w' := by
 have hS := ze7 s t w
 have hb0 : Below w.heap.size w (w.alloc (.cells #[.string s, .string t] 9)) := (zpd _ w).alloc (zpc _) _
 have hm0 := hm.below hb0
 have HF : Hid (V.zv 2 s.data.toList t.data.toList = if V.valid 2 s.data.toList && V.valid 2 t.data.toList then (V.cmpV 2 s.data.toList t.data.toList, 0) else (0, 1)) := rfl
 have HS := zpa hS
 have HB0 := zpa hb0
 clear hS hb0
 rcases hv : (V.valid 2 s.data.toList && V.valid 2 t.data.toList) with _ | _
 ·rw [hv] at HF
  have HV : Hid ([s.data.toList, t.data.toList].all (V.valid 2) = false) := zpa (by simpa using hv)
  have H1 := zpa (show V.zv 2 s.data.toList t.data.toList = (0, 1) from HF.out)
  clear hv HF
  go_enter Tryz.func79, Tryz.ntmps79
  go_wp2_with fail
  refine (ze0 _ _ _ hm0 HS.out (by show 2 ≤ _; unfold maxLen; omega) (zc4 hs ht)).mono ?_
  exact zqj
 ·have HV : Hid ([s.data.toList, t.data.toList].all (V.valid 2) = true) := zpa (by simpa using hv)
  rw [hv] at HF
  have H1 := zpa (show V.zv 2 s.data.toList t.data.toList = (V.cmpV 2 s.data.toList t.data.toList, 0) from HF.out)
  rw [Bool.and_eq_true] at hv
  have h64 := yr hv.1
  have h65 := yr hv.2
  rw [zi] at h64 h65
  have HSV := zpa hv
  clear hv HF
  obtain ⟨⟨x0, x1, x2⟩, hpa⟩ := Option.isSome_iff_exists.1 (zg5 HSV.out.1)
  obtain ⟨⟨y0, y1, y2⟩, hpb⟩ := Option.isSome_iff_exists.1 (zg5 HSV.out.2)
  have HCV : Hid (V.cmpV 2 s.data.toList t.data.toList = V.xa (x0, x1, x2) (y0, y1, y2)) := zpa (by unfold V.cmpV; rw [if_neg (by decide), if_pos rfl, hpa, hpb])
  have HPA := zpa hpa
  have HPB := zpa hpb
  clear hpa hpb
  have hmeth := zou
  go_enter Tryz.func79, Tryz.ntmps79
  go_wp2_with fail
  refine (ze0 _ _ _ hm0 HS.out (by show 2 ≤ _; unfold maxLen; omega) (zc4 hs ht)).mono ?_
  rintro e w1 ⟨he, hb1⟩
  rw [HV.out] at he
  obtain rfl := he
  have hm1 := hm0.below hb1
  have HB1 := zpb HB0 hb1
  clear hb1
  go_wp2_with fail
  refine (zfa s t x0 x1 x2 y0 y1 y2 _ hm1 (by omega) (by omega) HPA.out HPB.out).mono ?_
  exact zqv
theorem zi3 (s t : ByteArray) (w : World) (hm : zm w) (hs : s.size ≤ maxLen) (ht : t.size ≤ maxLen) :
  Calls Tryz.prog 79 #[.int .i64 3, .string s, .string t] w fun e w' =>
   e = .returned (.tuple #[.int .i64 (V.zv 3 s.data.toList t.data.toList).1, .int .i64 (V.zv 3 s.data.toList t.data.toList).2]) /\ Below w.heap.size w w' := by
 have hS := ze7 s t w
 have hb0 : Below w.heap.size w (w.alloc (.cells #[.string s, .string t] 9)) := (zpd _ w).alloc (zpc _) _
 have hm0 := hm.below hb0
 have HF : Hid (V.zv 3 s.data.toList t.data.toList = if V.valid 3 s.data.toList && V.valid 3 t.data.toList then (V.cmpV 3 s.data.toList t.data.toList, 0) else (0, 1)) := rfl
 have HS := zpa hS
 have HB0 := zpa hb0
 clear hS hb0
 rcases hv : (V.valid 3 s.data.toList && V.valid 3 t.data.toList) with _ | _
 ·rw [hv] at HF
  have HV : Hid ([s.data.toList, t.data.toList].all (V.valid 3) = false) := zpa (by simpa using hv)
  have H1 := zpa (show V.zv 3 s.data.toList t.data.toList = (0, 1) from HF.out)
  clear hv HF
  go_enter Tryz.func79, Tryz.ntmps79
  go_wp2_with fail
  refine (zfj _ _ _ hm0 HS.out (by show 2 ≤ _; unfold maxLen; omega) (zc4 hs ht)).mono ?_
  exact zqj
 ·have HV : Hid ([s.data.toList, t.data.toList].all (V.valid 3) = true) := zpa (by simpa using hv)
  rw [hv] at HF
  have H1 := zpa (show V.zv 3 s.data.toList t.data.toList = (V.cmpV 3 s.data.toList t.data.toList, 0) from HF.out)
  rw [Bool.and_eq_true] at hv
  have h64 := yr hv.1
  have h65 := yr hv.2
  rw [zi] at h64 h65
  have HSV := zpa hv
  clear hv HF
  have HCV : Hid (V.cmpV 3 s.data.toList t.data.toList = V.uh s.data.toList t.data.toList) := zpa (by unfold V.cmpV; rw [if_neg (by decide), if_neg (by decide)])
  have hmeth := zoq
  go_enter Tryz.func79, Tryz.ntmps79
  go_wp2_with fail
  refine (zfj _ _ _ hm0 HS.out (by show 2 ≤ _; unfold maxLen; omega) (zc4 hs ht)).mono ?_
  rintro e w1 ⟨he, hb1⟩
  rw [HV.out] at he
  obtain rfl := he
  have hm1 := hm0.below hb1
  have HB1 := zpb HB0 hb1
  clear hb1
  go_wp2_with fail
  refine (zf5 s t _ hm1 (by omega) (by omega)).mono ?_
  exact zqv
theorem zjp (n : Int) (h1 : n ≠ 1) (h2 : n ≠ 2) (h3 : n ≠ 3) (s t : ByteArray) (w : World) :
  Calls Tryz.prog 79 #[.int .i64 n, .string s, .string t] w fun e w' =>
   e = .returned (.tuple #[.int .i64 (V.zv n s.data.toList t.data.toList).1, .int .i64 (V.zv n s.data.toList t.data.toList).2]) /\ Below w.heap.size w w' := by
 have HF : Hid (V.zv n s.data.toList t.data.toList = (0, 14)) := zpa (by unfold V.zv V.scheme; simp [h1, h2, h3])
 go_enter Tryz.func79, Tryz.ntmps79
 go_wp2_with fail
 refine (zm4 n h1 h2 h3 _ _).mono ?_
 rintro e w' ⟨rfl, rfl⟩
 go_wp2
 go_ret2
 exact ⟨by rw [HF.out]; rfl, (zpd _ _).alloc (zpc _) _⟩
theorem zd0 (n : Int) (s t : ByteArray) (w : World) (hm : zm w) (hs : s.size ≤ maxLen) (ht : t.size ≤ maxLen) :
  Calls Tryz.prog 79 #[.int .i64 n, .string s, .string t] w fun e w' =>
   e = .returned (.tuple #[.int .i64 (V.zv n s.data.toList t.data.toList).1, .int .i64 (V.zv n s.data.toList t.data.toList).2]) /\ Below w.heap.size w w' := by
 by_cases h1 : n = 1
 ·subst h1; exact zjf s t w hm hs ht
 ·by_cases h2 : n = 2
  ·subst h2; exact zjh s t w hm hs ht
  ·by_cases h3 : n = 3
   ·subst h3; exact zi3 s t w hm hs ht
   ·exact zjp n h1 h2 h3 s t w
open Go.RowKit
end Go.Proofs.YtbikeahmldobkaaGreatDoor
