/-
  Lemmas for the law.
-/
import Derived.Test.YtbikeahmldobkaaGreatDoorC51x11
import Derived.Test.YtbikeahmldobkaaGreatDoorC51x02
set_option linter.all false
set_option maxRecDepth 100000
set_option maxHeartbeats 1600000
namespace Go.Proofs.YtbikeahmldobkaaGreatDoor
open Go.RowKit
def zqh (T : Nat) (ok : Bool) (e : Ending) : Prop :=
 e = .returned (if ok then .tuple #[.func (.method "admission/version.compare") #[.iface T (.agg #[])] #[], .int .i64 0] else .tuple #[.nilFunc, .int .i64 1])
theorem zwn {P : Prop} (h : P := by
 have HF := zu8 (NEXT.out HVX.out)
 go_roundw
 case rel => exact ⟨k + 1, by omega, by go_num, HF.out, HB1.out⟩
 case measure => simp [intOf]; omega) : P := h
theorem zx6 {P : Prop} (h : P := by
 have HF := zu8 (BAD.out HVX.out)
 go_ret2
 exact ⟨by rw [HF.out]; rfl, HB1.out⟩) : P := h
theorem zj0 (v : Value) (l : List V.Bs) (w : World) (hm : zj w) (hv : Strs w v l) (hl : l.length ≤ maxLen) (hx : ∀ x ∈ l, x.length ≤ maxLen) :
  Calls Tryz.prog 110 #[.int .i64 1, v] w fun e w' =>
   zqh 203 (l.all (V.valid 1)) e /\ Below w.heap.size w w' := by
 obtain ⟨a, cap, rfl, hc⟩ := hv
 unfold maxLen at hl
 have HC := zu8 hc
 have HX := zu8 hx
 have HM := zu8 hm
 clear hc hx hm
 go_enter Tryz.func110, Tryz.ntmps110
 go_wp2_with fail
 refine (zhx _).mono ?_
 rintro e w' ⟨rfl, rfl⟩
 go_wp2
 go_loopw [15] (fun i wr => ∃ k : Nat, k ≤ l.length /\ i = .int .i64 k /\ (∀ j, j < k -> V.valid 1 (l.getD j []) = true) /\ Below w.heap.size w wr) (fun i _ => l.length - (intOf i).toNat)
 case atStart => exact ⟨0, Nat.zero_le _, rfl, fun j hj => by omega, zvb _ _⟩
 case round =>
  obtain ⟨k, hk, rfl, hz, hB⟩ := hrel
  have HZ := zu8 hz
  have HB := zu8 hB
  clear hz hB
  by_cases hlt : k < l.length
  ·obtain ⟨b, o, ha, hb, hcell⟩ := HC.out k hlt
   have g1 := (HB.out.cell (p := ⟨b, o + k, none⟩) hb).trans hcell
   rw [← jm hlt] at g1
   have s1 := HX.out _ (List.getElem_mem hlt)
   rw [← jm hlt] at s1
   have BAD : Hid (V.valid 1 (l.getD k []) = false -> l.all (V.valid 1) = false) := zu8 (fun h => by
     rw [List.all_eq_false]
     exact ⟨l[k], List.getElem_mem hlt, by rw [← jm hlt, h]; simp⟩)
   have NEXT : Hid (V.valid 1 (l.getD k []) = true -> ∀ j, j < k + 1 -> V.valid 1 (l.getD j []) = true) := zu8 (fun h0 j hj => by
     by_cases e : j = k
     · subst e; exact h0
     · exact HZ.out j (by omega))
   subst ha
   clear hcell
   generalize l.getD k [] = x at *
   rcases g0 : V.valid 1 x with _ | _
   all_goals
    have HVX := zu8 g0
    clear g0
    go_wp2_with fail
    refine (ziy ⟨x.toArray⟩ _ (HM.out.below HB.out) s1).mono ?_
    rintro e w1 ⟨rfl, hb1⟩
    simp only [HVX.out]
    have HB1 := zu9 HB hb1
    clear hb1
    go_wp2
   ·exact zx6
   ·exact zwn
  ·have HF : Hid (l.all (V.valid 1) = true) := zu8 (by
     rw [List.all_eq_true]
     intro x hx
     obtain ⟨j, hj, e⟩ := List.getElem_of_mem hx
     have := HZ.out j (by omega)
     rw [jm hj] at this
     rw [← e]; exact this)
   go_wp2
   go_ret2
   exact ⟨by rw [HF.out]; rfl, HB.out⟩
theorem zil (v : Value) (l : List V.Bs) (w : World) (hm : zj w) (hv : Strs w v l) (hl : l.length ≤ maxLen) (hx : ∀ x ∈ l, x.length ≤ maxLen) :
  Calls Tryz.prog 110 #[.int .i64 2, v] w fun e w' =>
   zqh 204 (l.all (V.valid 2)) e /\ Below w.heap.size w w' := by
 obtain ⟨a, cap, rfl, hc⟩ := hv
 unfold maxLen at hl
 have HC := zu8 hc
 have HX := zu8 hx
 have HM := zu8 hm
 clear hc hx hm
 go_enter Tryz.func110, Tryz.ntmps110
 go_wp2_with fail
 refine (zhr _).mono ?_
 rintro e w' ⟨rfl, rfl⟩
 go_wp2
 go_loopw [15] (fun i wr => ∃ k : Nat, k ≤ l.length /\ i = .int .i64 k /\ (∀ j, j < k -> V.valid 2 (l.getD j []) = true) /\ Below w.heap.size w wr) (fun i _ => l.length - (intOf i).toNat)
 case atStart => exact ⟨0, Nat.zero_le _, rfl, fun j hj => by omega, zvb _ _⟩
 case round =>
  obtain ⟨k, hk, rfl, hz, hB⟩ := hrel
  have HZ := zu8 hz
  have HB := zu8 hB
  clear hz hB
  by_cases hlt : k < l.length
  ·obtain ⟨b, o, ha, hb, hcell⟩ := HC.out k hlt
   have g1 := (HB.out.cell (p := ⟨b, o + k, none⟩) hb).trans hcell
   rw [← jm hlt] at g1
   have s1 := HX.out _ (List.getElem_mem hlt)
   rw [← jm hlt] at s1
   have BAD : Hid (V.valid 2 (l.getD k []) = false -> l.all (V.valid 2) = false) := zu8 (fun h => by
     rw [List.all_eq_false]
     exact ⟨l[k], List.getElem_mem hlt, by rw [← jm hlt, h]; simp⟩)
   have NEXT : Hid (V.valid 2 (l.getD k []) = true -> ∀ j, j < k + 1 -> V.valid 2 (l.getD j []) = true) := zu8 (fun h0 j hj => by
     by_cases e : j = k
     · subst e; exact h0
     · exact HZ.out j (by omega))
   subst ha
   clear hcell
   generalize l.getD k [] = x at *
   rcases g0 : V.valid 2 x with _ | _
   all_goals
    have HVX := zu8 g0
    clear g0
    go_wp2_with fail
    refine (zh8 ⟨x.toArray⟩ _ (HM.out.below HB.out) s1).mono ?_
    rintro e w1 ⟨rfl, hb1⟩
    simp only [HVX.out]
    have HB1 := zu9 HB hb1
    clear hb1
    go_wp2
   ·exact zx6
   ·exact zwn
  ·have HF : Hid (l.all (V.valid 2) = true) := zu8 (by
     rw [List.all_eq_true]
     intro x hx
     obtain ⟨j, hj, e⟩ := List.getElem_of_mem hx
     have := HZ.out j (by omega)
     rw [jm hj] at this
     rw [← e]; exact this)
   go_wp2
   go_ret2
   exact ⟨by rw [HF.out]; rfl, HB.out⟩
theorem zi9 (v : Value) (l : List V.Bs) (w : World) (hm : zj w) (hv : Strs w v l) (hl : l.length ≤ maxLen) (hx : ∀ x ∈ l, x.length ≤ maxLen) :
  Calls Tryz.prog 110 #[.int .i64 3, v] w fun e w' =>
   zqh 205 (l.all (V.valid 3)) e /\ Below w.heap.size w w' := by
 obtain ⟨a, cap, rfl, hc⟩ := hv
 unfold maxLen at hl
 have HC := zu8 hc
 have HX := zu8 hx
 have HM := zu8 hm
 clear hc hx hm
 go_enter Tryz.func110, Tryz.ntmps110
 go_wp2_with fail
 refine (zhq _).mono ?_
 rintro e w' ⟨rfl, rfl⟩
 go_wp2
 go_loopw [15] (fun i wr => ∃ k : Nat, k ≤ l.length /\ i = .int .i64 k /\ (∀ j, j < k -> V.valid 3 (l.getD j []) = true) /\ Below w.heap.size w wr) (fun i _ => l.length - (intOf i).toNat)
 case atStart => exact ⟨0, Nat.zero_le _, rfl, fun j hj => by omega, zvb _ _⟩
 case round =>
  obtain ⟨k, hk, rfl, hz, hB⟩ := hrel
  have HZ := zu8 hz
  have HB := zu8 hB
  clear hz hB
  by_cases hlt : k < l.length
  ·obtain ⟨b, o, ha, hb, hcell⟩ := HC.out k hlt
   have g1 := (HB.out.cell (p := ⟨b, o + k, none⟩) hb).trans hcell
   rw [← jm hlt] at g1
   have s1 := HX.out _ (List.getElem_mem hlt)
   rw [← jm hlt] at s1
   have BAD : Hid (V.valid 3 (l.getD k []) = false -> l.all (V.valid 3) = false) := zu8 (fun h => by
     rw [List.all_eq_false]
     exact ⟨l[k], List.getElem_mem hlt, by rw [← jm hlt, h]; simp⟩)
   have NEXT : Hid (V.valid 3 (l.getD k []) = true -> ∀ j, j < k + 1 -> V.valid 3 (l.getD j []) = true) := zu8 (fun h0 j hj => by
     by_cases e : j = k
     · subst e; exact h0
     · exact HZ.out j (by omega))
   subst ha
   clear hcell
   generalize l.getD k [] = x at *
   rcases g0 : V.valid 3 x with _ | _
   all_goals
    have HVX := zu8 g0
    clear g0
    go_wp2_with fail
    refine (zjo ⟨x.toArray⟩ _ (HM.out.below HB.out) s1).mono ?_
    rintro e w1 ⟨rfl, hb1⟩
    simp only [HVX.out]
    have HB1 := zu9 HB hb1
    clear hb1
    go_wp2
   ·exact zx6
   ·exact zwn
  ·have HF : Hid (l.all (V.valid 3) = true) := zu8 (by
     rw [List.all_eq_true]
     intro x hx
     obtain ⟨j, hj, e⟩ := List.getElem_of_mem hx
     have := HZ.out j (by omega)
     rw [jm hj] at this
     rw [← e]; exact this)
   go_wp2
   go_ret2
   exact ⟨by rw [HF.out]; rfl, HB.out⟩
theorem zr7 (n : Int) (h1 : n ≠ 1) (h2 : n ≠ 2) (h3 : n ≠ 3) (v : Value) (w : World) :
  Calls Tryz.prog 110 #[.int .i64 n, v] w fun e w' => e = .returned (.tuple #[.nilFunc, .int .i64 14]) /\ w = w' := by
 go_enter Tryz.func110, Tryz.ntmps110
 go_wp2_with fail
 refine (zsl n h1 h2 h3 _).mono ?_
 rintro e w' ⟨rfl, rfl⟩
 go_wp2
 go_ret2
 exact ⟨rfl, rfl⟩
theorem zit (s t : ByteArray) (w : World) : Strs (w.alloc (.cells #[.string s, .string t] 9)) (.slice (some ⟨w.heap.size, 0, none⟩) 2 2) [s.data.toList, t.data.toList] := by
 have h := Strs.split w [s.data.toList, t.data.toList] 9
 have e : xe [s.data.toList, t.data.toList] = #[.string s, .string t] := by
  unfold xe; simp
 rw [e] at h
 exact h
theorem zgb {s t : ByteArray} (hs : s.size ≤ maxLen) (ht : t.size ≤ maxLen) : ∀ x ∈ [s.data.toList, t.data.toList], x.length ≤ maxLen := by
 intro x hx
 simp at hx
 rcases hx with rfl | rfl
 ·rw [Array.length_toList]; exact hs
 ·rw [Array.length_toList]; exact ht
theorem valid_len {n : Int} {v : V.Bs} (h : V.valid n v = true) : v.length ≤ 64 := by
 unfold V.valid at h; simp at h; omega
theorem zlt {v : V.Bs} (h : V.valid 1 v = true) : (V.zo v).isSome = true := by
 unfold V.valid V.xl at h; simp at h; exact h.2
theorem zk5 {v : V.Bs} (h : V.valid 2 v = true) : (V.zw v).isSome = true := by
 unfold V.valid V.xl at h; simp at h; exact h.2
theorem zwl {P : Prop} (h : P := by
 rintro e w1 ⟨he, hb1⟩
 rw [HV.out] at he
 obtain rfl := he
 have HB1 := zu9 HB0 hb1
 clear hb1
 go_wp2
 go_ret2
 exact ⟨by rw [H1.out]; rfl, HB1.out⟩) : P := h
theorem zwv {P : Prop} (h : P := by
 rintro e w2 ⟨rfl, hb2⟩
 have HB2 := zu9 HB1 hb2
 clear hb2
 go_wp2
 go_ret2
 exact ⟨by rw [H1.out, HCV.out]; rfl, HB2.out⟩) : P := h
theorem znk (s t : ByteArray) (w : World) (hm : zj w) (hs : s.size ≤ maxLen) (ht : t.size ≤ maxLen) :
  Calls Tryz.prog 79 #[.int .i64 1, .string s, .string t] w fun e w' =>
   e = .returned (.tuple #[.int .i64 (V.qc 1 s.data.toList t.data.toList).1, .int .i64 (V.qc 1 s.data.toList t.data.toList).2]) /\ Below w.heap.size w w' := by
 have hS := zit s t w
 have g0 : Below w.heap.size w (w.alloc (.cells #[.string s, .string t] 9)) := (zvb _ w).alloc (zva _) _
 have g1 := hm.below g0
 have HF : Hid (V.qc 1 s.data.toList t.data.toList = if V.valid 1 s.data.toList && V.valid 1 t.data.toList then (V.cmpV 1 s.data.toList t.data.toList, 0) else (0, 1)) := rfl
 have HS := zu8 hS
 have HB0 := zu8 g0
 clear hS g0
 rcases hv : (V.valid 1 s.data.toList && V.valid 1 t.data.toList) with _ | _
 ·rw [hv] at HF
  have HV : Hid ([s.data.toList, t.data.toList].all (V.valid 1) = false) := zu8 (by simpa using hv)
  have H1 := zu8 (show V.qc 1 s.data.toList t.data.toList = (0, 1) from HF.out)
  clear hv HF
  go_enter Tryz.func79, Tryz.ntmps79
  go_wp2_with fail
  refine (zj0 _ _ _ g1 HS.out (by show 2 ≤ _; unfold maxLen; omega) (zgb hs ht)).mono ?_
  exact zwl
 ·have HV : Hid ([s.data.toList, t.data.toList].all (V.valid 1) = true) := zu8 (by simpa using hv)
  rw [hv] at HF
  have H1 := zu8 (show V.qc 1 s.data.toList t.data.toList = (V.cmpV 1 s.data.toList t.data.toList, 0) from HF.out)
  rw [Bool.and_eq_true] at hv
  have g4 := valid_len hv.1
  have g5 := valid_len hv.2
  rw [zh] at g4 g5
  have g3 := zu8 hv
  clear hv HF
  obtain ⟨⟨la, pa⟩, hpa⟩ := Option.isSome_iff_exists.1 (zlt g3.out.1)
  obtain ⟨⟨lb, pb⟩, g2⟩ := Option.isSome_iff_exists.1 (zlt g3.out.2)
  have HCV : Hid (V.cmpV 1 s.data.toList t.data.toList = V.je (la, pa) (lb, pb)) := zu8 (by unfold V.cmpV; rw [if_pos rfl, hpa, g2])
  have g6 := zu8 hpa
  have g7 := zu8 g2
  clear hpa g2
  have g9 := zuz
  go_enter Tryz.func79, Tryz.ntmps79
  go_wp2_with fail
  refine (zj0 _ _ _ g1 HS.out (by show 2 ≤ _; unfold maxLen; omega) (zgb hs ht)).mono ?_
  rintro e w1 ⟨he, hb1⟩
  rw [HV.out] at he
  obtain rfl := he
  have g8 := g1.below hb1
  have HB1 := zu9 HB0 hb1
  clear hb1
  go_wp2_with fail
  refine (zif s t la pa lb pb _ g8 (by omega) (by omega) g6.out g7.out).mono ?_
  exact zwv
theorem znn (s t : ByteArray) (w : World) (hm : zj w) (hs : s.size ≤ maxLen) (ht : t.size ≤ maxLen) :
  Calls Tryz.prog 79 #[.int .i64 2, .string s, .string t] w fun e w' =>
   e = .returned (.tuple #[.int .i64 (V.qc 2 s.data.toList t.data.toList).1, .int .i64 (V.qc 2 s.data.toList t.data.toList).2]) /\ Below w.heap.size w w' := by
 have hS := zit s t w
 have g0 : Below w.heap.size w (w.alloc (.cells #[.string s, .string t] 9)) := (zvb _ w).alloc (zva _) _
 have g1 := hm.below g0
 have HF : Hid (V.qc 2 s.data.toList t.data.toList = if V.valid 2 s.data.toList && V.valid 2 t.data.toList then (V.cmpV 2 s.data.toList t.data.toList, 0) else (0, 1)) := rfl
 have HS := zu8 hS
 have HB0 := zu8 g0
 clear hS g0
 rcases hv : (V.valid 2 s.data.toList && V.valid 2 t.data.toList) with _ | _
 ·rw [hv] at HF
  have HV : Hid ([s.data.toList, t.data.toList].all (V.valid 2) = false) := zu8 (by simpa using hv)
  have H1 := zu8 (show V.qc 2 s.data.toList t.data.toList = (0, 1) from HF.out)
  clear hv HF
  go_enter Tryz.func79, Tryz.ntmps79
  go_wp2_with fail
  refine (zil _ _ _ g1 HS.out (by show 2 ≤ _; unfold maxLen; omega) (zgb hs ht)).mono ?_
  exact zwl
 ·have HV : Hid ([s.data.toList, t.data.toList].all (V.valid 2) = true) := zu8 (by simpa using hv)
  rw [hv] at HF
  have H1 := zu8 (show V.qc 2 s.data.toList t.data.toList = (V.cmpV 2 s.data.toList t.data.toList, 0) from HF.out)
  rw [Bool.and_eq_true] at hv
  have g4 := valid_len hv.1
  have g5 := valid_len hv.2
  rw [zh] at g4 g5
  have g3 := zu8 hv
  clear hv HF
  obtain ⟨⟨x0, x1, x2⟩, hpa⟩ := Option.isSome_iff_exists.1 (zk5 g3.out.1)
  obtain ⟨⟨y0, y1, y2⟩, g2⟩ := Option.isSome_iff_exists.1 (zk5 g3.out.2)
  have HCV : Hid (V.cmpV 2 s.data.toList t.data.toList = V.yv (x0, x1, x2) (y0, y1, y2)) := zu8 (by unfold V.cmpV; rw [if_neg (by decide), if_pos rfl, hpa, g2])
  have g6 := zu8 hpa
  have g7 := zu8 g2
  clear hpa g2
  have g9 := zux
  go_enter Tryz.func79, Tryz.ntmps79
  go_wp2_with fail
  refine (zil _ _ _ g1 HS.out (by show 2 ≤ _; unfold maxLen; omega) (zgb hs ht)).mono ?_
  rintro e w1 ⟨he, hb1⟩
  rw [HV.out] at he
  obtain rfl := he
  have g8 := g1.below hb1
  have HB1 := zu9 HB0 hb1
  clear hb1
  go_wp2_with fail
  refine (ziw s t x0 x1 x2 y0 y1 y2 _ g8 (by omega) (by omega) g6.out g7.out).mono ?_
  exact zwv
theorem zm8 (s t : ByteArray) (w : World) (hm : zj w) (hs : s.size ≤ maxLen) (ht : t.size ≤ maxLen) :
  Calls Tryz.prog 79 #[.int .i64 3, .string s, .string t] w fun e w' =>
   e = .returned (.tuple #[.int .i64 (V.qc 3 s.data.toList t.data.toList).1, .int .i64 (V.qc 3 s.data.toList t.data.toList).2]) /\ Below w.heap.size w w' := by
 have hS := zit s t w
 have g0 : Below w.heap.size w (w.alloc (.cells #[.string s, .string t] 9)) := (zvb _ w).alloc (zva _) _
 have g1 := hm.below g0
 have HF : Hid (V.qc 3 s.data.toList t.data.toList = if V.valid 3 s.data.toList && V.valid 3 t.data.toList then (V.cmpV 3 s.data.toList t.data.toList, 0) else (0, 1)) := rfl
 have HS := zu8 hS
 have HB0 := zu8 g0
 clear hS g0
 rcases hv : (V.valid 3 s.data.toList && V.valid 3 t.data.toList) with _ | _
 ·rw [hv] at HF
  have HV : Hid ([s.data.toList, t.data.toList].all (V.valid 3) = false) := zu8 (by simpa using hv)
  have H1 := zu8 (show V.qc 3 s.data.toList t.data.toList = (0, 1) from HF.out)
  clear hv HF
  go_enter Tryz.func79, Tryz.ntmps79
  go_wp2_with fail
  refine (zi9 _ _ _ g1 HS.out (by show 2 ≤ _; unfold maxLen; omega) (zgb hs ht)).mono ?_
  exact zwl
 ·have HV : Hid ([s.data.toList, t.data.toList].all (V.valid 3) = true) := zu8 (by simpa using hv)
  rw [hv] at HF
  have H1 := zu8 (show V.qc 3 s.data.toList t.data.toList = (V.cmpV 3 s.data.toList t.data.toList, 0) from HF.out)
  rw [Bool.and_eq_true] at hv
  have g2 := valid_len hv.1
  have g3 := valid_len hv.2
  rw [zh] at g2 g3
  have g6 := zu8 hv
  clear hv HF
  have HCV : Hid (V.cmpV 3 s.data.toList t.data.toList = V.zaw s.data.toList t.data.toList) := zu8 (by unfold V.cmpV; rw [if_neg (by decide), if_neg (by decide)])
  have g5 := zut
  go_enter Tryz.func79, Tryz.ntmps79
  go_wp2_with fail
  refine (zi9 _ _ _ g1 HS.out (by show 2 ≤ _; unfold maxLen; omega) (zgb hs ht)).mono ?_
  rintro e w1 ⟨he, hb1⟩
  rw [HV.out] at he
  obtain rfl := he
  have g4 := g1.below hb1
  have HB1 := zu9 HB0 hb1
  clear hb1
  go_wp2_with fail
  refine (zj4 s t _ g4 (by omega) (by omega)).mono ?_
  exact zwv
theorem znv (n : Int) (h1 : n ≠ 1) (h2 : n ≠ 2) (h3 : n ≠ 3) (s t : ByteArray) (w : World) :
  Calls Tryz.prog 79 #[.int .i64 n, .string s, .string t] w fun e w' =>
   e = .returned (.tuple #[.int .i64 (V.qc n s.data.toList t.data.toList).1, .int .i64 (V.qc n s.data.toList t.data.toList).2]) /\ Below w.heap.size w w' := by
 have HF : Hid (V.qc n s.data.toList t.data.toList = (0, 14)) := zu8 (by unfold V.qc V.scheme; simp [h1, h2, h3])
 go_enter Tryz.func79, Tryz.ntmps79
 go_wp2_with fail
 refine (zr7 n h1 h2 h3 _ _).mono ?_
 rintro e w' ⟨rfl, rfl⟩
 go_wp2
 go_ret2
 exact ⟨by rw [HF.out]; rfl, (zvb _ _).alloc (zva _) _⟩
theorem zhf (n : Int) (s t : ByteArray) (w : World) (hm : zj w) (hs : s.size ≤ maxLen) (ht : t.size ≤ maxLen) :
  Calls Tryz.prog 79 #[.int .i64 n, .string s, .string t] w fun e w' =>
   e = .returned (.tuple #[.int .i64 (V.qc n s.data.toList t.data.toList).1, .int .i64 (V.qc n s.data.toList t.data.toList).2]) /\ Below w.heap.size w w' := by
 by_cases h1 : n = 1
 ·subst h1; exact znk s t w hm hs ht
 ·by_cases h2 : n = 2
  ·subst h2; exact znn s t w hm hs ht
  ·by_cases h3 : n = 3
   ·subst h3; exact zm8 s t w hm hs ht
   ·exact znv n h1 h2 h3 s t w
open Go.RowKit
theorem za1 (n : Int) (w : World) :
  Calls Tryz.prog 124 #[.int .u8 n] w fun e w' => e = .returned (.bool (V.digB n)) /\ w = w' := by
 go_enter Tryz.func124, Tryz.ntmps124
 go_wp2
 all_goals go_ret
 all_goals exact ⟨ze (by unfold V.digB; simp_all; try omega), rfl⟩
theorem vx (n : Int) (w : World) :
  Calls Tryz.prog 156 #[.int .u8 n] w fun e w' => e = .returned (.bool (V.letB n)) /\ w = w' := by
 go_enter Tryz.func156, Tryz.ntmps156
 go_wp2
 all_goals go_ret
 all_goals exact ⟨ze (by unfold V.letB; simp_all; try omega), rfl⟩
theorem zml {s : ByteArray} {k : Nat} (hlt : k < s.size) : s.data.toList[k]'(by rw [zh]; exact hlt) = s[k] := by simp; rfl
theorem qk (s : ByteArray) (w : World) (hs : s.size ≤ maxLen) :
  Calls Tryz.prog 118 #[.string s] w fun e w' => e = .returned (.bool (V.digits s.data.toList)) /\ w = w' := by
 unfold maxLen at hs
 go_enter Tryz.func118, Tryz.ntmps118
 go_wp2
 go_loop [3] (fun i => ∃ k : Nat, k ≤ s.size /\ i = .int .i64 k /\ (s.data.toList.take k).all V.dig = true) (fun i => s.size - (intOf i).toNat)
 case atStart => exact ⟨0, Nat.zero_le _, rfl, rfl⟩
 case round =>
  obtain ⟨k, hk, rfl, hp⟩ := hrel
  have HP := zu8 hp
  clear hp
  by_cases hlt : k < s.size
  ·have hl : k < s.data.toList.length := by rw [zh]; exact hlt
   have HT := zu8 (V.zby (p := V.dig) hl)
   have HE := zu8 (zml hlt)
   rcases g0 : V.digB s[k].toNat with _ | _
   all_goals
    have HPC := zu8 g0
    clear g0
    go_wp2_with fail
    refine (za1 _ _).mono ?_
    rintro e w' ⟨rfl, rfl⟩
    simp only [HPC.out]
    go_wp2
   ·exact zyx
   ·go_round
    case rel => exact ⟨k + 1, by omega, by go_num, by rw [HT.out, HP.out, HE.out]; exact HPC.out⟩
    case measure => simp [intOf]; omega
  ·have ht : (s.data.toList.take k) = s.data.toList := List.take_of_length_le (by rw [zh]; omega)
   rw [ht] at HP
   have HQ : Hid (V.digits s.data.toList = !s.data.toList.isEmpty) := zu8 (by unfold V.digits V.only; rw [HP.out]; rfl)
   exact zye
theorem zoi {s : ByteArray} {k : Nat} (h : k < s.size) : s.extract k (k + 1) = ⟨#[s[k]]⟩ := by
 apply yc
 rw [Lib.extract_data]
 have hl : k < s.data.toList.length := by rw [zh]; exact h
 rw [List.drop_eq_getElem_cons hl, zml h]
 simp
theorem zwr {P : Prop} (h : P := by
 go_round
 case rel => exact ⟨k + 1, by omega, by go_num, by rw [HT.out, HP.out, HE.out, HK.out]; rfl⟩
 case measure => simp [intOf]; omega) : P := h
theorem uw (s o : ByteArray) (w : World) (hs : s.size ≤ maxLen) :
  Calls Tryz.prog 120 #[.string s, .string o] w fun e w' => e = .returned (.bool (V.only (V.kind o.data.toList) s.data.toList)) /\ w = w' := by
 unfold maxLen at hs
 go_enter Tryz.func120, Tryz.ntmps120
 go_wp2
 go_loop [5] (fun i => ∃ k : Nat, k ≤ s.size /\ i = .int .i64 k /\ (s.data.toList.take k).all (V.kind o.data.toList) = true) (fun i => s.size - (intOf i).toNat)
 case atStart => exact ⟨0, Nat.zero_le _, rfl, rfl⟩
 case round =>
  obtain ⟨k, hk, rfl, hp⟩ := hrel
  have HP := zu8 hp
  clear hp
  by_cases hlt : k < s.size
  ·have hl : k < s.data.toList.length := by rw [zh]; exact hlt
   have HT := zu8 (V.zby (p := V.kind o.data.toList) hl)
   have HE := zu8 (zml hlt)
   have HX := zu8 (zoi hlt)
   have HK : Hid (V.kind o.data.toList s[k] = (V.letB s[k].toNat || V.digB s[k].toNat || decide (s[k] ∈ o.data.toList))) := rfl
   rcases hL : V.letB s[k].toNat with _ | _
   ·have HL := zu8 hL
    rcases hD : V.digB s[k].toNat with _ | _
    ·have HD := zu8 hD
     rcases hM : decide (s[k] ∈ o.data.toList) with _ | _
     all_goals
      have HM := zu8 hM
      rw [hL, hD, hM] at HK
      clear hL hD hM
      go_wp2_with fail
      refine (vx _ _).mono ?_
      rintro e w' ⟨rfl, rfl⟩
      simp only [HL.out]
      go_wp2_with fail
      refine (za1 _ _).mono ?_
      rintro e w' ⟨rfl, rfl⟩
      simp only [HD.out]
      go_wp2_with fail
      rw [HX.out]
      refine (Tryz.strings_Contains_one _ _ _).mono ?_
      rintro e w' ⟨rfl, rfl⟩
      rw [V.vp, HM.out]
      go_wp2
     ·go_ret
      exact ⟨ze (V.znw (k := k) (by rw [zh]; exact hlt) (by rw [HE.out]; exact HK.out)).symm, rfl⟩
     ·exact zwr
    ·have HD := zu8 hD
     rw [hL, hD] at HK
     clear hL hD
     go_wp2_with fail
     refine (vx _ _).mono ?_
     rintro e w' ⟨rfl, rfl⟩
     simp only [HL.out]
     go_wp2_with fail
     refine (za1 _ _).mono ?_
     rintro e w' ⟨rfl, rfl⟩
     simp only [HD.out]
     go_wp2
     exact zwr
   ·have HL := zu8 hL
    rw [hL] at HK
    clear hL
    go_wp2_with fail
    refine (vx _ _).mono ?_
    rintro e w' ⟨rfl, rfl⟩
    simp only [HL.out]
    go_wp2
    exact zwr
  ·have ht : (s.data.toList.take k) = s.data.toList := List.take_of_length_le (by rw [zh]; omega)
   rw [ht] at HP
   have HQ : Hid (V.only (V.kind o.data.toList) s.data.toList = !s.data.toList.isEmpty) := zu8 (by unfold V.only; rw [HP.out]; rfl)
   exact zye
open Go.RowKit
theorem zje {x s : ByteArray} (h0 : 0 < x.size) (h : x[0] = 48) (hx : V.value x.data.toList = V.value s.data.toList) : V.value (x.extract 1 x.size).data.toList = V.value s.data.toList := by
 rw [← hx, V.zrm (l := x.data.toList) (by rw [at0 h0]; exact h) (by rw [zh]; exact h0), Lib.extract_to_end]
theorem zlm {x s : ByteArray} (h : x.size = 0 ∨ ∃ h0 : 0 < x.size, x[0] ≠ 48) (hx : V.value x.data.toList = V.value s.data.toList) : x = ⟨(V.value s.data.toList).toArray⟩ := by
 apply yc
 rw [← hx]
 simp only
 rcases h with h | ⟨h0, h⟩
 ·have : x.data.toList = [] := List.eq_nil_of_length_eq_zero (by rw [zh]; exact h)
  rw [this]; rfl
 ·exact (V.zp4 (by rw [at0 h0]; exact h)).symm
theorem ziv {x : ByteArray} (h : ¬ ∃ h0 : 0 < x.size, x[0] = 48) : (¬ 0 < x.size) ∨ (∃ h0 : 0 < x.size, ((x[0].toNat : Int) == 48) = false) := by
 rcases Nat.eq_zero_or_pos x.size with h0 | h0
 ·exact .inl (by omega)
 ·refine .inr ⟨h0, ?_⟩
  rw [zvc]
  intro e
  refine h ⟨h0, ?_⟩
  rw [← UInt8.toNat_inj]
  have : x[0].toNat = 48 := by omega
  rw [this]; rfl
theorem zxi {P : Prop} (h : P := by
 clear h1
 go_wp2
 go_round
 case rel => exact ⟨_, rfl, by simp [ByteArray.size_extract]; omega, HS.out⟩
 case measure => simp [szOf, ByteArray.size_extract]; omega) : P := h
theorem zet (s t : ByteArray) (w : World) (_hs : s.size ≤ maxLen) (_ht : t.size ≤ maxLen) :
  Calls Tryz.prog 86 #[.string s, .string t] w fun e w' => e = .returned (.int .i64 (V.numbers s.data.toList t.data.toList)) /\ w = w' := by
 unfold maxLen at _hs _ht
 have HF : Hid (V.numbers s.data.toList t.data.toList = V.cor (Lib.compareInt (V.value s.data.toList).length (V.value t.data.toList).length) (Lib.compareBytes (V.value s.data.toList) (V.value t.data.toList))) := rfl
 go_enter Tryz.func86, Tryz.ntmps86
 go_wp2
 go_loop [0] (fun v => ∃ x : ByteArray, v = .string x /\ x.size ≤ s.size /\ V.value x.data.toList = V.value s.data.toList) (fun v => szOf v)
 case atStart => exact ⟨s, rfl, zva _, rfl⟩
 case round =>
  obtain ⟨x, rfl, g1, hx⟩ := hrel
  have HX := zu8 hx
  clear hx
  by_cases h : ∃ h0 : 0 < x.size, x[0] = 48
  ·obtain ⟨h0, h1⟩ := h
   have HS := zu8 (zje h0 h1 HX.out)
   have hb : ((x[0].toNat : Int) == 48) = true := by rw [h1]; rfl
   exact zxi
  ·have HE := zu8 (zlm (x := x) (s := s) (by
     rcases Nat.eq_zero_or_pos x.size with h0 | h0
     · exact .inl h0
     · exact .inr ⟨h0, fun e => h ⟨h0, e⟩⟩) HX.out)
   have hend := ziv h
   clear h
   rcases hend with h0 | ⟨h0, hb⟩
   all_goals
    go_wp2
    go_loop [1] (fun v => ∃ y : ByteArray, v = .string y /\ y.size ≤ t.size /\ V.value y.data.toList = V.value t.data.toList) (fun v => szOf v)
    case atStart => exact ⟨t, rfl, zva _, rfl⟩
    case round =>
     obtain ⟨y, rfl, g2, hy⟩ := hrel
     have HY := zu8 hy
     clear hy
     by_cases h : ∃ h0 : 0 < y.size, y[0] = 48
     ·obtain ⟨h0, h1⟩ := h
      have HS := zu8 (zje h0 h1 HY.out)
      have hb : ((y[0].toNat : Int) == 48) = true := by rw [h1]; rfl
      exact zxi
     ·have g0 := zu8 (zlm (x := y) (s := t) (by
        rcases Nat.eq_zero_or_pos y.size with h0 | h0
        · exact .inl h0
        · exact .inr ⟨h0, fun e => h ⟨h0, e⟩⟩) HY.out)
      have hend := ziv h
      clear h
      have HF2 : Hid (V.numbers s.data.toList t.data.toList = V.cor (Lib.compareInt x.size y.size) (Lib.compareBytes x.data.toList y.data.toList)) := zu8 (by
        rw [HF.out, HE.out, g0.out]; simp only ; rfl)
      rcases hend with h0 | ⟨h0, hb⟩
      all_goals
       rcases Nat.lt_trichotomy x.size y.size with hc | hc | hc
       ·have hn : ((x.size : Int) != y.size) = true := by rw [bne_iff_ne]; omega
        have HF3 : Hid (V.numbers s.data.toList t.data.toList = -1) := zu8 (by
          rw [HF2.out]; unfold Lib.compareInt V.cor; rw [if_pos (show (x.size : Int) < y.size by omega)]; rfl)
        go_wp2
        all_goals
         go_ret
         exact ⟨zu HF3.out.symm, rfl⟩
       ·have hn : ((x.size : Int) != y.size) = false := by rw [bne_eq_false_iff_eq]; omega
        have HF3 : Hid (V.numbers s.data.toList t.data.toList = Lib.compareBytes x.data.toList y.data.toList) := zu8 (by
          rw [HF2.out]; unfold Lib.compareInt V.cor; rw [hc]; simp)
        have HC := zu8 hc
        clear hc
        go_wp2_with fail
        refine (Tryz.strings_Compare _ _ _).mono ?_
        rintro e w' ⟨rfl, rfl⟩
        go_wp2
        all_goals
         go_ret
         exact ⟨zu HF3.out.symm, rfl⟩
       ·have hn : ((x.size : Int) != y.size) = true := by rw [bne_iff_ne]; omega
        have HF3 : Hid (V.numbers s.data.toList t.data.toList = 1) := zu8 (by
          rw [HF2.out]; unfold Lib.compareInt V.cor; rw [if_neg (show ¬ (x.size : Int) < y.size by omega), if_pos (show (x.size : Int) > y.size by omega)]; rfl)
        go_wp2
        all_goals
         go_ret
         exact ⟨zu HF3.out.symm, rfl⟩
theorem zho (s t : ByteArray) (w : World) (hs : s.size ≤ maxLen) (ht : t.size ≤ maxLen) :
  Calls Tryz.prog 87 #[.string s, .string t] w fun e w' => e = .returned (.int .i64 (V.jt s.data.toList t.data.toList)) /\ w = w' := by
 have HF : Hid (V.jt s.data.toList t.data.toList = if V.digits s.data.toList && V.digits t.data.toList then V.numbers s.data.toList t.data.toList else if V.digits s.data.toList then -1 else if V.digits t.data.toList then 1 else Lib.compareBytes s.data.toList t.data.toList) := rfl
 rcases hx : V.digits s.data.toList with _ | _ <;> rcases hy : V.digits t.data.toList with _ | _
 all_goals
  have HX := zu8 hx
  have HY := zu8 hy
  clear hx hy
  rw [HX.out, HY.out] at HF
  go_enter Tryz.func87, Tryz.ntmps87
  go_wp2_with fail
  refine (qk s _ hs).mono ?_
  rintro e w' ⟨rfl, rfl⟩
  simp only [HX.out]
  go_wp2_with fail
 ·refine (qk s _ hs).mono ?_
  rintro e w' ⟨rfl, rfl⟩
  simp only [HX.out]
  go_wp2_with fail
  refine (qk t _ ht).mono ?_
  rintro e w' ⟨rfl, rfl⟩
  simp only [HY.out]
  go_wp2_with fail
  refine (Tryz.strings_Compare _ _ _).mono ?_
  rintro e w' ⟨rfl, rfl⟩
  go_wp2
  go_ret
  exact ⟨zu HF.out.symm, rfl⟩
 ·refine (qk s _ hs).mono ?_
  rintro e w' ⟨rfl, rfl⟩
  simp only [HX.out]
  go_wp2_with fail
  refine (qk t _ ht).mono ?_
  rintro e w' ⟨rfl, rfl⟩
  simp only [HY.out]
  go_wp2
  go_ret
  exact ⟨zu HF.out.symm, rfl⟩
 ·refine (qk t _ ht).mono ?_
  rintro e w' ⟨rfl, rfl⟩
  simp only [HY.out]
  go_wp2_with fail
  refine (qk s _ hs).mono ?_
  rintro e w' ⟨rfl, rfl⟩
  simp only [HX.out]
  go_wp2
  go_ret
  exact ⟨zu HF.out.symm, rfl⟩
 ·refine (qk t _ ht).mono ?_
  rintro e w' ⟨rfl, rfl⟩
  simp only [HY.out]
  go_wp2_with fail
  refine (zet _ _ _ hs ht).mono ?_
  rintro e w' ⟨rfl, rfl⟩
  go_wp2
  go_ret
  exact ⟨zu HF.out.symm, rfl⟩
theorem zgi (n : Int) (w : World) :
  Calls Tryz.prog 88 #[.int .i64 n] w fun e w' => e = .returned (.int .i64 (V.sgn n)) /\ w = w' := by
 go_enter Tryz.func88, Tryz.ntmps88
 go_wp2
 all_goals go_ret
 all_goals exact ⟨zu (by unfold V.sgn; (repeat' split) <;> omega), rfl⟩
end Go.Proofs.YtbikeahmldobkaaGreatDoor
