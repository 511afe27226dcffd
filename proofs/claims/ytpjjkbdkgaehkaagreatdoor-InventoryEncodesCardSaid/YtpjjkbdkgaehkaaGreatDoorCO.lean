/-
  Walks: versions of a scheme valid.
  The methods that compare.
  Walks: the check ahead of every comparison.
  Walks: two versions of a scheme compared.
  Walk: Compare, by what it returns.
  Two versions of a scheme compared by Compare.
-/
import Derived.Test.YtpjjkbdkgaehkaaGreatDoorD0
import Derived.Test.YtpjjkbdkgaehkaaGreatDoorL5
import Derived.Test.YtpjjkbdkgaehkaaGreatDoorD4
import Derived.Test.YtpjjkbdkgaehkaaGreatDoorP6
namespace Go.Proofs.YtpjjkbdkgaehkaaGreatDoor
open Go.RowKit

theorem meth_valid1 (k : Nat) (w : World) : (method (k + 1) 163 (.agg #[]) "admission/version.valid").run Tryz.prog w = .ok (193, .agg #[]) w := by kernel_rfl
theorem meth_valid2 (k : Nat) (w : World) : (method (k + 1) 164 (.agg #[]) "admission/version.valid").run Tryz.prog w = .ok (222, .agg #[]) w := by kernel_rfl
theorem meth_valid3 (k : Nat) (w : World) : (method (k + 1) 165 (.agg #[]) "admission/version.valid").run Tryz.prog w = .ok (234, .agg #[]) w := by kernel_rfl
set_option maxHeartbeats 400000 in
theorem of1_any (w : World) : Calls Tryz.prog 91 #[.int .i64 1] w fun e w' => e = .returned (.iface 163 (.agg #[])) ∧ w = w' := by
  go_enter Tryz.func91, Tryz.ntmps91
  go_wp2
  go_ret
  exact ⟨rfl, rfl⟩

set_option maxHeartbeats 400000 in
theorem of2_any (w : World) : Calls Tryz.prog 91 #[.int .i64 2] w fun e w' => e = .returned (.iface 164 (.agg #[])) ∧ w = w' := by
  go_enter Tryz.func91, Tryz.ntmps91
  go_wp2
  go_ret
  exact ⟨rfl, rfl⟩

set_option maxHeartbeats 400000 in
theorem of3_any (w : World) : Calls Tryz.prog 91 #[.int .i64 3] w fun e w' => e = .returned (.iface 165 (.agg #[])) ∧ w = w' := by
  go_enter Tryz.func91, Tryz.ntmps91
  go_wp2
  go_ret
  exact ⟨rfl, rfl⟩

set_option maxHeartbeats 400000 in
theorem of0_any (n : Int) (h1 : n ≠ 1) (h2 : n ≠ 2) (h3 : n ≠ 3) (w : World) : Calls Tryz.prog 91 #[.int .i64 n] w fun e w' => e = .returned .nilIface ∧ w = w' := by
  have b1 : (n == 1) = false := by simpa using h1
  have b2 : (n == 2) = false := by simpa using h2
  have b3 : (n == 3) = false := by simpa using h3
  go_enter Tryz.func91, Tryz.ntmps91
  go_wp2
  go_ret
  exact ⟨rfl, rfl⟩

set_option maxRecDepth 100000 in
set_option maxHeartbeats 1600000 in
theorem valid1_any (s : ByteArray) (w : World) (hm : MaxOk w) (hs : s.size ≤ maxLen) :
    Calls Tryz.prog 61 #[.int .i64 1, .string s] w fun e w' => e = .returned (.bool (V.valid 1 s.data.toList)) ∧ Below w.heap.size w w' := by
  unfold maxLen at hs
  have hmeth := meth_valid1
  by_cases h1 : 1 ≤ s.size
  · have b1 : (1 : Int) ≤ (s.size : Int) := by omega
    by_cases h2 : s.size ≤ 64
    · have HF : Hid (V.valid 1 s.data.toList = (V.semParse s.data.toList).isSome) := Lib.hid (by unfold V.valid V.schOk; rw [bs_size]; simp [h1, h2])
      have b2 : (s.size : Int) ≤ 64 := by omega
      go_enter Tryz.func61, Tryz.ntmps61
      go_wp2_with fail
      refine (of1_any _).mono ?_
      rintro e w' ⟨rfl, rfl⟩
      go_wp2_with fail
      refine (semValid_any s _ hm (by omega)).mono ?_
      rintro e w1 ⟨rfl, hb⟩
      go_wp2
      go_ret
      exact ⟨ret_bool (by rw [HF.out]), hb⟩
    · have HF : Hid (V.valid 1 s.data.toList = false) := Lib.hid (by unfold V.valid; rw [bs_size]; simp [h2])
      have b2 : ¬ (s.size : Int) ≤ 64 := by omega
      go_enter Tryz.func61, Tryz.ntmps61
      go_wp2_with fail
      refine (of1_any _).mono ?_
      rintro e w' ⟨rfl, rfl⟩
      go_wp2
      go_ret
      exact ⟨ret_bool HF.out.symm, Below.refl _ _⟩
  · have HF : Hid (V.valid 1 s.data.toList = false) := Lib.hid (by unfold V.valid; rw [bs_size]; simp [h1])
    have b1 : ¬ (1 : Int) ≤ (s.size : Int) := by omega
    go_enter Tryz.func61, Tryz.ntmps61
    go_wp2_with fail
    refine (of1_any _).mono ?_
    rintro e w' ⟨rfl, rfl⟩
    go_wp2
    go_ret
    exact ⟨ret_bool HF.out.symm, Below.refl _ _⟩

set_option maxRecDepth 100000 in
set_option maxHeartbeats 1600000 in
theorem valid2_any (s : ByteArray) (w : World) (hm : MaxOk w) (hs : s.size ≤ maxLen) :
    Calls Tryz.prog 61 #[.int .i64 2, .string s] w fun e w' => e = .returned (.bool (V.valid 2 s.data.toList)) ∧ Below w.heap.size w w' := by
  unfold maxLen at hs
  have hmeth := meth_valid2
  by_cases h1 : 1 ≤ s.size
  · have b1 : (1 : Int) ≤ (s.size : Int) := by omega
    by_cases h2 : s.size ≤ 64
    · have HF : Hid (V.valid 2 s.data.toList = (V.debParse s.data.toList).isSome) := Lib.hid (by unfold V.valid V.schOk; rw [bs_size]; simp [h1, h2])
      have b2 : (s.size : Int) ≤ 64 := by omega
      go_enter Tryz.func61, Tryz.ntmps61
      go_wp2_with fail
      refine (of2_any _).mono ?_
      rintro e w' ⟨rfl, rfl⟩
      go_wp2_with fail
      refine (debValid_any s _ hm (by omega)).mono ?_
      rintro e w1 ⟨rfl, hb⟩
      go_wp2
      go_ret
      exact ⟨ret_bool (by rw [HF.out]), hb⟩
    · have HF : Hid (V.valid 2 s.data.toList = false) := Lib.hid (by unfold V.valid; rw [bs_size]; simp [h2])
      have b2 : ¬ (s.size : Int) ≤ 64 := by omega
      go_enter Tryz.func61, Tryz.ntmps61
      go_wp2_with fail
      refine (of2_any _).mono ?_
      rintro e w' ⟨rfl, rfl⟩
      go_wp2
      go_ret
      exact ⟨ret_bool HF.out.symm, Below.refl _ _⟩
  · have HF : Hid (V.valid 2 s.data.toList = false) := Lib.hid (by unfold V.valid; rw [bs_size]; simp [h1])
    have b1 : ¬ (1 : Int) ≤ (s.size : Int) := by omega
    go_enter Tryz.func61, Tryz.ntmps61
    go_wp2_with fail
    refine (of2_any _).mono ?_
    rintro e w' ⟨rfl, rfl⟩
    go_wp2
    go_ret
    exact ⟨ret_bool HF.out.symm, Below.refl _ _⟩

set_option maxRecDepth 100000 in
set_option maxHeartbeats 1600000 in
theorem valid3_any (s : ByteArray) (w : World) (_hm : MaxOk w) (hs : s.size ≤ maxLen) :
    Calls Tryz.prog 61 #[.int .i64 3, .string s] w fun e w' => e = .returned (.bool (V.valid 3 s.data.toList)) ∧ Below w.heap.size w w' := by
  unfold maxLen at hs
  have hmeth := meth_valid3
  by_cases h1 : 1 ≤ s.size
  · have b1 : (1 : Int) ≤ (s.size : Int) := by omega
    by_cases h2 : s.size ≤ 64
    · have HF : Hid (V.valid 3 s.data.toList = V.dotOk s.data.toList) := Lib.hid (by unfold V.valid V.schOk; rw [bs_size]; simp [h1, h2])
      have b2 : (s.size : Int) ≤ 64 := by omega
      go_enter Tryz.func61, Tryz.ntmps61
      go_wp2_with fail
      refine (of3_any _).mono ?_
      rintro e w' ⟨rfl, rfl⟩
      go_wp2_with fail
      refine (dotValid_any s _ (by unfold maxLen; omega)).mono ?_
      rintro e w1 ⟨rfl, hb⟩
      go_wp2
      go_ret
      exact ⟨ret_bool (by rw [HF.out]), hb⟩
    · have HF : Hid (V.valid 3 s.data.toList = false) := Lib.hid (by unfold V.valid; rw [bs_size]; simp [h2])
      have b2 : ¬ (s.size : Int) ≤ 64 := by omega
      go_enter Tryz.func61, Tryz.ntmps61
      go_wp2_with fail
      refine (of3_any _).mono ?_
      rintro e w' ⟨rfl, rfl⟩
      go_wp2
      go_ret
      exact ⟨ret_bool HF.out.symm, Below.refl _ _⟩
  · have HF : Hid (V.valid 3 s.data.toList = false) := Lib.hid (by unfold V.valid; rw [bs_size]; simp [h1])
    have b1 : ¬ (1 : Int) ≤ (s.size : Int) := by omega
    go_enter Tryz.func61, Tryz.ntmps61
    go_wp2_with fail
    refine (of3_any _).mono ?_
    rintro e w' ⟨rfl, rfl⟩
    go_wp2
    go_ret
    exact ⟨ret_bool HF.out.symm, Below.refl _ _⟩

set_option maxRecDepth 100000 in
set_option maxHeartbeats 1600000 in
theorem valid0_any (n : Int) (h1 : n ≠ 1) (h2 : n ≠ 2) (h3 : n ≠ 3) (s : ByteArray) (w : World) :
    Calls Tryz.prog 61 #[.int .i64 n, .string s] w fun e w' => e = .returned (.bool (V.valid n s.data.toList)) ∧ Below w.heap.size w w' := by
  have HF : Hid (V.valid n s.data.toList = false) := Lib.hid (by unfold V.valid V.schOk; simp [h1, h2, h3])
  go_enter Tryz.func61, Tryz.ntmps61
  go_wp2_with fail
  refine (of0_any n h1 h2 h3 _).mono ?_
  rintro e w' ⟨rfl, rfl⟩
  go_wp2
  go_ret
  exact ⟨ret_bool HF.out.symm, Below.refl _ _⟩

theorem valid_any (n : Int) (s : ByteArray) (w : World) (hm : MaxOk w) (hs : s.size ≤ maxLen) :
    Calls Tryz.prog 61 #[.int .i64 n, .string s] w fun e w' => e = .returned (.bool (V.valid n s.data.toList)) ∧ Below w.heap.size w w' := by
  by_cases h1 : n = 1
  · subst h1; exact valid1_any s w hm hs
  · by_cases h2 : n = 2
    · subst h2; exact valid2_any s w hm hs
    · by_cases h3 : n = 3
      · subst h3; exact valid3_any s w hm hs
      · exact valid0_any n h1 h2 h3 s w
end Go.Proofs.YtpjjkbdkgaehkaaGreatDoor
namespace Go.Proofs.YtpjjkbdkgaehkaaGreatDoor
open Go.RowKit

theorem meth_cmp1 (k : Nat) (w : World) : (method (k + 1) 163 (.agg #[]) "admission/version.compare").run Tryz.prog w = .ok (191, .agg #[]) w := by kernel_rfl
theorem meth_cmp2 (k : Nat) (w : World) : (method (k + 1) 164 (.agg #[]) "admission/version.compare").run Tryz.prog w = .ok (220, .agg #[]) w := by kernel_rfl
theorem meth_cmp3 (k : Nat) (w : World) : (method (k + 1) 165 (.agg #[]) "admission/version.compare").run Tryz.prog w = .ok (232, .agg #[]) w := by kernel_rfl
end Go.Proofs.YtpjjkbdkgaehkaaGreatDoor
namespace Go.Proofs.YtpjjkbdkgaehkaaGreatDoor
open Go.RowKit

def CkPost (T : Nat) (ok : Bool) (e : Ending) : Prop :=
  e = .returned (if ok then .tuple #[.func (.method "admission/version.compare") #[.iface T (.agg #[])] #[], .int .i64 0] else .tuple #[.nilFunc, .int .i64 1])

set_option maxRecDepth 100000 in
set_option maxHeartbeats 1600000 in
theorem check1_any (v : Value) (l : List V.Bs) (w : World) (hm : MaxOk w) (hv : Strs w v l) (hl : l.length ≤ maxLen) (hx : ∀ x ∈ l, x.length ≤ maxLen) :
    Calls Tryz.prog 135 #[.int .i64 1, v] w fun e w' =>
      CkPost 163 (l.all (V.valid 1)) e ∧ Below w.heap.size w w' := by
  obtain ⟨a, cap, rfl, hc⟩ := hv
  unfold maxLen at hl
  have HC := Lib.hid hc
  have HX := Lib.hid hx
  have HM := Lib.hid hm
  clear hc hx hm
  go_enter Tryz.func135, Tryz.ntmps135
  go_wp2_with fail
  refine (of1_any _).mono ?_
  rintro e w' ⟨rfl, rfl⟩
  go_wp2
  go_loopw [15] (fun i wr => ∃ k : Nat, k ≤ l.length ∧ i = .int .i64 k ∧ (∀ j, j < k → V.valid 1 (l.getD j []) = true) ∧ Below w.heap.size w wr) (fun i _ => l.length - (intOf i).toNat)
  case atStart => exact ⟨0, Nat.zero_le _, rfl, fun j hj => by omega, Below.refl _ _⟩
  case round =>
    obtain ⟨k, hk, rfl, hz, hB⟩ := hrel
    have HZ := Lib.hid hz
    have HB := Lib.hid hB
    clear hz hB
    by_cases hlt : k < l.length
    · obtain ⟨b, o, ha, hb, hcell⟩ := HC.out k hlt
      have hx1 := (HB.out.cell (p := ⟨b, o + k, none⟩) hb).trans hcell
      rw [← getD_of hlt] at hx1
      have s1 := HX.out _ (List.getElem_mem hlt)
      rw [← getD_of hlt] at s1
      have BAD : Hid (V.valid 1 (l.getD k []) = false → l.all (V.valid 1) = false) := Lib.hid (fun h => by
        rw [List.all_eq_false]
        exact ⟨l[k], List.getElem_mem hlt, by rw [← getD_of hlt, h]; simp⟩)
      have NEXT : Hid (V.valid 1 (l.getD k []) = true → ∀ j, j < k + 1 → V.valid 1 (l.getD j []) = true) := Lib.hid (fun h0 j hj => by
        by_cases e : j = k
        · subst e; exact h0
        · exact HZ.out j (by omega))
      subst ha
      clear hcell
      generalize l.getD k [] = x at *
      rcases hvx : V.valid 1 x with _ | _
      all_goals
        have HVX := Lib.hid hvx
        clear hvx
        go_wp2_with fail
        refine (valid1_any ⟨x.toArray⟩ _ (HM.out.below HB.out) s1).mono ?_
        rintro e w1 ⟨rfl, hb1⟩
        simp only [HVX.out]
        have HB1 := Lib.hid (HB.out.trans (hb1.mono HB.out.size))
        clear hb1
        go_wp2
      · have HF := Lib.hid (BAD.out HVX.out)
        go_ret2
        exact ⟨by rw [HF.out]; rfl, HB1.out⟩
      · have HF := Lib.hid (NEXT.out HVX.out)
        go_roundw
        case rel => exact ⟨k + 1, by omega, by go_num, HF.out, HB1.out⟩
        case measure => simp [intOf]; omega
    · have HF : Hid (l.all (V.valid 1) = true) := Lib.hid (by
        rw [List.all_eq_true]
        intro x hx
        obtain ⟨j, hj, e⟩ := List.getElem_of_mem hx
        have := HZ.out j (by omega)
        rw [getD_of hj] at this
        rw [← e]; exact this)
      go_wp2
      go_ret2
      exact ⟨by rw [HF.out]; rfl, HB.out⟩

set_option maxRecDepth 100000 in
set_option maxHeartbeats 1600000 in
theorem check2_any (v : Value) (l : List V.Bs) (w : World) (hm : MaxOk w) (hv : Strs w v l) (hl : l.length ≤ maxLen) (hx : ∀ x ∈ l, x.length ≤ maxLen) :
    Calls Tryz.prog 135 #[.int .i64 2, v] w fun e w' =>
      CkPost 164 (l.all (V.valid 2)) e ∧ Below w.heap.size w w' := by
  obtain ⟨a, cap, rfl, hc⟩ := hv
  unfold maxLen at hl
  have HC := Lib.hid hc
  have HX := Lib.hid hx
  have HM := Lib.hid hm
  clear hc hx hm
  go_enter Tryz.func135, Tryz.ntmps135
  go_wp2_with fail
  refine (of2_any _).mono ?_
  rintro e w' ⟨rfl, rfl⟩
  go_wp2
  go_loopw [15] (fun i wr => ∃ k : Nat, k ≤ l.length ∧ i = .int .i64 k ∧ (∀ j, j < k → V.valid 2 (l.getD j []) = true) ∧ Below w.heap.size w wr) (fun i _ => l.length - (intOf i).toNat)
  case atStart => exact ⟨0, Nat.zero_le _, rfl, fun j hj => by omega, Below.refl _ _⟩
  case round =>
    obtain ⟨k, hk, rfl, hz, hB⟩ := hrel
    have HZ := Lib.hid hz
    have HB := Lib.hid hB
    clear hz hB
    by_cases hlt : k < l.length
    · obtain ⟨b, o, ha, hb, hcell⟩ := HC.out k hlt
      have hx1 := (HB.out.cell (p := ⟨b, o + k, none⟩) hb).trans hcell
      rw [← getD_of hlt] at hx1
      have s1 := HX.out _ (List.getElem_mem hlt)
      rw [← getD_of hlt] at s1
      have BAD : Hid (V.valid 2 (l.getD k []) = false → l.all (V.valid 2) = false) := Lib.hid (fun h => by
        rw [List.all_eq_false]
        exact ⟨l[k], List.getElem_mem hlt, by rw [← getD_of hlt, h]; simp⟩)
      have NEXT : Hid (V.valid 2 (l.getD k []) = true → ∀ j, j < k + 1 → V.valid 2 (l.getD j []) = true) := Lib.hid (fun h0 j hj => by
        by_cases e : j = k
        · subst e; exact h0
        · exact HZ.out j (by omega))
      subst ha
      clear hcell
      generalize l.getD k [] = x at *
      rcases hvx : V.valid 2 x with _ | _
      all_goals
        have HVX := Lib.hid hvx
        clear hvx
        go_wp2_with fail
        refine (valid2_any ⟨x.toArray⟩ _ (HM.out.below HB.out) s1).mono ?_
        rintro e w1 ⟨rfl, hb1⟩
        simp only [HVX.out]
        have HB1 := Lib.hid (HB.out.trans (hb1.mono HB.out.size))
        clear hb1
        go_wp2
      · have HF := Lib.hid (BAD.out HVX.out)
        go_ret2
        exact ⟨by rw [HF.out]; rfl, HB1.out⟩
      · have HF := Lib.hid (NEXT.out HVX.out)
        go_roundw
        case rel => exact ⟨k + 1, by omega, by go_num, HF.out, HB1.out⟩
        case measure => simp [intOf]; omega
    · have HF : Hid (l.all (V.valid 2) = true) := Lib.hid (by
        rw [List.all_eq_true]
        intro x hx
        obtain ⟨j, hj, e⟩ := List.getElem_of_mem hx
        have := HZ.out j (by omega)
        rw [getD_of hj] at this
        rw [← e]; exact this)
      go_wp2
      go_ret2
      exact ⟨by rw [HF.out]; rfl, HB.out⟩

set_option maxRecDepth 100000 in
set_option maxHeartbeats 1600000 in
theorem check3_any (v : Value) (l : List V.Bs) (w : World) (hm : MaxOk w) (hv : Strs w v l) (hl : l.length ≤ maxLen) (hx : ∀ x ∈ l, x.length ≤ maxLen) :
    Calls Tryz.prog 135 #[.int .i64 3, v] w fun e w' =>
      CkPost 165 (l.all (V.valid 3)) e ∧ Below w.heap.size w w' := by
  obtain ⟨a, cap, rfl, hc⟩ := hv
  unfold maxLen at hl
  have HC := Lib.hid hc
  have HX := Lib.hid hx
  have HM := Lib.hid hm
  clear hc hx hm
  go_enter Tryz.func135, Tryz.ntmps135
  go_wp2_with fail
  refine (of3_any _).mono ?_
  rintro e w' ⟨rfl, rfl⟩
  go_wp2
  go_loopw [15] (fun i wr => ∃ k : Nat, k ≤ l.length ∧ i = .int .i64 k ∧ (∀ j, j < k → V.valid 3 (l.getD j []) = true) ∧ Below w.heap.size w wr) (fun i _ => l.length - (intOf i).toNat)
  case atStart => exact ⟨0, Nat.zero_le _, rfl, fun j hj => by omega, Below.refl _ _⟩
  case round =>
    obtain ⟨k, hk, rfl, hz, hB⟩ := hrel
    have HZ := Lib.hid hz
    have HB := Lib.hid hB
    clear hz hB
    by_cases hlt : k < l.length
    · obtain ⟨b, o, ha, hb, hcell⟩ := HC.out k hlt
      have hx1 := (HB.out.cell (p := ⟨b, o + k, none⟩) hb).trans hcell
      rw [← getD_of hlt] at hx1
      have s1 := HX.out _ (List.getElem_mem hlt)
      rw [← getD_of hlt] at s1
      have BAD : Hid (V.valid 3 (l.getD k []) = false → l.all (V.valid 3) = false) := Lib.hid (fun h => by
        rw [List.all_eq_false]
        exact ⟨l[k], List.getElem_mem hlt, by rw [← getD_of hlt, h]; simp⟩)
      have NEXT : Hid (V.valid 3 (l.getD k []) = true → ∀ j, j < k + 1 → V.valid 3 (l.getD j []) = true) := Lib.hid (fun h0 j hj => by
        by_cases e : j = k
        · subst e; exact h0
        · exact HZ.out j (by omega))
      subst ha
      clear hcell
      generalize l.getD k [] = x at *
      rcases hvx : V.valid 3 x with _ | _
      all_goals
        have HVX := Lib.hid hvx
        clear hvx
        go_wp2_with fail
        refine (valid3_any ⟨x.toArray⟩ _ (HM.out.below HB.out) s1).mono ?_
        rintro e w1 ⟨rfl, hb1⟩
        simp only [HVX.out]
        have HB1 := Lib.hid (HB.out.trans (hb1.mono HB.out.size))
        clear hb1
        go_wp2
      · have HF := Lib.hid (BAD.out HVX.out)
        go_ret2
        exact ⟨by rw [HF.out]; rfl, HB1.out⟩
      · have HF := Lib.hid (NEXT.out HVX.out)
        go_roundw
        case rel => exact ⟨k + 1, by omega, by go_num, HF.out, HB1.out⟩
        case measure => simp [intOf]; omega
    · have HF : Hid (l.all (V.valid 3) = true) := Lib.hid (by
        rw [List.all_eq_true]
        intro x hx
        obtain ⟨j, hj, e⟩ := List.getElem_of_mem hx
        have := HZ.out j (by omega)
        rw [getD_of hj] at this
        rw [← e]; exact this)
      go_wp2
      go_ret2
      exact ⟨by rw [HF.out]; rfl, HB.out⟩

set_option maxRecDepth 100000 in
set_option maxHeartbeats 800000 in
theorem check0_any (n : Int) (h1 : n ≠ 1) (h2 : n ≠ 2) (h3 : n ≠ 3) (v : Value) (w : World) :
    Calls Tryz.prog 135 #[.int .i64 n, v] w fun e w' => e = .returned (.tuple #[.nilFunc, .int .i64 14]) ∧ w = w' := by
  go_enter Tryz.func135, Tryz.ntmps135
  go_wp2_with fail
  refine (of0_any n h1 h2 h3 _).mono ?_
  rintro e w' ⟨rfl, rfl⟩
  go_wp2
  go_ret2
  exact ⟨rfl, rfl⟩
end Go.Proofs.YtpjjkbdkgaehkaaGreatDoor
namespace Go.Proofs.YtpjjkbdkgaehkaaGreatDoor
open Go.RowKit

theorem two_strs (s t : ByteArray) (w : World) : Strs (w.alloc (.cells #[.string s, .string t] 9)) (.slice (some ⟨w.heap.size, 0, none⟩) 2 2) [s.data.toList, t.data.toList] := by
  have h := Strs.split w [s.data.toList, t.data.toList] 9
  have e : strCells [s.data.toList, t.data.toList] = #[.string s, .string t] := by
    unfold strCells; simp 
  rw [e] at h
  exact h

theorem two_le {s t : ByteArray} (hs : s.size ≤ maxLen) (ht : t.size ≤ maxLen) : ∀ x ∈ [s.data.toList, t.data.toList], x.length ≤ maxLen := by
  intro x hx
  simp at hx
  rcases hx with rfl | rfl
  · rw [Array.length_toList]; exact hs
  · rw [Array.length_toList]; exact ht

theorem valid_len {n : Int} {v : V.Bs} (h : V.valid n v = true) : v.length ≤ 64 := by
  unfold V.valid at h; simp at h; omega
theorem valid_sem {v : V.Bs} (h : V.valid 1 v = true) : (V.semParse v).isSome = true := by
  unfold V.valid V.schOk at h; simp at h; exact h.2
theorem valid_deb {v : V.Bs} (h : V.valid 2 v = true) : (V.debParse v).isSome = true := by
  unfold V.valid V.schOk at h; simp at h; exact h.2

set_option maxRecDepth 100000 in
set_option maxHeartbeats 1600000 in
theorem compare1_any (s t : ByteArray) (w : World) (hm : MaxOk w) (hs : s.size ≤ maxLen) (ht : t.size ≤ maxLen) :
    Calls Tryz.prog 102 #[.int .i64 1, .string s, .string t] w fun e w' =>
      e = .returned (.tuple #[.int .i64 (V.compareR 1 s.data.toList t.data.toList).1, .int .i64 (V.compareR 1 s.data.toList t.data.toList).2]) ∧ Below w.heap.size w w' := by
  have hS := two_strs s t w
  have hb0 : Below w.heap.size w (w.alloc (.cells #[.string s, .string t] 9)) := (Below.refl _ w).alloc (Nat.le_refl _) _
  have hm0 := hm.below hb0
  have HF : Hid (V.compareR 1 s.data.toList t.data.toList = if V.valid 1 s.data.toList && V.valid 1 t.data.toList then (V.cmpV 1 s.data.toList t.data.toList, 0) else (0, 1)) := rfl
  have HS := Lib.hid hS
  have HB0 := Lib.hid hb0
  clear hS hb0
  rcases hv : (V.valid 1 s.data.toList && V.valid 1 t.data.toList) with _ | _
  · rw [hv] at HF
    have HV : Hid ([s.data.toList, t.data.toList].all (V.valid 1) = false) := Lib.hid (by simpa using hv)
    have H1 := Lib.hid (show V.compareR 1 s.data.toList t.data.toList = (0, 1) from HF.out)
    clear hv HF
    go_enter Tryz.func102, Tryz.ntmps102
    go_wp2_with fail
    refine (check1_any _ _ _ hm0 HS.out (by show 2 ≤ _; unfold maxLen; omega) (two_le hs ht)).mono ?_
    rintro e w1 ⟨he, hb1⟩
    rw [HV.out] at he
    obtain rfl := he
    have HB1 := Lib.hid (HB0.out.trans (hb1.mono HB0.out.size))
    clear hb1
    go_wp2
    go_ret2
    exact ⟨by rw [H1.out]; rfl, HB1.out⟩
  · have HV : Hid ([s.data.toList, t.data.toList].all (V.valid 1) = true) := Lib.hid (by simpa using hv)
    rw [hv] at HF
    have H1 := Lib.hid (show V.compareR 1 s.data.toList t.data.toList = (V.cmpV 1 s.data.toList t.data.toList, 0) from HF.out)
    rw [Bool.and_eq_true] at hv
    have h64 := valid_len hv.1
    have h65 := valid_len hv.2
    rw [bs_size] at h64 h65
    have HSV := Lib.hid hv
    clear hv HF
    obtain ⟨⟨la, pa⟩, hpa⟩ := Option.isSome_iff_exists.1 (valid_sem HSV.out.1)
    obtain ⟨⟨lb, pb⟩, hpb⟩ := Option.isSome_iff_exists.1 (valid_sem HSV.out.2)
    have HCV : Hid (V.cmpV 1 s.data.toList t.data.toList = V.semCmp (la, pa) (lb, pb)) := Lib.hid (by unfold V.cmpV; rw [if_pos rfl, hpa, hpb])
    have HPA := Lib.hid hpa
    have HPB := Lib.hid hpb
    clear hpa hpb
    have hmeth := meth_cmp1
    go_enter Tryz.func102, Tryz.ntmps102
    go_wp2_with fail
    refine (check1_any _ _ _ hm0 HS.out (by show 2 ≤ _; unfold maxLen; omega) (two_le hs ht)).mono ?_
    rintro e w1 ⟨he, hb1⟩
    rw [HV.out] at he
    obtain rfl := he
    have hm1 := hm0.below hb1
    have HB1 := Lib.hid (HB0.out.trans (hb1.mono HB0.out.size))
    clear hb1
    go_wp2_with fail
    refine (semCompare_any s t la pa lb pb _ hm1 (by omega) (by omega) HPA.out HPB.out).mono ?_
    rintro e w2 ⟨rfl, hb2⟩
    have HB2 := Lib.hid (HB1.out.trans (hb2.mono HB1.out.size))
    clear hb2
    go_wp2
    go_ret2
    exact ⟨by rw [H1.out, HCV.out]; rfl, HB2.out⟩

set_option maxRecDepth 100000 in
set_option maxHeartbeats 1600000 in
theorem compare2_any (s t : ByteArray) (w : World) (hm : MaxOk w) (hs : s.size ≤ maxLen) (ht : t.size ≤ maxLen) :
    Calls Tryz.prog 102 #[.int .i64 2, .string s, .string t] w fun e w' =>
      e = .returned (.tuple #[.int .i64 (V.compareR 2 s.data.toList t.data.toList).1, .int .i64 (V.compareR 2 s.data.toList t.data.toList).2]) ∧ Below w.heap.size w w' := by
  have hS := two_strs s t w
  have hb0 : Below w.heap.size w (w.alloc (.cells #[.string s, .string t] 9)) := (Below.refl _ w).alloc (Nat.le_refl _) _
  have hm0 := hm.below hb0
  have HF : Hid (V.compareR 2 s.data.toList t.data.toList = if V.valid 2 s.data.toList && V.valid 2 t.data.toList then (V.cmpV 2 s.data.toList t.data.toList, 0) else (0, 1)) := rfl
  have HS := Lib.hid hS
  have HB0 := Lib.hid hb0
  clear hS hb0
  rcases hv : (V.valid 2 s.data.toList && V.valid 2 t.data.toList) with _ | _
  · rw [hv] at HF
    have HV : Hid ([s.data.toList, t.data.toList].all (V.valid 2) = false) := Lib.hid (by simpa using hv)
    have H1 := Lib.hid (show V.compareR 2 s.data.toList t.data.toList = (0, 1) from HF.out)
    clear hv HF
    go_enter Tryz.func102, Tryz.ntmps102
    go_wp2_with fail
    refine (check2_any _ _ _ hm0 HS.out (by show 2 ≤ _; unfold maxLen; omega) (two_le hs ht)).mono ?_
    rintro e w1 ⟨he, hb1⟩
    rw [HV.out] at he
    obtain rfl := he
    have HB1 := Lib.hid (HB0.out.trans (hb1.mono HB0.out.size))
    clear hb1
    go_wp2
    go_ret2
    exact ⟨by rw [H1.out]; rfl, HB1.out⟩
  · have HV : Hid ([s.data.toList, t.data.toList].all (V.valid 2) = true) := Lib.hid (by simpa using hv)
    rw [hv] at HF
    have H1 := Lib.hid (show V.compareR 2 s.data.toList t.data.toList = (V.cmpV 2 s.data.toList t.data.toList, 0) from HF.out)
    rw [Bool.and_eq_true] at hv
    have h64 := valid_len hv.1
    have h65 := valid_len hv.2
    rw [bs_size] at h64 h65
    have HSV := Lib.hid hv
    clear hv HF
    obtain ⟨⟨x0, x1, x2⟩, hpa⟩ := Option.isSome_iff_exists.1 (valid_deb HSV.out.1)
    obtain ⟨⟨y0, y1, y2⟩, hpb⟩ := Option.isSome_iff_exists.1 (valid_deb HSV.out.2)
    have HCV : Hid (V.cmpV 2 s.data.toList t.data.toList = V.debCmp (x0, x1, x2) (y0, y1, y2)) := Lib.hid (by unfold V.cmpV; rw [if_neg (by decide), if_pos rfl, hpa, hpb])
    have HPA := Lib.hid hpa
    have HPB := Lib.hid hpb
    clear hpa hpb
    have hmeth := meth_cmp2
    go_enter Tryz.func102, Tryz.ntmps102
    go_wp2_with fail
    refine (check2_any _ _ _ hm0 HS.out (by show 2 ≤ _; unfold maxLen; omega) (two_le hs ht)).mono ?_
    rintro e w1 ⟨he, hb1⟩
    rw [HV.out] at he
    obtain rfl := he
    have hm1 := hm0.below hb1
    have HB1 := Lib.hid (HB0.out.trans (hb1.mono HB0.out.size))
    clear hb1
    go_wp2_with fail
    refine (debCompare_any s t x0 x1 x2 y0 y1 y2 _ hm1 (by omega) (by omega) HPA.out HPB.out).mono ?_
    rintro e w2 ⟨rfl, hb2⟩
    have HB2 := Lib.hid (HB1.out.trans (hb2.mono HB1.out.size))
    clear hb2
    go_wp2
    go_ret2
    exact ⟨by rw [H1.out, HCV.out]; rfl, HB2.out⟩

set_option maxRecDepth 100000 in
set_option maxHeartbeats 1600000 in
theorem compare3_any (s t : ByteArray) (w : World) (hm : MaxOk w) (hs : s.size ≤ maxLen) (ht : t.size ≤ maxLen) :
    Calls Tryz.prog 102 #[.int .i64 3, .string s, .string t] w fun e w' =>
      e = .returned (.tuple #[.int .i64 (V.compareR 3 s.data.toList t.data.toList).1, .int .i64 (V.compareR 3 s.data.toList t.data.toList).2]) ∧ Below w.heap.size w w' := by
  have hS := two_strs s t w
  have hb0 : Below w.heap.size w (w.alloc (.cells #[.string s, .string t] 9)) := (Below.refl _ w).alloc (Nat.le_refl _) _
  have hm0 := hm.below hb0
  have HF : Hid (V.compareR 3 s.data.toList t.data.toList = if V.valid 3 s.data.toList && V.valid 3 t.data.toList then (V.cmpV 3 s.data.toList t.data.toList, 0) else (0, 1)) := rfl
  have HS := Lib.hid hS
  have HB0 := Lib.hid hb0
  clear hS hb0
  rcases hv : (V.valid 3 s.data.toList && V.valid 3 t.data.toList) with _ | _
  · rw [hv] at HF
    have HV : Hid ([s.data.toList, t.data.toList].all (V.valid 3) = false) := Lib.hid (by simpa using hv)
    have H1 := Lib.hid (show V.compareR 3 s.data.toList t.data.toList = (0, 1) from HF.out)
    clear hv HF
    go_enter Tryz.func102, Tryz.ntmps102
    go_wp2_with fail
    refine (check3_any _ _ _ hm0 HS.out (by show 2 ≤ _; unfold maxLen; omega) (two_le hs ht)).mono ?_
    rintro e w1 ⟨he, hb1⟩
    rw [HV.out] at he
    obtain rfl := he
    have HB1 := Lib.hid (HB0.out.trans (hb1.mono HB0.out.size))
    clear hb1
    go_wp2
    go_ret2
    exact ⟨by rw [H1.out]; rfl, HB1.out⟩
  · have HV : Hid ([s.data.toList, t.data.toList].all (V.valid 3) = true) := Lib.hid (by simpa using hv)
    rw [hv] at HF
    have H1 := Lib.hid (show V.compareR 3 s.data.toList t.data.toList = (V.cmpV 3 s.data.toList t.data.toList, 0) from HF.out)
    rw [Bool.and_eq_true] at hv
    have h64 := valid_len hv.1
    have h65 := valid_len hv.2
    rw [bs_size] at h64 h65
    have HSV := Lib.hid hv
    clear hv HF
    have HCV : Hid (V.cmpV 3 s.data.toList t.data.toList = V.dotCmp s.data.toList t.data.toList) := Lib.hid (by unfold V.cmpV; rw [if_neg (by decide), if_neg (by decide)])
    have hmeth := meth_cmp3
    go_enter Tryz.func102, Tryz.ntmps102
    go_wp2_with fail
    refine (check3_any _ _ _ hm0 HS.out (by show 2 ≤ _; unfold maxLen; omega) (two_le hs ht)).mono ?_
    rintro e w1 ⟨he, hb1⟩
    rw [HV.out] at he
    obtain rfl := he
    have hm1 := hm0.below hb1
    have HB1 := Lib.hid (HB0.out.trans (hb1.mono HB0.out.size))
    clear hb1
    go_wp2_with fail
    refine (dotCompare_any s t _ hm1 (by omega) (by omega)).mono ?_
    rintro e w2 ⟨rfl, hb2⟩
    have HB2 := Lib.hid (HB1.out.trans (hb2.mono HB1.out.size))
    clear hb2
    go_wp2
    go_ret2
    exact ⟨by rw [H1.out, HCV.out]; rfl, HB2.out⟩

set_option maxRecDepth 100000 in
set_option maxHeartbeats 800000 in
theorem compare0_any (n : Int) (h1 : n ≠ 1) (h2 : n ≠ 2) (h3 : n ≠ 3) (s t : ByteArray) (w : World) :
    Calls Tryz.prog 102 #[.int .i64 n, .string s, .string t] w fun e w' =>
      e = .returned (.tuple #[.int .i64 (V.compareR n s.data.toList t.data.toList).1, .int .i64 (V.compareR n s.data.toList t.data.toList).2]) ∧ Below w.heap.size w w' := by
  have HF : Hid (V.compareR n s.data.toList t.data.toList = (0, 14)) := Lib.hid (by unfold V.compareR V.scheme; simp [h1, h2, h3])
  go_enter Tryz.func102, Tryz.ntmps102
  go_wp2_with fail
  refine (check0_any n h1 h2 h3 _ _).mono ?_
  rintro e w' ⟨rfl, rfl⟩
  go_wp2
  go_ret2
  exact ⟨by rw [HF.out]; rfl, (Below.refl _ _).alloc (Nat.le_refl _) _⟩

theorem compare_any (n : Int) (s t : ByteArray) (w : World) (hm : MaxOk w) (hs : s.size ≤ maxLen) (ht : t.size ≤ maxLen) :
    Calls Tryz.prog 102 #[.int .i64 n, .string s, .string t] w fun e w' =>
      e = .returned (.tuple #[.int .i64 (V.compareR n s.data.toList t.data.toList).1, .int .i64 (V.compareR n s.data.toList t.data.toList).2]) ∧ Below w.heap.size w w' := by
  by_cases h1 : n = 1
  · subst h1; exact compare1_any s t w hm hs ht
  · by_cases h2 : n = 2
    · subst h2; exact compare2_any s t w hm hs ht
    · by_cases h3 : n = 3
      · subst h3; exact compare3_any s t w hm hs ht
      · exact compare0_any n h1 h2 h3 s t w
end Go.Proofs.YtpjjkbdkgaehkaaGreatDoor
namespace Go.Proofs.YtpjjkbdkgaehkaaGreatDoor
open Go.RowKit

theorem compare_at (n : Int) (s t : ByteArray) (c k : Int) (h : V.compareR n s.data.toList t.data.toList = (c, k)) (w : World) (hm : MaxOk w) (hs : s.size ≤ maxLen) (ht : t.size ≤ maxLen) :
    Calls Tryz.prog 102 #[.int .i64 n, .string s, .string t] w fun e w' => e = .returned (.tuple #[.int .i64 c, .int .i64 k]) ∧ Below w.heap.size w w' := by
  have := compare_any n s t w hm hs ht
  rw [h] at this
  exact this

end Go.Proofs.YtpjjkbdkgaehkaaGreatDoor
namespace Go.Proofs.YtpjjkbdkgaehkaaGreatDoor
open Go.RowKit

/-- two versions of a scheme compared -/
theorem compare_ok (n : Int) (x y : V.Bs) (c : Int) (w : World) (hm : MaxOk w) (hn : V.scheme n = true) (hx : V.valid n x = true) (hy : V.valid n y = true) (hc : V.cmpV n x y = c) :
    Calls Tryz.prog 102 #[.int .i64 n, .string ⟨x.toArray⟩, .string ⟨y.toArray⟩] w fun e w' => e = .returned (.tuple #[.int .i64 c, .int .i64 0]) ∧ Below w.heap.size w w' := by
  have l1 := V.valid_short hx
  have l2 := V.valid_short hy
  refine compare_at n ⟨x.toArray⟩ ⟨y.toArray⟩ c 0 ?_ w hm (by show x.length ≤ _; unfold maxLen; omega) (by show y.length ≤ _; unfold maxLen; omega)
  simp only 
  unfold V.compareR
  rw [hn, hx, hy]
  simp only [Bool.not_true, Bool.false_eq_true, if_false, Bool.and_self, if_true, hc]

theorem cmpV_rng {n : Int} (hn : V.scheme n = true) {a b : V.Bs} (ha : V.valid n a = true) (hb : V.valid n b = true) : V.cmpV n a b = -1 ∨ V.cmpV n a b = 0 ∨ V.cmpV n a b = 1 := by
  rw [← V.key_law hn ha hb]
  exact V.cb_rng _ _

end Go.Proofs.YtpjjkbdkgaehkaaGreatDoor
