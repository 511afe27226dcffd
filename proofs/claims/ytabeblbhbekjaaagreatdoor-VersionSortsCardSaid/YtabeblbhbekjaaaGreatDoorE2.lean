/-
  Walks: the check ahead of every comparison.
-/
import Derived.Test.YtabeblbhbekjaaaGreatDoorE1
namespace Go.Proofs.YtabeblbhbekjaaaGreatDoor
open Go.RowKit

def CkPost (T : Nat) (ok : Bool) (e : Ending) : Prop :=
  e = .returned (if ok then .tuple #[.func (.method "admission/version.compare") #[.iface T (.agg #[])] #[], .int .i64 0] else .tuple #[.nilFunc, .int .i64 1])

set_option maxRecDepth 100000 in
set_option maxHeartbeats 1600000 in
theorem check1_any (v : Value) (l : List V.Bs) (w : World) (hm : MaxOk w) (hv : Strs w v l) (hl : l.length ≤ maxLen) (hx : ∀ x ∈ l, x.length ≤ maxLen) :
    Calls Tryz.prog 20 #[.int .i64 1, v] w fun e w' =>
      CkPost 63 (l.all (V.valid 1)) e ∧ Below w.heap.size w w' := by
  obtain ⟨a, cap, rfl, hc⟩ := hv
  unfold maxLen at hl
  have HC := Lib.hid hc
  have HX := Lib.hid hx
  have HM := Lib.hid hm
  clear hc hx hm
  go_enter Tryz.func20, Tryz.ntmps20
  go_wp2_with fail
  refine (of1_any _).mono ?_
  rintro e w' ⟨rfl, rfl⟩
  go_wp2
  go_loopw [15] (fun i wr => ∃ k : Nat, k ≤ l.length ∧ i = .int .i64 k ∧ (∀ j, j < k → V.valid 1 (l.getD j []) = true) ∧ Below w.heap.size w wr) (fun i _ => l.length - (intOf i).toNat)
  case atStart => exact ⟨0, Nat.zero_le _, rfl, fun j hj => by omega, Below.refl _ _⟩
  case round =>
    obtain ⟨k, hk, rfl, hz, hB⟩ := hrel
    have HZ := Lib.hid hz
    have HB := Lib.hid hB
    clear hz hB
    by_cases hlt : k < l.length
    · obtain ⟨b, o, ha, hb, hcell⟩ := HC.out k hlt
      have hx1 := (HB.out.cell (p := ⟨b, o + k, none⟩) hb).trans hcell
      rw [← getD_of hlt] at hx1
      have s1 := HX.out _ (List.getElem_mem hlt)
      rw [← getD_of hlt] at s1
      have BAD : Hid (V.valid 1 (l.getD k []) = false → l.all (V.valid 1) = false) := Lib.hid (fun h => by
        rw [List.all_eq_false]
        exact ⟨l[k], List.getElem_mem hlt, by rw [← getD_of hlt, h]; simp⟩)
      have NEXT : Hid (V.valid 1 (l.getD k []) = true → ∀ j, j < k + 1 → V.valid 1 (l.getD j []) = true) := Lib.hid (fun h0 j hj => by
        by_cases e : j = k
        · subst e; exact h0
        · exact HZ.out j (by omega))
      subst ha
      clear hcell
      generalize l.getD k [] = x at *
      rcases hvx : V.valid 1 x with _ | _
      all_goals
        have HVX := Lib.hid hvx
        clear hvx
        go_wp2_with fail
        refine (valid1_any ⟨x.toArray⟩ _ (HM.out.below HB.out) s1).mono ?_
        rintro e w1 ⟨rfl, hb1⟩
        simp only [arr_list, HVX.out]
        have HB1 := Lib.hid (HB.out.trans (hb1.mono HB.out.size))
        clear hb1
        go_wp2
      · have HF := Lib.hid (BAD.out HVX.out)
        go_ret2
        exact ⟨by rw [HF.out]; rfl, HB1.out⟩
      · have HF := Lib.hid (NEXT.out HVX.out)
        go_roundw
        case rel => exact ⟨k + 1, by omega, by go_num, HF.out, HB1.out⟩
        case measure => simp [intOf]; omega
    · have HF : Hid (l.all (V.valid 1) = true) := Lib.hid (by
        rw [List.all_eq_true]
        intro x hx
        obtain ⟨j, hj, e⟩ := List.getElem_of_mem hx
        have := HZ.out j (by omega)
        rw [getD_of hj] at this
        rw [← e]; exact this)
      go_wp2
      go_ret2
      exact ⟨by rw [HF.out]; rfl, HB.out⟩

set_option maxRecDepth 100000 in
set_option maxHeartbeats 1600000 in
theorem check2_any (v : Value) (l : List V.Bs) (w : World) (hm : MaxOk w) (hv : Strs w v l) (hl : l.length ≤ maxLen) (hx : ∀ x ∈ l, x.length ≤ maxLen) :
    Calls Tryz.prog 20 #[.int .i64 2, v] w fun e w' =>
      CkPost 64 (l.all (V.valid 2)) e ∧ Below w.heap.size w w' := by
  obtain ⟨a, cap, rfl, hc⟩ := hv
  unfold maxLen at hl
  have HC := Lib.hid hc
  have HX := Lib.hid hx
  have HM := Lib.hid hm
  clear hc hx hm
  go_enter Tryz.func20, Tryz.ntmps20
  go_wp2_with fail
  refine (of2_any _).mono ?_
  rintro e w' ⟨rfl, rfl⟩
  go_wp2
  go_loopw [15] (fun i wr => ∃ k : Nat, k ≤ l.length ∧ i = .int .i64 k ∧ (∀ j, j < k → V.valid 2 (l.getD j []) = true) ∧ Below w.heap.size w wr) (fun i _ => l.length - (intOf i).toNat)
  case atStart => exact ⟨0, Nat.zero_le _, rfl, fun j hj => by omega, Below.refl _ _⟩
  case round =>
    obtain ⟨k, hk, rfl, hz, hB⟩ := hrel
    have HZ := Lib.hid hz
    have HB := Lib.hid hB
    clear hz hB
    by_cases hlt : k < l.length
    · obtain ⟨b, o, ha, hb, hcell⟩ := HC.out k hlt
      have hx1 := (HB.out.cell (p := ⟨b, o + k, none⟩) hb).trans hcell
      rw [← getD_of hlt] at hx1
      have s1 := HX.out _ (List.getElem_mem hlt)
      rw [← getD_of hlt] at s1
      have BAD : Hid (V.valid 2 (l.getD k []) = false → l.all (V.valid 2) = false) := Lib.hid (fun h => by
        rw [List.all_eq_false]
        exact ⟨l[k], List.getElem_mem hlt, by rw [← getD_of hlt, h]; simp⟩)
      have NEXT : Hid (V.valid 2 (l.getD k []) = true → ∀ j, j < k + 1 → V.valid 2 (l.getD j []) = true) := Lib.hid (fun h0 j hj => by
        by_cases e : j = k
        · subst e; exact h0
        · exact HZ.out j (by omega))
      subst ha
      clear hcell
      generalize l.getD k [] = x at *
      rcases hvx : V.valid 2 x with _ | _
      all_goals
        have HVX := Lib.hid hvx
        clear hvx
        go_wp2_with fail
        refine (valid2_any ⟨x.toArray⟩ _ (HM.out.below HB.out) s1).mono ?_
        rintro e w1 ⟨rfl, hb1⟩
        simp only [arr_list, HVX.out]
        have HB1 := Lib.hid (HB.out.trans (hb1.mono HB.out.size))
        clear hb1
        go_wp2
      · have HF := Lib.hid (BAD.out HVX.out)
        go_ret2
        exact ⟨by rw [HF.out]; rfl, HB1.out⟩
      · have HF := Lib.hid (NEXT.out HVX.out)
        go_roundw
        case rel => exact ⟨k + 1, by omega, by go_num, HF.out, HB1.out⟩
        case measure => simp [intOf]; omega
    · have HF : Hid (l.all (V.valid 2) = true) := Lib.hid (by
        rw [List.all_eq_true]
        intro x hx
        obtain ⟨j, hj, e⟩ := List.getElem_of_mem hx
        have := HZ.out j (by omega)
        rw [getD_of hj] at this
        rw [← e]; exact this)
      go_wp2
      go_ret2
      exact ⟨by rw [HF.out]; rfl, HB.out⟩

set_option maxRecDepth 100000 in
set_option maxHeartbeats 1600000 in
theorem check3_any (v : Value) (l : List V.Bs) (w : World) (hm : MaxOk w) (hv : Strs w v l) (hl : l.length ≤ maxLen) (hx : ∀ x ∈ l, x.length ≤ maxLen) :
    Calls Tryz.prog 20 #[.int .i64 3, v] w fun e w' =>
      CkPost 65 (l.all (V.valid 3)) e ∧ Below w.heap.size w w' := by
  obtain ⟨a, cap, rfl, hc⟩ := hv
  unfold maxLen at hl
  have HC := Lib.hid hc
  have HX := Lib.hid hx
  have HM := Lib.hid hm
  clear hc hx hm
  go_enter Tryz.func20, Tryz.ntmps20
  go_wp2_with fail
  refine (of3_any _).mono ?_
  rintro e w' ⟨rfl, rfl⟩
  go_wp2
  go_loopw [15] (fun i wr => ∃ k : Nat, k ≤ l.length ∧ i = .int .i64 k ∧ (∀ j, j < k → V.valid 3 (l.getD j []) = true) ∧ Below w.heap.size w wr) (fun i _ => l.length - (intOf i).toNat)
  case atStart => exact ⟨0, Nat.zero_le _, rfl, fun j hj => by omega, Below.refl _ _⟩
  case round =>
    obtain ⟨k, hk, rfl, hz, hB⟩ := hrel
    have HZ := Lib.hid hz
    have HB := Lib.hid hB
    clear hz hB
    by_cases hlt : k < l.length
    · obtain ⟨b, o, ha, hb, hcell⟩ := HC.out k hlt
      have hx1 := (HB.out.cell (p := ⟨b, o + k, none⟩) hb).trans hcell
      rw [← getD_of hlt] at hx1
      have s1 := HX.out _ (List.getElem_mem hlt)
      rw [← getD_of hlt] at s1
      have BAD : Hid (V.valid 3 (l.getD k []) = false → l.all (V.valid 3) = false) := Lib.hid (fun h => by
        rw [List.all_eq_false]
        exact ⟨l[k], List.getElem_mem hlt, by rw [← getD_of hlt, h]; simp⟩)
      have NEXT : Hid (V.valid 3 (l.getD k []) = true → ∀ j, j < k + 1 → V.valid 3 (l.getD j []) = true) := Lib.hid (fun h0 j hj => by
        by_cases e : j = k
        · subst e; exact h0
        · exact HZ.out j (by omega))
      subst ha
      clear hcell
      generalize l.getD k [] = x at *
      rcases hvx : V.valid 3 x with _ | _
      all_goals
        have HVX := Lib.hid hvx
        clear hvx
        go_wp2_with fail
        refine (valid3_any ⟨x.toArray⟩ _ (HM.out.below HB.out) s1).mono ?_
        rintro e w1 ⟨rfl, hb1⟩
        simp only [arr_list, HVX.out]
        have HB1 := Lib.hid (HB.out.trans (hb1.mono HB.out.size))
        clear hb1
        go_wp2
      · have HF := Lib.hid (BAD.out HVX.out)
        go_ret2
        exact ⟨by rw [HF.out]; rfl, HB1.out⟩
      · have HF := Lib.hid (NEXT.out HVX.out)
        go_roundw
        case rel => exact ⟨k + 1, by omega, by go_num, HF.out, HB1.out⟩
        case measure => simp [intOf]; omega
    · have HF : Hid (l.all (V.valid 3) = true) := Lib.hid (by
        rw [List.all_eq_true]
        intro x hx
        obtain ⟨j, hj, e⟩ := List.getElem_of_mem hx
        have := HZ.out j (by omega)
        rw [getD_of hj] at this
        rw [← e]; exact this)
      go_wp2
      go_ret2
      exact ⟨by rw [HF.out]; rfl, HB.out⟩

set_option maxRecDepth 100000 in
set_option maxHeartbeats 800000 in
theorem check0_any (n : Int) (h1 : n ≠ 1) (h2 : n ≠ 2) (h3 : n ≠ 3) (v : Value) (w : World) :
    Calls Tryz.prog 20 #[.int .i64 n, v] w fun e w' => e = .returned (.tuple #[.nilFunc, .int .i64 14]) ∧ w = w' := by
  go_enter Tryz.func20, Tryz.ntmps20
  go_wp2_with fail
  refine (of0_any n h1 h2 h3 _).mono ?_
  rintro e w' ⟨rfl, rfl⟩
  go_wp2
  go_ret2
  exact ⟨rfl, rfl⟩
end Go.Proofs.YtabeblbhbekjaaaGreatDoor
