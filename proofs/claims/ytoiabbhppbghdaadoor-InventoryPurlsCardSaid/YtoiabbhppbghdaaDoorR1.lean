/-
  Walks: the reference of layer 6, bytes and numbers.
-/
import Derived.Test.YtoiabbhppbghdaaDoorV7
namespace Go.Proofs.YtoiabbhppbghdaaDoor
open Go.RowKit

set_option maxHeartbeats 400000 in
theorem rdigit_any (n : Int) (w : World) :
    Calls Tryd.prog 69 #[.int .u8 n] w fun e w' => e = .returned (.bool (V.digB n)) ∧ w = w' := by
  go_enter Tryd.func69, Tryd.ntmps69
  go_wp2
  all_goals go_ret
  all_goals exact ⟨ret_bool (by unfold V.digB; simp_all; try omega), rfl⟩

set_option maxHeartbeats 400000 in
theorem rletter_any (n : Int) (w : World) :
    Calls Tryd.prog 75 #[.int .u8 n] w fun e w' => e = .returned (.bool (V.letB n)) ∧ w = w' := by
  go_enter Tryd.func75, Tryd.ntmps75
  go_wp2
  all_goals go_ret
  all_goals exact ⟨ret_bool (by unfold V.letB; simp_all; try omega), rfl⟩

theorem at_list {s : ByteArray} {k : Nat} (hlt : k < s.size) : s.data.toList[k]'(by rw [bs_size]; exact hlt) = s[k] := by simp; rfl

set_option maxRecDepth 100000 in
set_option maxHeartbeats 400000 in
theorem rdigits_any (s : ByteArray) (w : World) (hs : s.size ≤ maxLen) :
    Calls Tryd.prog 63 #[.string s] w fun e w' => e = .returned (.bool (V.digits s.data.toList)) ∧ w = w' := by
  unfold maxLen at hs
  go_enter Tryd.func63, Tryd.ntmps63
  go_wp2
  go_loop [3] (fun i => ∃ k : Nat, k ≤ s.size ∧ i = .int .i64 k ∧ (s.data.toList.take k).all V.dig = true) (fun i => s.size - (intOf i).toNat)
  case atStart => exact ⟨0, Nat.zero_le _, rfl, rfl⟩
  case round =>
    obtain ⟨k, hk, rfl, hp⟩ := hrel
    have HP := Lib.hid hp
    clear hp
    by_cases hlt : k < s.size
    · have hl : k < s.data.toList.length := by rw [bs_size]; exact hlt
      have HT := Lib.hid (V.all_take (p := V.dig) hl)
      have HE := Lib.hid (at_list hlt)
      rcases hpc : V.digB s[k].toNat with _ | _
      all_goals
        have HPC := Lib.hid hpc
        clear hpc
        go_wp2_with fail
        refine (rdigit_any _ _).mono ?_
        rintro e w' ⟨rfl, rfl⟩
        simp only [HPC.out]
        go_wp2
      · go_ret
        exact ⟨ret_bool (V.only_no (k := k) (by rw [bs_size]; exact hlt) (by rw [HE.out]; exact HPC.out)).symm, rfl⟩
      · go_round
        case rel => exact ⟨k + 1, by omega, by go_num, by rw [HT.out, HP.out, HE.out]; exact HPC.out⟩
        case measure => simp [intOf]; omega
    · have ht : (s.data.toList.take k) = s.data.toList := List.take_of_length_le (by rw [bs_size]; omega)
      rw [ht] at HP
      have HQ : Hid (V.digits s.data.toList = !s.data.toList.isEmpty) := Lib.hid (by unfold V.digits V.only; rw [HP.out]; rfl)
      clear ht
      go_wp2
      go_ret
      exact ⟨ret_bool (by rw [HQ.out, Lib.toList_data]), rfl⟩

theorem extract_one {s : ByteArray} {k : Nat} (h : k < s.size) : s.extract k (k + 1) = ⟨#[s[k]]⟩ := by
  apply bs_ext
  rw [Lib.extract_data]
  have hl : k < s.data.toList.length := by rw [bs_size]; exact h
  rw [List.drop_eq_getElem_cons hl, at_list h]
  simp

set_option maxRecDepth 100000 in
set_option maxHeartbeats 800000 in
theorem rmade_any (s o : ByteArray) (w : World) (hs : s.size ≤ maxLen) :
    Calls Tryd.prog 67 #[.string s, .string o] w fun e w' => e = .returned (.bool (V.only (V.kind o.data.toList) s.data.toList)) ∧ w = w' := by
  unfold maxLen at hs
  go_enter Tryd.func67, Tryd.ntmps67
  go_wp2
  go_loop [5] (fun i => ∃ k : Nat, k ≤ s.size ∧ i = .int .i64 k ∧ (s.data.toList.take k).all (V.kind o.data.toList) = true) (fun i => s.size - (intOf i).toNat)
  case atStart => exact ⟨0, Nat.zero_le _, rfl, rfl⟩
  case round =>
    obtain ⟨k, hk, rfl, hp⟩ := hrel
    have HP := Lib.hid hp
    clear hp
    by_cases hlt : k < s.size
    · have hl : k < s.data.toList.length := by rw [bs_size]; exact hlt
      have HT := Lib.hid (V.all_take (p := V.kind o.data.toList) hl)
      have HE := Lib.hid (at_list hlt)
      have HX := Lib.hid (extract_one hlt)
      have HK : Hid (V.kind o.data.toList s[k] = (V.letB s[k].toNat || V.digB s[k].toNat || decide (s[k] ∈ o.data.toList))) := rfl
      rcases hL : V.letB s[k].toNat with _ | _
      · have HL := Lib.hid hL
        rcases hD : V.digB s[k].toNat with _ | _
        · have HD := Lib.hid hD
          rcases hM : decide (s[k] ∈ o.data.toList) with _ | _
          all_goals
            have HM := Lib.hid hM
            rw [hL, hD, hM] at HK
            clear hL hD hM
            go_wp2_with fail
            refine (rletter_any _ _).mono ?_
            rintro e w' ⟨rfl, rfl⟩
            simp only [HL.out]
            go_wp2_with fail
            refine (rdigit_any _ _).mono ?_
            rintro e w' ⟨rfl, rfl⟩
            simp only [HD.out]
            go_wp2_with fail
            rw [HX.out]
            refine (Tryd.strings_Contains_one _ _ _).mono ?_
            rintro e w' ⟨rfl, rfl⟩
            rw [V.indexByte_mem, HM.out]
            go_wp2
          · go_ret
            exact ⟨ret_bool (V.only_no (k := k) (by rw [bs_size]; exact hlt) (by rw [HE.out]; exact HK.out)).symm, rfl⟩
          · go_round
            case rel => exact ⟨k + 1, by omega, by go_num, by rw [HT.out, HP.out, HE.out, HK.out]; rfl⟩
            case measure => simp [intOf]; omega
        · have HD := Lib.hid hD
          rw [hL, hD] at HK
          clear hL hD
          go_wp2_with fail
          refine (rletter_any _ _).mono ?_
          rintro e w' ⟨rfl, rfl⟩
          simp only [HL.out]
          go_wp2_with fail
          refine (rdigit_any _ _).mono ?_
          rintro e w' ⟨rfl, rfl⟩
          simp only [HD.out]
          go_wp2
          go_round
          case rel => exact ⟨k + 1, by omega, by go_num, by rw [HT.out, HP.out, HE.out, HK.out]; rfl⟩
          case measure => simp [intOf]; omega
      · have HL := Lib.hid hL
        rw [hL] at HK
        clear hL
        go_wp2_with fail
        refine (rletter_any _ _).mono ?_
        rintro e w' ⟨rfl, rfl⟩
        simp only [HL.out]
        go_wp2
        go_round
        case rel => exact ⟨k + 1, by omega, by go_num, by rw [HT.out, HP.out, HE.out, HK.out]; rfl⟩
        case measure => simp [intOf]; omega
    · have ht : (s.data.toList.take k) = s.data.toList := List.take_of_length_le (by rw [bs_size]; omega)
      rw [ht] at HP
      have HQ : Hid (V.only (V.kind o.data.toList) s.data.toList = !s.data.toList.isEmpty) := Lib.hid (by unfold V.only; rw [HP.out]; rfl)
      clear ht
      go_wp2
      go_ret
      exact ⟨ret_bool (by rw [HQ.out, Lib.toList_data]), rfl⟩

end Go.Proofs.YtoiabbhppbghdaaDoor
