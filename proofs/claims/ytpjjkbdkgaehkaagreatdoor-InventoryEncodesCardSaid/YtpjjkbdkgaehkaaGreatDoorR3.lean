/-
  Walks: the reference of layer 6, bytes and numbers.
  Walks: the reference of layer 6, numbers and identifiers compared.
  Walk: reference06.sign.
  Walks: the reference of layer 6, numbers without superfluous zeros.
-/
import Derived.Test.YtpjjkbdkgaehkaaGreatDoorV6
import Derived.Test.YtpjjkbdkgaehkaaGreatDoorSL
namespace Go.Proofs.YtpjjkbdkgaehkaaGreatDoor
open Go.RowKit

set_option maxHeartbeats 400000 in
theorem rdigit_any (n : Int) (w : World) :
    Calls Tryz.prog 126 #[.int .u8 n] w fun e w' => e = .returned (.bool (V.digB n)) ∧ w = w' := by
  go_enter Tryz.func126, Tryz.ntmps126
  go_wp2
  all_goals go_ret
  all_goals exact ⟨ret_bool (by unfold V.digB; simp_all; try omega), rfl⟩

set_option maxHeartbeats 400000 in
theorem rletter_any (n : Int) (w : World) :
    Calls Tryz.prog 155 #[.int .u8 n] w fun e w' => e = .returned (.bool (V.letB n)) ∧ w = w' := by
  go_enter Tryz.func155, Tryz.ntmps155
  go_wp2
  all_goals go_ret
  all_goals exact ⟨ret_bool (by unfold V.letB; simp_all; try omega), rfl⟩

theorem at_list {s : ByteArray} {k : Nat} (hlt : k < s.size) : s.data.toList[k]'(by rw [bs_size]; exact hlt) = s[k] := by simp; rfl

set_option maxRecDepth 100000 in
set_option maxHeartbeats 400000 in
theorem rdigits_any (s : ByteArray) (w : World) (hs : s.size ≤ maxLen) :
    Calls Tryz.prog 94 #[.string s] w fun e w' => e = .returned (.bool (V.digits s.data.toList)) ∧ w = w' := by
  unfold maxLen at hs
  go_enter Tryz.func94, Tryz.ntmps94
  go_wp2
  go_loop [3] (fun i => ∃ k : Nat, k ≤ s.size ∧ i = .int .i64 k ∧ (s.data.toList.take k).all V.dig = true) (fun i => s.size - (intOf i).toNat)
  case atStart => exact ⟨0, Nat.zero_le _, rfl, rfl⟩
  case round =>
    obtain ⟨k, hk, rfl, hp⟩ := hrel
    have HP := Lib.hid hp
    clear hp
    by_cases hlt : k < s.size
    · have hl : k < s.data.toList.length := by rw [bs_size]; exact hlt
      have HT := Lib.hid (V.all_take (p := V.dig) hl)
      have HE := Lib.hid (at_list hlt)
      rcases hpc : V.digB s[k].toNat with _ | _
      all_goals
        have HPC := Lib.hid hpc
        clear hpc
        go_wp2_with fail
        refine (rdigit_any _ _).mono ?_
        rintro e w' ⟨rfl, rfl⟩
        simp only [HPC.out]
        go_wp2
      · go_ret
        exact ⟨ret_bool (V.only_no (k := k) (by rw [bs_size]; exact hlt) (by rw [HE.out]; exact HPC.out)).symm, rfl⟩
      · go_round
        case rel => exact ⟨k + 1, by omega, by go_num, by rw [HT.out, HP.out, HE.out]; exact HPC.out⟩
        case measure => simp [intOf]; omega
    · have ht : (s.data.toList.take k) = s.data.toList := List.take_of_length_le (by rw [bs_size]; omega)
      rw [ht] at HP
      have HQ : Hid (V.digits s.data.toList = !s.data.toList.isEmpty) := Lib.hid (by unfold V.digits V.only; rw [HP.out]; rfl)
      clear ht
      go_wp2
      go_ret
      exact ⟨ret_bool (by rw [HQ.out, Lib.toList_data]), rfl⟩

theorem extract_one {s : ByteArray} {k : Nat} (h : k < s.size) : s.extract k (k + 1) = ⟨#[s[k]]⟩ := by
  apply bs_ext
  rw [Lib.extract_data]
  have hl : k < s.data.toList.length := by rw [bs_size]; exact h
  rw [List.drop_eq_getElem_cons hl, at_list h]
  simp

set_option maxRecDepth 100000 in
set_option maxHeartbeats 800000 in
theorem rmade_any (s o : ByteArray) (w : World) (hs : s.size ≤ maxLen) :
    Calls Tryz.prog 123 #[.string s, .string o] w fun e w' => e = .returned (.bool (V.only (V.kind o.data.toList) s.data.toList)) ∧ w = w' := by
  unfold maxLen at hs
  go_enter Tryz.func123, Tryz.ntmps123
  go_wp2
  go_loop [5] (fun i => ∃ k : Nat, k ≤ s.size ∧ i = .int .i64 k ∧ (s.data.toList.take k).all (V.kind o.data.toList) = true) (fun i => s.size - (intOf i).toNat)
  case atStart => exact ⟨0, Nat.zero_le _, rfl, rfl⟩
  case round =>
    obtain ⟨k, hk, rfl, hp⟩ := hrel
    have HP := Lib.hid hp
    clear hp
    by_cases hlt : k < s.size
    · have hl : k < s.data.toList.length := by rw [bs_size]; exact hlt
      have HT := Lib.hid (V.all_take (p := V.kind o.data.toList) hl)
      have HE := Lib.hid (at_list hlt)
      have HX := Lib.hid (extract_one hlt)
      have HK : Hid (V.kind o.data.toList s[k] = (V.letB s[k].toNat || V.digB s[k].toNat || decide (s[k] ∈ o.data.toList))) := rfl
      rcases hL : V.letB s[k].toNat with _ | _
      · have HL := Lib.hid hL
        rcases hD : V.digB s[k].toNat with _ | _
        · have HD := Lib.hid hD
          rcases hM : decide (s[k] ∈ o.data.toList) with _ | _
          all_goals
            have HM := Lib.hid hM
            rw [hL, hD, hM] at HK
            clear hL hD hM
            go_wp2_with fail
            refine (rletter_any _ _).mono ?_
            rintro e w' ⟨rfl, rfl⟩
            simp only [HL.out]
            go_wp2_with fail
            refine (rdigit_any _ _).mono ?_
            rintro e w' ⟨rfl, rfl⟩
            simp only [HD.out]
            go_wp2_with fail
            rw [HX.out]
            refine (Tryz.strings_Contains_one _ _ _).mono ?_
            rintro e w' ⟨rfl, rfl⟩
            rw [V.indexByte_mem, HM.out]
            go_wp2
          · go_ret
            exact ⟨ret_bool (V.only_no (k := k) (by rw [bs_size]; exact hlt) (by rw [HE.out]; exact HK.out)).symm, rfl⟩
          · go_round
            case rel => exact ⟨k + 1, by omega, by go_num, by rw [HT.out, HP.out, HE.out, HK.out]; rfl⟩
            case measure => simp [intOf]; omega
        · have HD := Lib.hid hD
          rw [hL, hD] at HK
          clear hL hD
          go_wp2_with fail
          refine (rletter_any _ _).mono ?_
          rintro e w' ⟨rfl, rfl⟩
          simp only [HL.out]
          go_wp2_with fail
          refine (rdigit_any _ _).mono ?_
          rintro e w' ⟨rfl, rfl⟩
          simp only [HD.out]
          go_wp2
          go_round
          case rel => exact ⟨k + 1, by omega, by go_num, by rw [HT.out, HP.out, HE.out, HK.out]; rfl⟩
          case measure => simp [intOf]; omega
      · have HL := Lib.hid hL
        rw [hL] at HK
        clear hL
        go_wp2_with fail
        refine (rletter_any _ _).mono ?_
        rintro e w' ⟨rfl, rfl⟩
        simp only [HL.out]
        go_wp2
        go_round
        case rel => exact ⟨k + 1, by omega, by go_num, by rw [HT.out, HP.out, HE.out, HK.out]; rfl⟩
        case measure => simp [intOf]; omega
    · have ht : (s.data.toList.take k) = s.data.toList := List.take_of_length_le (by rw [bs_size]; omega)
      rw [ht] at HP
      have HQ : Hid (V.only (V.kind o.data.toList) s.data.toList = !s.data.toList.isEmpty) := Lib.hid (by unfold V.only; rw [HP.out]; rfl)
      clear ht
      go_wp2
      go_ret
      exact ⟨ret_bool (by rw [HQ.out, Lib.toList_data]), rfl⟩

end Go.Proofs.YtpjjkbdkgaehkaaGreatDoor
namespace Go.Proofs.YtpjjkbdkgaehkaaGreatDoor
open Go.RowKit

theorem strip_step {x s : ByteArray} (h0 : 0 < x.size) (h : x[0] = 48) (hx : V.value x.data.toList = V.value s.data.toList) : V.value (x.extract 1 x.size).data.toList = V.value s.data.toList := by
  rw [← hx, V.value_zero (l := x.data.toList) (by rw [at0 h0]; exact h) (by rw [bs_size]; exact h0), Lib.extract_to_end]

theorem strip_end {x s : ByteArray} (h : x.size = 0 ∨ ∃ h0 : 0 < x.size, x[0] ≠ 48) (hx : V.value x.data.toList = V.value s.data.toList) : x = ⟨(V.value s.data.toList).toArray⟩ := by
  apply bs_ext
  rw [← hx]
  simp only 
  rcases h with h | ⟨h0, h⟩
  · have : x.data.toList = [] := List.eq_nil_of_length_eq_zero (by rw [bs_size]; exact h)
    rw [this]; rfl
  · exact (V.value_other (by rw [at0 h0]; exact h)).symm

theorem strip_stop {x : ByteArray} (h : ¬ ∃ h0 : 0 < x.size, x[0] = 48) : (¬ 0 < x.size) ∨ (∃ h0 : 0 < x.size, ((x[0].toNat : Int) == 48) = false) := by
  rcases Nat.eq_zero_or_pos x.size with h0 | h0
  · exact .inl (by omega)
  · refine .inr ⟨h0, ?_⟩
    rw [beq_eq_false_iff_ne]
    intro e
    refine h ⟨h0, ?_⟩
    rw [← UInt8.toNat_inj]
    have : x[0].toNat = 48 := by omega
    rw [this]; rfl

set_option maxRecDepth 100000 in
set_option maxHeartbeats 1600000 in
theorem rorder_any (s t : ByteArray) (w : World) (_hs : s.size ≤ maxLen) (_ht : t.size ≤ maxLen) :
    Calls Tryz.prog 136 #[.string s, .string t] w fun e w' => e = .returned (.int .i64 (V.numbers s.data.toList t.data.toList)) ∧ w = w' := by
  unfold maxLen at _hs _ht
  have HF : Hid (V.numbers s.data.toList t.data.toList = V.cor (Lib.compareInt (V.value s.data.toList).length (V.value t.data.toList).length) (Lib.compareBytes (V.value s.data.toList) (V.value t.data.toList))) := rfl
  go_enter Tryz.func136, Tryz.ntmps136
  go_wp2
  go_loop [0] (fun v => ∃ x : ByteArray, v = .string x ∧ x.size ≤ s.size ∧ V.value x.data.toList = V.value s.data.toList) (fun v => szOf v)
  case atStart => exact ⟨s, rfl, Nat.le_refl _, rfl⟩
  case round =>
    obtain ⟨x, rfl, hxs, hx⟩ := hrel
    have HX := Lib.hid hx
    clear hx
    by_cases h : ∃ h0 : 0 < x.size, x[0] = 48
    · obtain ⟨h0, h1⟩ := h
      have HS := Lib.hid (strip_step h0 h1 HX.out)
      have hb : ((x[0].toNat : Int) == 48) = true := by rw [h1]; rfl
      clear h1
      go_wp2
      go_round
      case rel => exact ⟨_, rfl, by simp [ByteArray.size_extract]; omega, HS.out⟩
      case measure => simp [szOf, ByteArray.size_extract]; omega
    · have HE := Lib.hid (strip_end (x := x) (s := s) (by
        rcases Nat.eq_zero_or_pos x.size with h0 | h0
        · exact .inl h0
        · exact .inr ⟨h0, fun e => h ⟨h0, e⟩⟩) HX.out)
      have hend := strip_stop h
      clear h
      rcases hend with h0 | ⟨h0, hb⟩
      all_goals
        go_wp2
        go_loop [1] (fun v => ∃ y : ByteArray, v = .string y ∧ y.size ≤ t.size ∧ V.value y.data.toList = V.value t.data.toList) (fun v => szOf v)
        case atStart => exact ⟨t, rfl, Nat.le_refl _, rfl⟩
        case round =>
          obtain ⟨y, rfl, hyt, hy⟩ := hrel
          have HY := Lib.hid hy
          clear hy
          by_cases h : ∃ h0 : 0 < y.size, y[0] = 48
          · obtain ⟨h0, h1⟩ := h
            have HS := Lib.hid (strip_step h0 h1 HY.out)
            have hb : ((y[0].toNat : Int) == 48) = true := by rw [h1]; rfl
            clear h1
            go_wp2
            go_round
            case rel => exact ⟨_, rfl, by simp [ByteArray.size_extract]; omega, HS.out⟩
            case measure => simp [szOf, ByteArray.size_extract]; omega
          · have HE2 := Lib.hid (strip_end (x := y) (s := t) (by
              rcases Nat.eq_zero_or_pos y.size with h0 | h0
              · exact .inl h0
              · exact .inr ⟨h0, fun e => h ⟨h0, e⟩⟩) HY.out)
            have hend := strip_stop h
            clear h
            have HF2 : Hid (V.numbers s.data.toList t.data.toList = V.cor (Lib.compareInt x.size y.size) (Lib.compareBytes x.data.toList y.data.toList)) := Lib.hid (by
              rw [HF.out, HE.out, HE2.out]; simp only ; rfl)
            rcases hend with h0 | ⟨h0, hb⟩
            all_goals
              rcases Nat.lt_trichotomy x.size y.size with hc | hc | hc
              · have hn : ((x.size : Int) != y.size) = true := by rw [bne_iff_ne]; omega
                have HF3 : Hid (V.numbers s.data.toList t.data.toList = -1) := Lib.hid (by
                  rw [HF2.out]; unfold Lib.compareInt V.cor; rw [if_pos (show (x.size : Int) < y.size by omega)]; rfl)
                go_wp2
                all_goals
                  go_ret
                  exact ⟨ret_int HF3.out.symm, rfl⟩
              · have hn : ((x.size : Int) != y.size) = false := by rw [bne_eq_false_iff_eq]; omega
                have HF3 : Hid (V.numbers s.data.toList t.data.toList = Lib.compareBytes x.data.toList y.data.toList) := Lib.hid (by
                  rw [HF2.out]; unfold Lib.compareInt V.cor; rw [hc]; simp)
                have HC := Lib.hid hc
                clear hc
                go_wp2_with fail
                refine (Tryz.strings_Compare _ _ _).mono ?_
                rintro e w' ⟨rfl, rfl⟩
                go_wp2
                all_goals
                  go_ret
                  exact ⟨ret_int HF3.out.symm, rfl⟩
              · have hn : ((x.size : Int) != y.size) = true := by rw [bne_iff_ne]; omega
                have HF3 : Hid (V.numbers s.data.toList t.data.toList = 1) := Lib.hid (by
                  rw [HF2.out]; unfold Lib.compareInt V.cor; rw [if_neg (show ¬ (x.size : Int) < y.size by omega), if_pos (show (x.size : Int) > y.size by omega)]; rfl)
                go_wp2
                all_goals
                  go_ret
                  exact ⟨ret_int HF3.out.symm, rfl⟩

set_option maxRecDepth 100000 in
set_option maxHeartbeats 800000 in
theorem ridentifier_any (s t : ByteArray) (w : World) (hs : s.size ≤ maxLen) (ht : t.size ≤ maxLen) :
    Calls Tryz.prog 137 #[.string s, .string t] w fun e w' => e = .returned (.int .i64 (V.identC s.data.toList t.data.toList)) ∧ w = w' := by
  have HF : Hid (V.identC s.data.toList t.data.toList = if V.digits s.data.toList && V.digits t.data.toList then V.numbers s.data.toList t.data.toList else if V.digits s.data.toList then -1 else if V.digits t.data.toList then 1 else Lib.compareBytes s.data.toList t.data.toList) := rfl
  rcases hx : V.digits s.data.toList with _ | _ <;> rcases hy : V.digits t.data.toList with _ | _
  all_goals
    have HX := Lib.hid hx
    have HY := Lib.hid hy
    clear hx hy
    rw [HX.out, HY.out] at HF
    go_enter Tryz.func137, Tryz.ntmps137
    go_wp2_with fail
    refine (rdigits_any s _ hs).mono ?_
    rintro e w' ⟨rfl, rfl⟩
    simp only [HX.out]
    go_wp2_with fail
  · refine (rdigits_any s _ hs).mono ?_
    rintro e w' ⟨rfl, rfl⟩
    simp only [HX.out]
    go_wp2_with fail
    refine (rdigits_any t _ ht).mono ?_
    rintro e w' ⟨rfl, rfl⟩
    simp only [HY.out]
    go_wp2_with fail
    refine (Tryz.strings_Compare _ _ _).mono ?_
    rintro e w' ⟨rfl, rfl⟩
    go_wp2
    go_ret
    exact ⟨ret_int HF.out.symm, rfl⟩
  · refine (rdigits_any s _ hs).mono ?_
    rintro e w' ⟨rfl, rfl⟩
    simp only [HX.out]
    go_wp2_with fail
    refine (rdigits_any t _ ht).mono ?_
    rintro e w' ⟨rfl, rfl⟩
    simp only [HY.out]
    go_wp2
    go_ret
    exact ⟨ret_int HF.out.symm, rfl⟩
  · refine (rdigits_any t _ ht).mono ?_
    rintro e w' ⟨rfl, rfl⟩
    simp only [HY.out]
    go_wp2_with fail
    refine (rdigits_any s _ hs).mono ?_
    rintro e w' ⟨rfl, rfl⟩
    simp only [HX.out]
    go_wp2
    go_ret
    exact ⟨ret_int HF.out.symm, rfl⟩
  · refine (rdigits_any t _ ht).mono ?_
    rintro e w' ⟨rfl, rfl⟩
    simp only [HY.out]
    go_wp2_with fail
    refine (rorder_any _ _ _ hs ht).mono ?_
    rintro e w' ⟨rfl, rfl⟩
    go_wp2
    go_ret
    exact ⟨ret_int HF.out.symm, rfl⟩
end Go.Proofs.YtpjjkbdkgaehkaaGreatDoor
namespace Go.Proofs.YtpjjkbdkgaehkaaGreatDoor
open Go.RowKit

set_option maxHeartbeats 400000 in
theorem rsign_any (n : Int) (w : World) :
    Calls Tryz.prog 138 #[.int .i64 n] w fun e w' => e = .returned (.int .i64 (V.sgn n)) ∧ w = w' := by
  go_enter Tryz.func138, Tryz.ntmps138
  go_wp2
  all_goals go_ret
  all_goals exact ⟨ret_int (by unfold V.sgn; (repeat' split) <;> omega), rfl⟩
end Go.Proofs.YtpjjkbdkgaehkaaGreatDoor
namespace Go.Proofs.YtpjjkbdkgaehkaaGreatDoor
open Go.RowKit

set_option maxRecDepth 100000 in
set_option maxHeartbeats 400000 in
theorem rnumber_any (s : ByteArray) (w : World) (hs : s.size ≤ maxLen) :
    Calls Tryz.prog 124 #[.string s] w fun e w' => e = .returned (.bool (V.numb s.data.toList true)) ∧ w = w' := by
  have hs' := hs
  unfold maxLen at hs
  rcases hd : V.digits s.data.toList with _ | _
  · have HD := Lib.hid hd
    have HN : Hid (V.numb s.data.toList true = false) := Lib.hid (by unfold V.numb; rw [hd]; rfl)
    clear hd
    go_enter Tryz.func124, Tryz.ntmps124
    go_wp2_with fail
    refine (rdigits_any s _ hs').mono ?_
    rintro e w' ⟨rfl, rfl⟩
    simp only [HD.out]
    go_wp2
    go_ret
    exact ⟨ret_bool HN.out.symm, rfl⟩
  · have HD := Lib.hid hd
    have hp := digits_pos hd
    rw [bs_size] at hp
    have h0 := Lib.hid (at0 hp)
    have HN : Hid (V.numb s.data.toList true = (((s[0].toNat : Int) != 48) || ((s.size : Int) == 1))) := by
      refine Lib.hid ?_
      unfold V.numb
      have : (s[0] == (48 : UInt8)) = ((s[0].toNat : Int) == 48) := by
        rw [Bool.eq_iff_iff]; simp [← UInt8.toNat_inj]; omega
      rw [HD.out, h0.out, bs_size, this]
      unfold bne
      rcases (s[0].toNat : Int) == 48 with _ | _
      · simp
      · rw [Bool.eq_iff_iff]; simp; omega
    clear hd
    rcases h1 : ((s[0].toNat : Int) != 48) with _ | _
    · rw [h1] at HN
      go_enter Tryz.func124, Tryz.ntmps124
      go_wp2_with fail
      refine (rdigits_any s _ hs').mono ?_
      rintro e w' ⟨rfl, rfl⟩
      simp only [HD.out]
      go_wp2
      all_goals
        go_ret
        exact ⟨ret_bool (by rw [HN.out]; simp_all), rfl⟩
    · rw [h1] at HN
      go_enter Tryz.func124, Tryz.ntmps124
      go_wp2_with fail
      refine (rdigits_any s _ hs').mono ?_
      rintro e w' ⟨rfl, rfl⟩
      simp only [HD.out]
      go_wp2
      all_goals
        go_ret
        exact ⟨ret_bool (by rw [HN.out]; simp_all), rfl⟩
end Go.Proofs.YtpjjkbdkgaehkaaGreatDoor
