/-
  Walks: the reference of layer 6, numbers and identifiers compared.
-/
import Derived.Test.YtabeblbhbekjaaaGreatDoorR1
namespace Go.Proofs.YtabeblbhbekjaaaGreatDoor
open Go.RowKit

theorem strip_step {x s : ByteArray} (h0 : 0 < x.size) (h : x[0] = 48) (hx : V.value x.data.toList = V.value s.data.toList) : V.value (x.extract 1 x.size).data.toList = V.value s.data.toList := by
  rw [← hx, V.value_zero (l := x.data.toList) (by rw [at0 h0]; exact h) (by rw [bs_size]; exact h0), Lib.extract_to_end]

theorem strip_end {x s : ByteArray} (h : x.size = 0 ∨ ∃ h0 : 0 < x.size, x[0] ≠ 48) (hx : V.value x.data.toList = V.value s.data.toList) : x = ⟨(V.value s.data.toList).toArray⟩ := by
  apply bs_ext
  rw [← hx]
  simp only [bs_mk]
  rcases h with h | ⟨h0, h⟩
  · have : x.data.toList = [] := List.eq_nil_of_length_eq_zero (by rw [bs_size]; exact h)
    rw [this]; rfl
  · exact (V.value_other (by rw [at0 h0]; exact h)).symm

theorem strip_stop {x : ByteArray} (h : ¬ ∃ h0 : 0 < x.size, x[0] = 48) : (¬ 0 < x.size) ∨ (∃ h0 : 0 < x.size, ((x[0].toNat : Int) == 48) = false) := by
  rcases Nat.eq_zero_or_pos x.size with h0 | h0
  · exact .inl (by omega)
  · refine .inr ⟨h0, ?_⟩
    rw [beq_eq_false_iff_ne]
    intro e
    refine h ⟨h0, ?_⟩
    rw [← UInt8.toNat_inj]
    have : x[0].toNat = 48 := by omega
    rw [this]; rfl

set_option maxRecDepth 100000 in
set_option maxHeartbeats 1600000 in
theorem rorder_any (s t : ByteArray) (w : World) (hs : s.size ≤ maxLen) (ht : t.size ≤ maxLen) :
    Calls Tryz.prog 35 #[.string s, .string t] w fun e w' => e = .returned (.int .i64 (V.numbers s.data.toList t.data.toList)) ∧ w = w' := by
  unfold maxLen at hs ht
  have HF : Hid (V.numbers s.data.toList t.data.toList = V.cor (Lib.compareInt (V.value s.data.toList).length (V.value t.data.toList).length) (Lib.compareBytes (V.value s.data.toList) (V.value t.data.toList))) := rfl
  go_enter Tryz.func35, Tryz.ntmps35
  go_wp2
  go_loop [0] (fun v => ∃ x : ByteArray, v = .string x ∧ x.size ≤ s.size ∧ V.value x.data.toList = V.value s.data.toList) (fun v => szOf v)
  case atStart => exact ⟨s, rfl, Nat.le_refl _, rfl⟩
  case round =>
    obtain ⟨x, rfl, hxs, hx⟩ := hrel
    have HX := Lib.hid hx
    clear hx
    by_cases h : ∃ h0 : 0 < x.size, x[0] = 48
    · obtain ⟨h0, h1⟩ := h
      have HS := Lib.hid (strip_step h0 h1 HX.out)
      have hb : ((x[0].toNat : Int) == 48) = true := by rw [h1]; rfl
      clear h1
      go_wp2
      go_round
      case rel => exact ⟨_, rfl, by simp [ByteArray.size_extract]; omega, HS.out⟩
      case measure => simp [szOf, ByteArray.size_extract]; omega
    · have HE := Lib.hid (strip_end (x := x) (s := s) (by
        rcases Nat.eq_zero_or_pos x.size with h0 | h0
        · exact .inl h0
        · exact .inr ⟨h0, fun e => h ⟨h0, e⟩⟩) HX.out)
      have hend := strip_stop h
      clear h
      rcases hend with h0 | ⟨h0, hb⟩
      all_goals
        go_wp2
        go_loop [1] (fun v => ∃ y : ByteArray, v = .string y ∧ y.size ≤ t.size ∧ V.value y.data.toList = V.value t.data.toList) (fun v => szOf v)
        case atStart => exact ⟨t, rfl, Nat.le_refl _, rfl⟩
        case round =>
          obtain ⟨y, rfl, hyt, hy⟩ := hrel
          have HY := Lib.hid hy
          clear hy
          by_cases h : ∃ h0 : 0 < y.size, y[0] = 48
          · obtain ⟨h0, h1⟩ := h
            have HS := Lib.hid (strip_step h0 h1 HY.out)
            have hb : ((y[0].toNat : Int) == 48) = true := by rw [h1]; rfl
            clear h1
            go_wp2
            go_round
            case rel => exact ⟨_, rfl, by simp [ByteArray.size_extract]; omega, HS.out⟩
            case measure => simp [szOf, ByteArray.size_extract]; omega
          · have HE2 := Lib.hid (strip_end (x := y) (s := t) (by
              rcases Nat.eq_zero_or_pos y.size with h0 | h0
              · exact .inl h0
              · exact .inr ⟨h0, fun e => h ⟨h0, e⟩⟩) HY.out)
            have hend := strip_stop h
            clear h
            have HF2 : Hid (V.numbers s.data.toList t.data.toList = V.cor (Lib.compareInt x.size y.size) (Lib.compareBytes x.data.toList y.data.toList)) := Lib.hid (by
              rw [HF.out, HE.out, HE2.out]; simp only [bs_mk]; rfl)
            rcases hend with h0 | ⟨h0, hb⟩
            all_goals
              rcases Nat.lt_trichotomy x.size y.size with hc | hc | hc
              · have hn : ((x.size : Int) != y.size) = true := by rw [bne_iff_ne]; omega
                have HF3 : Hid (V.numbers s.data.toList t.data.toList = -1) := Lib.hid (by
                  rw [HF2.out]; unfold Lib.compareInt V.cor; rw [if_pos (show (x.size : Int) < y.size by omega)]; rfl)
                go_wp2
                all_goals
                  go_ret
                  exact ⟨ret_int HF3.out.symm, rfl⟩
              · have hn : ((x.size : Int) != y.size) = false := by rw [bne_eq_false_iff_eq]; omega
                have HF3 : Hid (V.numbers s.data.toList t.data.toList = Lib.compareBytes x.data.toList y.data.toList) := Lib.hid (by
                  rw [HF2.out]; unfold Lib.compareInt V.cor; rw [hc]; simp)
                have HC := Lib.hid hc
                clear hc
                go_wp2_with fail
                refine (Tryz.strings_Compare _ _ _).mono ?_
                rintro e w' ⟨rfl, rfl⟩
                go_wp2
                all_goals
                  go_ret
                  exact ⟨ret_int HF3.out.symm, rfl⟩
              · have hn : ((x.size : Int) != y.size) = true := by rw [bne_iff_ne]; omega
                have HF3 : Hid (V.numbers s.data.toList t.data.toList = 1) := Lib.hid (by
                  rw [HF2.out]; unfold Lib.compareInt V.cor; rw [if_neg (show ¬ (x.size : Int) < y.size by omega), if_pos (show (x.size : Int) > y.size by omega)]; rfl)
                go_wp2
                all_goals
                  go_ret
                  exact ⟨ret_int HF3.out.symm, rfl⟩

set_option maxRecDepth 100000 in
set_option maxHeartbeats 800000 in
theorem ridentifier_any (s t : ByteArray) (w : World) (hs : s.size ≤ maxLen) (ht : t.size ≤ maxLen) :
    Calls Tryz.prog 36 #[.string s, .string t] w fun e w' => e = .returned (.int .i64 (V.identC s.data.toList t.data.toList)) ∧ w = w' := by
  have HF : Hid (V.identC s.data.toList t.data.toList = if V.digits s.data.toList && V.digits t.data.toList then V.numbers s.data.toList t.data.toList else if V.digits s.data.toList then -1 else if V.digits t.data.toList then 1 else Lib.compareBytes s.data.toList t.data.toList) := rfl
  rcases hx : V.digits s.data.toList with _ | _ <;> rcases hy : V.digits t.data.toList with _ | _
  all_goals
    have HX := Lib.hid hx
    have HY := Lib.hid hy
    clear hx hy
    rw [HX.out, HY.out] at HF
    go_enter Tryz.func36, Tryz.ntmps36
    go_wp2_with fail
    refine (rdigits_any s _ hs).mono ?_
    rintro e w' ⟨rfl, rfl⟩
    simp only [HX.out]
    go_wp2_with fail
  · refine (rdigits_any s _ hs).mono ?_
    rintro e w' ⟨rfl, rfl⟩
    simp only [HX.out]
    go_wp2_with fail
    refine (rdigits_any t _ ht).mono ?_
    rintro e w' ⟨rfl, rfl⟩
    simp only [HY.out]
    go_wp2_with fail
    refine (Tryz.strings_Compare _ _ _).mono ?_
    rintro e w' ⟨rfl, rfl⟩
    go_wp2
    go_ret
    exact ⟨ret_int HF.out.symm, rfl⟩
  · refine (rdigits_any s _ hs).mono ?_
    rintro e w' ⟨rfl, rfl⟩
    simp only [HX.out]
    go_wp2_with fail
    refine (rdigits_any t _ ht).mono ?_
    rintro e w' ⟨rfl, rfl⟩
    simp only [HY.out]
    go_wp2
    go_ret
    exact ⟨ret_int HF.out.symm, rfl⟩
  · refine (rdigits_any t _ ht).mono ?_
    rintro e w' ⟨rfl, rfl⟩
    simp only [HY.out]
    go_wp2_with fail
    refine (rdigits_any s _ hs).mono ?_
    rintro e w' ⟨rfl, rfl⟩
    simp only [HX.out]
    go_wp2
    go_ret
    exact ⟨ret_int HF.out.symm, rfl⟩
  · refine (rdigits_any t _ ht).mono ?_
    rintro e w' ⟨rfl, rfl⟩
    simp only [HY.out]
    go_wp2_with fail
    refine (rorder_any _ _ _ hs ht).mono ?_
    rintro e w' ⟨rfl, rfl⟩
    go_wp2
    go_ret
    exact ⟨ret_int HF.out.symm, rfl⟩
end Go.Proofs.YtabeblbhbekjaaaGreatDoor
