/-
  Lemmas for the law.
-/
import Derived.Test.YtbikeahmldobkaaGreatDoorC41x04
set_option linter.all false
set_option maxRecDepth 100000
set_option maxHeartbeats 1600000
namespace Go.Proofs.YtbikeahmldobkaaGreatDoor
open Go.RowKit
theorem ui (n : Int) (w : World) :
  Calls Tryz.prog 124 #[.int .u8 n] w fun e w' => e = .returned (.bool (V.digB n)) /\ w = w' := by
 go_enter Tryz.func124, Tryz.ntmps124
 go_wp2
 all_goals go_ret
 all_goals exact ⟨zf (by unfold V.digB; simp_all; try omega), rfl⟩
theorem xz (n : Int) (w : World) :
  Calls Tryz.prog 156 #[.int .u8 n] w fun e w' => e = .returned (.bool (V.letB n)) /\ w = w' := by
 go_enter Tryz.func156, Tryz.ntmps156
 go_wp2
 all_goals go_ret
 all_goals exact ⟨zf (by unfold V.letB; simp_all; try omega), rfl⟩
theorem zie {s : ByteArray} {k : Nat} (hlt : k < s.size) : s.data.toList[k]'(by rw [zi]; exact hlt) = s[k] := by simp; rfl
theorem zz (s : ByteArray) (w : World) (hs : s.size ≤ maxLen) :
  Calls Tryz.prog 118 #[.string s] w fun e w' => e = .returned (.bool (V.digits s.data.toList)) /\ w = w' := by
 unfold maxLen at hs
 go_enter Tryz.func118, Tryz.ntmps118
 go_wp2
 go_loop [3] (fun i => ∃ k : Nat, k ≤ s.size /\ i = .int .i64 k /\ (s.data.toList.take k).all V.dig = true) (fun i => s.size - (intOf i).toNat)
 case atStart => exact ⟨0, Nat.zero_le _, rfl, rfl⟩
 case round =>
  obtain ⟨k, hk, rfl, hp⟩ := hrel
  have HP := zpa hp
  clear hp
  by_cases hlt : k < s.size
  ·have hl : k < s.data.toList.length := by rw [zi]; exact hlt
   have HT := zpa (V.vb (p := V.dig) hl)
   have HE := zpa (zie hlt)
   rcases hpc : V.digB s[k].toNat with _ | _
   all_goals
    have HPC := zpa hpc
    clear hpc
    go_wp2_with fail
    refine (ui _ _).mono ?_
    rintro e w' ⟨rfl, rfl⟩
    simp only [HPC.out]
    go_wp2
   ·exact zsn
   ·go_round
    case rel => exact ⟨k + 1, by omega, by go_num, by rw [HT.out, HP.out, HE.out]; exact HPC.out⟩
    case measure => simp [intOf]; omega
  ·have ht : (s.data.toList.take k) = s.data.toList := List.take_of_length_le (by rw [zi]; omega)
   rw [ht] at HP
   have HQ : Hid (V.digits s.data.toList = !s.data.toList.isEmpty) := zpa (by unfold V.digits V.only; rw [HP.out]; rfl)
   exact zr3
theorem zj1 {s : ByteArray} {k : Nat} (h : k < s.size) : s.extract k (k + 1) = ⟨#[s[k]]⟩ := by
 apply ki
 rw [Lib.extract_data]
 have hl : k < s.data.toList.length := by rw [zi]; exact h
 rw [List.drop_eq_getElem_cons hl, zie h]
 simp
theorem zqp {P : Prop} (h : P := by
 go_round
 case rel => exact ⟨k + 1, by omega, by go_num, by rw [HT.out, HP.out, HE.out, HK.out]; rfl⟩
 case measure => simp [intOf]; omega) : P := h
theorem xl (s o : ByteArray) (w : World) (hs : s.size ≤ maxLen) :
  Calls Tryz.prog 120 #[.string s, .string o] w fun e w' => e = .returned (.bool (V.only (V.kind o.data.toList) s.data.toList)) /\ w = w' := by
 unfold maxLen at hs
 go_enter Tryz.func120, Tryz.ntmps120
 go_wp2
 go_loop [5] (fun i => ∃ k : Nat, k ≤ s.size /\ i = .int .i64 k /\ (s.data.toList.take k).all (V.kind o.data.toList) = true) (fun i => s.size - (intOf i).toNat)
 case atStart => exact ⟨0, Nat.zero_le _, rfl, rfl⟩
 case round =>
  obtain ⟨k, hk, rfl, hp⟩ := hrel
  have HP := zpa hp
  clear hp
  by_cases hlt : k < s.size
  ·have hl : k < s.data.toList.length := by rw [zi]; exact hlt
   have HT := zpa (V.vb (p := V.kind o.data.toList) hl)
   have HE := zpa (zie hlt)
   have HX := zpa (zj1 hlt)
   have HK : Hid (V.kind o.data.toList s[k] = (V.letB s[k].toNat || V.digB s[k].toNat || decide (s[k] ∈ o.data.toList))) := rfl
   rcases hL : V.letB s[k].toNat with _ | _
   ·have HL := zpa hL
    rcases hD : V.digB s[k].toNat with _ | _
    ·have HD := zpa hD
     rcases hM : decide (s[k] ∈ o.data.toList) with _ | _
     all_goals
      have HM := zpa hM
      rw [hL, hD, hM] at HK
      clear hL hD hM
      go_wp2_with fail
      refine (xz _ _).mono ?_
      rintro e w' ⟨rfl, rfl⟩
      simp only [HL.out]
      go_wp2_with fail
      refine (ui _ _).mono ?_
      rintro e w' ⟨rfl, rfl⟩
      simp only [HD.out]
      go_wp2_with fail
      rw [HX.out]
      refine (Tryz.strings_Contains_one _ _ _).mono ?_
      rintro e w' ⟨rfl, rfl⟩
      rw [V.xu, HM.out]
      go_wp2
     ·go_ret
      exact ⟨zf (V.zjo (k := k) (by rw [zi]; exact hlt) (by rw [HE.out]; exact HK.out)).symm, rfl⟩
     ·exact zqp
    ·have HD := zpa hD
     rw [hL, hD] at HK
     clear hL hD
     go_wp2_with fail
     refine (xz _ _).mono ?_
     rintro e w' ⟨rfl, rfl⟩
     simp only [HL.out]
     go_wp2_with fail
     refine (ui _ _).mono ?_
     rintro e w' ⟨rfl, rfl⟩
     simp only [HD.out]
     go_wp2
     exact zqp
   ·have HL := zpa hL
    rw [hL] at HK
    clear hL
    go_wp2_with fail
    refine (xz _ _).mono ?_
    rintro e w' ⟨rfl, rfl⟩
    simp only [HL.out]
    go_wp2
    exact zqp
  ·have ht : (s.data.toList.take k) = s.data.toList := List.take_of_length_le (by rw [zi]; omega)
   rw [ht] at HP
   have HQ : Hid (V.only (V.kind o.data.toList) s.data.toList = !s.data.toList.isEmpty) := zpa (by unfold V.only; rw [HP.out]; rfl)
   exact zr3
theorem zfn {x s : ByteArray} (h0 : 0 < x.size) (h : x[0] = 48) (hx : V.value x.data.toList = V.value s.data.toList) : V.value (x.extract 1 x.size).data.toList = V.value s.data.toList := by
 rw [← hx, V.zmk (l := x.data.toList) (by rw [at0 h0]; exact h) (by rw [zi]; exact h0), Lib.extract_to_end]
theorem zhn {x s : ByteArray} (h : x.size = 0 ∨ ∃ h0 : 0 < x.size, x[0] ≠ 48) (hx : V.value x.data.toList = V.value s.data.toList) : x = ⟨(V.value s.data.toList).toArray⟩ := by
 apply ki
 rw [← hx]
 simp only
 rcases h with h | ⟨h0, h⟩
 ·have : x.data.toList = [] := List.eq_nil_of_length_eq_zero (by rw [zi]; exact h)
  rw [this]; rfl
 ·exact (V.zli (by rw [at0 h0]; exact h)).symm
theorem ze8 {x : ByteArray} (h : ¬ ∃ h0 : 0 < x.size, x[0] = 48) : (¬ 0 < x.size) ∨ (∃ h0 : 0 < x.size, ((x[0].toNat : Int) == 48) = false) := by
 rcases Nat.eq_zero_or_pos x.size with h0 | h0
 ·exact .inl (by omega)
 ·refine .inr ⟨h0, ?_⟩
  rw [zpe]
  intro e
  refine h ⟨h0, ?_⟩
  rw [← UInt8.toNat_inj]
  have : x[0].toNat = 48 := by omega
  rw [this]; rfl
theorem zq9 {P : Prop} (h : P := by
 clear h1
 go_wp2
 go_round
 case rel => exact ⟨_, rfl, by simp [ByteArray.size_extract]; omega, HS.out⟩
 case measure => simp [szOf, ByteArray.size_extract]; omega) : P := h
theorem zbv (s t : ByteArray) (w : World) (_hs : s.size ≤ maxLen) (_ht : t.size ≤ maxLen) :
  Calls Tryz.prog 86 #[.string s, .string t] w fun e w' => e = .returned (.int .i64 (V.numbers s.data.toList t.data.toList)) /\ w = w' := by
 unfold maxLen at _hs _ht
 have HF : Hid (V.numbers s.data.toList t.data.toList = V.cor (Lib.compareInt (V.value s.data.toList).length (V.value t.data.toList).length) (Lib.compareBytes (V.value s.data.toList) (V.value t.data.toList))) := rfl
 go_enter Tryz.func86, Tryz.ntmps86
 go_wp2
 go_loop [0] (fun v => ∃ x : ByteArray, v = .string x /\ x.size ≤ s.size /\ V.value x.data.toList = V.value s.data.toList) (fun v => szOf v)
 case atStart => exact ⟨s, rfl, zpc _, rfl⟩
 case round =>
  obtain ⟨x, rfl, hxs, hx⟩ := hrel
  have HX := zpa hx
  clear hx
  by_cases h : ∃ h0 : 0 < x.size, x[0] = 48
  ·obtain ⟨h0, h1⟩ := h
   have HS := zpa (zfn h0 h1 HX.out)
   have hb : ((x[0].toNat : Int) == 48) = true := by rw [h1]; rfl
   exact zq9
  ·have HE := zpa (zhn (x := x) (s := s) (by
     rcases Nat.eq_zero_or_pos x.size with h0 | h0
     · exact .inl h0
     · exact .inr ⟨h0, fun e => h ⟨h0, e⟩⟩) HX.out)
   have hend := ze8 h
   clear h
   rcases hend with h0 | ⟨h0, hb⟩
   all_goals
    go_wp2
    go_loop [1] (fun v => ∃ y : ByteArray, v = .string y /\ y.size ≤ t.size /\ V.value y.data.toList = V.value t.data.toList) (fun v => szOf v)
    case atStart => exact ⟨t, rfl, zpc _, rfl⟩
    case round =>
     obtain ⟨y, rfl, hyt, hy⟩ := hrel
     have HY := zpa hy
     clear hy
     by_cases h : ∃ h0 : 0 < y.size, y[0] = 48
     ·obtain ⟨h0, h1⟩ := h
      have HS := zpa (zfn h0 h1 HY.out)
      have hb : ((y[0].toNat : Int) == 48) = true := by rw [h1]; rfl
      exact zq9
     ·have HE2 := zpa (zhn (x := y) (s := t) (by
        rcases Nat.eq_zero_or_pos y.size with h0 | h0
        · exact .inl h0
        · exact .inr ⟨h0, fun e => h ⟨h0, e⟩⟩) HY.out)
      have hend := ze8 h
      clear h
      have HF2 : Hid (V.numbers s.data.toList t.data.toList = V.cor (Lib.compareInt x.size y.size) (Lib.compareBytes x.data.toList y.data.toList)) := zpa (by
        rw [HF.out, HE.out, HE2.out]; simp only ; rfl)
      rcases hend with h0 | ⟨h0, hb⟩
      all_goals
       rcases Nat.lt_trichotomy x.size y.size with hc | hc | hc
       ·have hn : ((x.size : Int) != y.size) = true := by rw [bne_iff_ne]; omega
        have HF3 : Hid (V.numbers s.data.toList t.data.toList = -1) := zpa (by
          rw [HF2.out]; unfold Lib.compareInt V.cor; rw [if_pos (show (x.size : Int) < y.size by omega)]; rfl)
        go_wp2
        all_goals
         go_ret
         exact ⟨zn HF3.out.symm, rfl⟩
       ·have hn : ((x.size : Int) != y.size) = false := by rw [bne_eq_false_iff_eq]; omega
        have HF3 : Hid (V.numbers s.data.toList t.data.toList = Lib.compareBytes x.data.toList y.data.toList) := zpa (by
          rw [HF2.out]; unfold Lib.compareInt V.cor; rw [hc]; simp)
        have HC := zpa hc
        clear hc
        go_wp2_with fail
        refine (Tryz.strings_Compare _ _ _).mono ?_
        rintro e w' ⟨rfl, rfl⟩
        go_wp2
        all_goals
         go_ret
         exact ⟨zn HF3.out.symm, rfl⟩
       ·have hn : ((x.size : Int) != y.size) = true := by rw [bne_iff_ne]; omega
        have HF3 : Hid (V.numbers s.data.toList t.data.toList = 1) := zpa (by
          rw [HF2.out]; unfold Lib.compareInt V.cor; rw [if_neg (show ¬ (x.size : Int) < y.size by omega), if_pos (show (x.size : Int) > y.size by omega)]; rfl)
        go_wp2
        all_goals
         go_ret
         exact ⟨zn HF3.out.symm, rfl⟩
theorem zd8 (s t : ByteArray) (w : World) (hs : s.size ≤ maxLen) (ht : t.size ≤ maxLen) :
  Calls Tryz.prog 87 #[.string s, .string t] w fun e w' => e = .returned (.int .i64 (V.jc s.data.toList t.data.toList)) /\ w = w' := by
 have HF : Hid (V.jc s.data.toList t.data.toList = if V.digits s.data.toList && V.digits t.data.toList then V.numbers s.data.toList t.data.toList else if V.digits s.data.toList then -1 else if V.digits t.data.toList then 1 else Lib.compareBytes s.data.toList t.data.toList) := rfl
 rcases hx : V.digits s.data.toList with _ | _ <;> rcases hy : V.digits t.data.toList with _ | _
 all_goals
  have HX := zpa hx
  have HY := zpa hy
  clear hx hy
  rw [HX.out, HY.out] at HF
  go_enter Tryz.func87, Tryz.ntmps87
  go_wp2_with fail
  refine (zz s _ hs).mono ?_
  rintro e w' ⟨rfl, rfl⟩
  simp only [HX.out]
  go_wp2_with fail
 ·refine (zz s _ hs).mono ?_
  rintro e w' ⟨rfl, rfl⟩
  simp only [HX.out]
  go_wp2_with fail
  refine (zz t _ ht).mono ?_
  rintro e w' ⟨rfl, rfl⟩
  simp only [HY.out]
  go_wp2_with fail
  refine (Tryz.strings_Compare _ _ _).mono ?_
  rintro e w' ⟨rfl, rfl⟩
  go_wp2
  go_ret
  exact ⟨zn HF.out.symm, rfl⟩
 ·refine (zz s _ hs).mono ?_
  rintro e w' ⟨rfl, rfl⟩
  simp only [HX.out]
  go_wp2_with fail
  refine (zz t _ ht).mono ?_
  rintro e w' ⟨rfl, rfl⟩
  simp only [HY.out]
  go_wp2
  go_ret
  exact ⟨zn HF.out.symm, rfl⟩
 ·refine (zz t _ ht).mono ?_
  rintro e w' ⟨rfl, rfl⟩
  simp only [HY.out]
  go_wp2_with fail
  refine (zz s _ hs).mono ?_
  rintro e w' ⟨rfl, rfl⟩
  simp only [HX.out]
  go_wp2
  go_ret
  exact ⟨zn HF.out.symm, rfl⟩
 ·refine (zz t _ ht).mono ?_
  rintro e w' ⟨rfl, rfl⟩
  simp only [HY.out]
  go_wp2_with fail
  refine (zbv _ _ _ hs ht).mono ?_
  rintro e w' ⟨rfl, rfl⟩
  go_wp2
  go_ret
  exact ⟨zn HF.out.symm, rfl⟩
open Go.RowKit
theorem zda (n : Int) (w : World) :
  Calls Tryz.prog 88 #[.int .i64 n] w fun e w' => e = .returned (.int .i64 (V.sgn n)) /\ w = w' := by
 go_enter Tryz.func88, Tryz.ntmps88
 go_wp2
 all_goals go_ret
 all_goals exact ⟨zn (by unfold V.sgn; (repeat' split) <;> omega), rfl⟩
end Go.Proofs.YtbikeahmldobkaaGreatDoor
