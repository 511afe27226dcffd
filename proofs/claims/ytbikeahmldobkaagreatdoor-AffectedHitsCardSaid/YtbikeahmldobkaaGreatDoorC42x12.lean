/-
  Lemmas for the law.
-/
import Derived.Test.YtbikeahmldobkaaGreatDoorC42x02
import Derived.Test.YtbikeahmldobkaaGreatDoorC42x10
import Derived.Test.YtbikeahmldobkaaGreatDoorC42x11
import Derived.Test.YtbikeahmldobkaaGreatDoorC42x03
import Derived.Test.YtbikeahmldobkaaGreatDoorC42x04
set_option linter.all false
set_option maxRecDepth 100000
set_option maxHeartbeats 3200000
namespace Go.Proofs.YtbikeahmldobkaaGreatDoor
open Go.RowKit
theorem zbf (n : Int) (w : World) :
  Calls Tryz.prog 124 #[.int .u8 n] w fun e w' => e = .returned (.bool (V.digB n)) /\ w = w' := by
 go_enter Tryz.func124, Tryz.ntmps124
 go_wp2
 all_goals go_ret
 all_goals exact ⟨zf (by unfold V.digB; simp_all; try omega), rfl⟩
theorem wh (n : Int) (w : World) :
  Calls Tryz.prog 156 #[.int .u8 n] w fun e w' => e = .returned (.bool (V.letB n)) /\ w = w' := by
 go_enter Tryz.func156, Tryz.ntmps156
 go_wp2
 all_goals go_ret
 all_goals exact ⟨zf (by unfold V.letB; simp_all; try omega), rfl⟩
theorem zmz {s : ByteArray} {k : Nat} (hlt : k < s.size) : s.data.toList[k]'(by rw [zj]; exact hlt) = s[k] := by simp; rfl
theorem qk (s : ByteArray) (w : World) (hs : s.size ≤ maxLen) :
  Calls Tryz.prog 118 #[.string s] w fun e w' => e = .returned (.bool (V.digits s.data.toList)) /\ w = w' := by
 unfold maxLen at hs
 go_enter Tryz.func118, Tryz.ntmps118
 go_wp2
 go_loop [3] (fun i => ∃ k : Nat, k ≤ s.size /\ i = .int .i64 k /\ (s.data.toList.take k).all V.dig = true) (fun i => s.size - (intOf i).toNat)
 case atStart => exact ⟨0, Nat.zero_le _, rfl, rfl⟩
 case round =>
  obtain ⟨k, hk, rfl, hp⟩ := hrel
  have HP := zv2 hp
  clear hp
  by_cases hlt : k < s.size
  ·have hl : k < s.data.toList.length := by rw [zj]; exact hlt
   have HT := zv2 (V.zca (p := V.dig) hl)
   have HE := zv2 (zmz hlt)
   rcases g0 : V.digB s[k].toNat with _ | _
   all_goals
    have HPC := zv2 g0
    clear g0
    go_wp2_with fail
    refine (zbf _ _).mono ?_
    rintro e w' ⟨rfl, rfl⟩
    simp only [HPC.out]
    go_wp2
   ·exact z0b
   ·go_round
    case rel => exact ⟨k + 1, by omega, by go_num, by rw [HT.out, HP.out, HE.out]; exact HPC.out⟩
    case measure => simp [intOf]; omega
  ·have ht : (s.data.toList.take k) = s.data.toList := List.take_of_length_le (by rw [zj]; omega)
   rw [ht] at HP
   have HQ : Hid (V.digits s.data.toList = !s.data.toList.isEmpty) := zv2 (by unfold V.digits V.only; rw [HP.out]; rfl)
   exact zzn
theorem zoz {s : ByteArray} {k : Nat} (h : k < s.size) : s.extract k (k + 1) = ⟨#[s[k]]⟩ := by
 apply ya
 rw [Lib.extract_data]
 have hl : k < s.data.toList.length := by rw [zj]; exact h
 rw [List.drop_eq_getElem_cons hl, zmz h]
 simp
theorem zxs {P : Prop} (h : P := by
 go_round
 case rel => exact ⟨k + 1, by omega, by go_num, by rw [HT.out, HP.out, HE.out, HK.out]; rfl⟩
 case measure => simp [intOf]; omega) : P := h
theorem vh (s o : ByteArray) (w : World) (hs : s.size ≤ maxLen) :
  Calls Tryz.prog 120 #[.string s, .string o] w fun e w' => e = .returned (.bool (V.only (V.kind o.data.toList) s.data.toList)) /\ w = w' := by
 unfold maxLen at hs
 go_enter Tryz.func120, Tryz.ntmps120
 go_wp2
 go_loop [5] (fun i => ∃ k : Nat, k ≤ s.size /\ i = .int .i64 k /\ (s.data.toList.take k).all (V.kind o.data.toList) = true) (fun i => s.size - (intOf i).toNat)
 case atStart => exact ⟨0, Nat.zero_le _, rfl, rfl⟩
 case round =>
  obtain ⟨k, hk, rfl, hp⟩ := hrel
  have HP := zv2 hp
  clear hp
  by_cases hlt : k < s.size
  ·have hl : k < s.data.toList.length := by rw [zj]; exact hlt
   have HT := zv2 (V.zca (p := V.kind o.data.toList) hl)
   have HE := zv2 (zmz hlt)
   have HX := zv2 (zoz hlt)
   have HK : Hid (V.kind o.data.toList s[k] = (V.letB s[k].toNat || V.digB s[k].toNat || decide (s[k] ∈ o.data.toList))) := rfl
   rcases hL : V.letB s[k].toNat with _ | _
   ·have HL := zv2 hL
    rcases hD : V.digB s[k].toNat with _ | _
    ·have HD := zv2 hD
     rcases hM : decide (s[k] ∈ o.data.toList) with _ | _
     all_goals
      have HM := zv2 hM
      rw [hL, hD, hM] at HK
      clear hL hD hM
      go_wp2_with fail
      refine (wh _ _).mono ?_
      rintro e w' ⟨rfl, rfl⟩
      simp only [HL.out]
      go_wp2_with fail
      refine (zbf _ _).mono ?_
      rintro e w' ⟨rfl, rfl⟩
      simp only [HD.out]
      go_wp2_with fail
      rw [HX.out]
      refine (Tryz.strings_Contains_one _ _ _).mono ?_
      rintro e w' ⟨rfl, rfl⟩
      rw [V.vu, HM.out]
      go_wp2
     ·go_ret
      exact ⟨zf (V.zof (k := k) (by rw [zj]; exact hlt) (by rw [HE.out]; exact HK.out)).symm, rfl⟩
     ·exact zxs
    ·have HD := zv2 hD
     rw [hL, hD] at HK
     clear hL hD
     go_wp2_with fail
     refine (wh _ _).mono ?_
     rintro e w' ⟨rfl, rfl⟩
     simp only [HL.out]
     go_wp2_with fail
     refine (zbf _ _).mono ?_
     rintro e w' ⟨rfl, rfl⟩
     simp only [HD.out]
     go_wp2
     exact zxs
   ·have HL := zv2 hL
    rw [hL] at HK
    clear hL
    go_wp2_with fail
    refine (wh _ _).mono ?_
    rintro e w' ⟨rfl, rfl⟩
    simp only [HL.out]
    go_wp2
    exact zxs
  ·have ht : (s.data.toList.take k) = s.data.toList := List.take_of_length_le (by rw [zj]; omega)
   rw [ht] at HP
   have HQ : Hid (V.only (V.kind o.data.toList) s.data.toList = !s.data.toList.isEmpty) := zv2 (by unfold V.only; rw [HP.out]; rfl)
   exact zzn
theorem zjn {x s : ByteArray} (h0 : 0 < x.size) (h : x[0] = 48) (hx : V.value x.data.toList = V.value s.data.toList) : V.value (x.extract 1 x.size).data.toList = V.value s.data.toList := by
 rw [← hx, V.zsd (l := x.data.toList) (by rw [at0 h0]; exact h) (by rw [zj]; exact h0), Lib.extract_to_end]
theorem zlz {x s : ByteArray} (h : x.size = 0 ∨ ∃ h0 : 0 < x.size, x[0] ≠ 48) (hx : V.value x.data.toList = V.value s.data.toList) : x = ⟨(V.value s.data.toList).toArray⟩ := by
 apply ya
 rw [← hx]
 simp only
 rcases h with h | ⟨h0, h⟩
 ·have : x.data.toList = [] := List.eq_nil_of_length_eq_zero (by rw [zj]; exact h)
  rw [this]; rfl
 ·exact (V.zqt (by rw [at0 h0]; exact h)).symm
theorem zi5 {x : ByteArray} (h : ¬ ∃ h0 : 0 < x.size, x[0] = 48) : (¬ 0 < x.size) ∨ (∃ h0 : 0 < x.size, ((x[0].toNat : Int) == 48) = false) := by
 rcases Nat.eq_zero_or_pos x.size with h0 | h0
 ·exact .inl (by omega)
 ·refine .inr ⟨h0, ?_⟩
  rw [zv6]
  intro e
  refine h ⟨h0, ?_⟩
  rw [← UInt8.toNat_inj]
  have : x[0].toNat = 48 := by omega
  rw [this]; rfl
theorem zyo {P : Prop} (h : P := by
 clear h1
 go_wp2
 go_round
 case rel => exact ⟨_, rfl, by simp [ByteArray.size_extract]; omega, HS.out⟩
 case measure => simp [szOf, ByteArray.size_extract]; omega) : P := h
theorem zex (s t : ByteArray) (w : World) (_hs : s.size ≤ maxLen) (_ht : t.size ≤ maxLen) :
  Calls Tryz.prog 86 #[.string s, .string t] w fun e w' => e = .returned (.int .i64 (V.numbers s.data.toList t.data.toList)) /\ w = w' := by
 unfold maxLen at _hs _ht
 have HF : Hid (V.numbers s.data.toList t.data.toList = V.cor (Lib.compareInt (V.value s.data.toList).length (V.value t.data.toList).length) (Lib.compareBytes (V.value s.data.toList) (V.value t.data.toList))) := rfl
 go_enter Tryz.func86, Tryz.ntmps86
 go_wp2
 go_loop [0] (fun v => ∃ x : ByteArray, v = .string x /\ x.size ≤ s.size /\ V.value x.data.toList = V.value s.data.toList) (fun v => szOf v)
 case atStart => exact ⟨s, rfl, zv4 _, rfl⟩
 case round =>
  obtain ⟨x, rfl, g1, hx⟩ := hrel
  have HX := zv2 hx
  clear hx
  by_cases h : ∃ h0 : 0 < x.size, x[0] = 48
  ·obtain ⟨h0, h1⟩ := h
   have HS := zv2 (zjn h0 h1 HX.out)
   have hb : ((x[0].toNat : Int) == 48) = true := by rw [h1]; rfl
   exact zyo
  ·have HE := zv2 (zlz (x := x) (s := s) (by
     rcases Nat.eq_zero_or_pos x.size with h0 | h0
     · exact .inl h0
     · exact .inr ⟨h0, fun e => h ⟨h0, e⟩⟩) HX.out)
   have hend := zi5 h
   clear h
   rcases hend with h0 | ⟨h0, hb⟩
   all_goals
    go_wp2
    go_loop [1] (fun v => ∃ y : ByteArray, v = .string y /\ y.size ≤ t.size /\ V.value y.data.toList = V.value t.data.toList) (fun v => szOf v)
    case atStart => exact ⟨t, rfl, zv4 _, rfl⟩
    case round =>
     obtain ⟨y, rfl, g2, hy⟩ := hrel
     have HY := zv2 hy
     clear hy
     by_cases h : ∃ h0 : 0 < y.size, y[0] = 48
     ·obtain ⟨h0, h1⟩ := h
      have HS := zv2 (zjn h0 h1 HY.out)
      have hb : ((y[0].toNat : Int) == 48) = true := by rw [h1]; rfl
      exact zyo
     ·have g0 := zv2 (zlz (x := y) (s := t) (by
        rcases Nat.eq_zero_or_pos y.size with h0 | h0
        · exact .inl h0
        · exact .inr ⟨h0, fun e => h ⟨h0, e⟩⟩) HY.out)
      have hend := zi5 h
      clear h
      have HF2 : Hid (V.numbers s.data.toList t.data.toList = V.cor (Lib.compareInt x.size y.size) (Lib.compareBytes x.data.toList y.data.toList)) := zv2 (by
        rw [HF.out, HE.out, g0.out]; simp only ; rfl)
      rcases hend with h0 | ⟨h0, hb⟩
      all_goals
       rcases Nat.lt_trichotomy x.size y.size with hc | hc | hc
       ·have hn : ((x.size : Int) != y.size) = true := by rw [bne_iff_ne]; omega
        have HF3 : Hid (V.numbers s.data.toList t.data.toList = -1) := zv2 (by
          rw [HF2.out]; unfold Lib.compareInt V.cor; rw [if_pos (show (x.size : Int) < y.size by omega)]; rfl)
        go_wp2
        all_goals
         go_ret
         exact ⟨zv HF3.out.symm, rfl⟩
       ·have hn : ((x.size : Int) != y.size) = false := by rw [bne_eq_false_iff_eq]; omega
        have HF3 : Hid (V.numbers s.data.toList t.data.toList = Lib.compareBytes x.data.toList y.data.toList) := zv2 (by
          rw [HF2.out]; unfold Lib.compareInt V.cor; rw [hc]; simp)
        have HC := zv2 hc
        clear hc
        go_wp2_with fail
        refine (Tryz.strings_Compare _ _ _).mono ?_
        rintro e w' ⟨rfl, rfl⟩
        go_wp2
        all_goals
         go_ret
         exact ⟨zv HF3.out.symm, rfl⟩
       ·have hn : ((x.size : Int) != y.size) = true := by rw [bne_iff_ne]; omega
        have HF3 : Hid (V.numbers s.data.toList t.data.toList = 1) := zv2 (by
          rw [HF2.out]; unfold Lib.compareInt V.cor; rw [if_neg (show ¬ (x.size : Int) < y.size by omega), if_pos (show (x.size : Int) > y.size by omega)]; rfl)
        go_wp2
        all_goals
         go_ret
         exact ⟨zv HF3.out.symm, rfl⟩
theorem zhu (s t : ByteArray) (w : World) (hs : s.size ≤ maxLen) (ht : t.size ≤ maxLen) :
  Calls Tryz.prog 87 #[.string s, .string t] w fun e w' => e = .returned (.int .i64 (V.jz s.data.toList t.data.toList)) /\ w = w' := by
 have HF : Hid (V.jz s.data.toList t.data.toList = if V.digits s.data.toList && V.digits t.data.toList then V.numbers s.data.toList t.data.toList else if V.digits s.data.toList then -1 else if V.digits t.data.toList then 1 else Lib.compareBytes s.data.toList t.data.toList) := rfl
 rcases hx : V.digits s.data.toList with _ | _ <;> rcases hy : V.digits t.data.toList with _ | _
 all_goals
  have HX := zv2 hx
  have HY := zv2 hy
  clear hx hy
  rw [HX.out, HY.out] at HF
  go_enter Tryz.func87, Tryz.ntmps87
  go_wp2_with fail
  refine (qk s _ hs).mono ?_
  rintro e w' ⟨rfl, rfl⟩
  simp only [HX.out]
  go_wp2_with fail
 ·refine (qk s _ hs).mono ?_
  rintro e w' ⟨rfl, rfl⟩
  simp only [HX.out]
  go_wp2_with fail
  refine (qk t _ ht).mono ?_
  rintro e w' ⟨rfl, rfl⟩
  simp only [HY.out]
  go_wp2_with fail
  refine (Tryz.strings_Compare _ _ _).mono ?_
  rintro e w' ⟨rfl, rfl⟩
  go_wp2
  go_ret
  exact ⟨zv HF.out.symm, rfl⟩
 ·refine (qk s _ hs).mono ?_
  rintro e w' ⟨rfl, rfl⟩
  simp only [HX.out]
  go_wp2_with fail
  refine (qk t _ ht).mono ?_
  rintro e w' ⟨rfl, rfl⟩
  simp only [HY.out]
  go_wp2
  go_ret
  exact ⟨zv HF.out.symm, rfl⟩
 ·refine (qk t _ ht).mono ?_
  rintro e w' ⟨rfl, rfl⟩
  simp only [HY.out]
  go_wp2_with fail
  refine (qk s _ hs).mono ?_
  rintro e w' ⟨rfl, rfl⟩
  simp only [HX.out]
  go_wp2
  go_ret
  exact ⟨zv HF.out.symm, rfl⟩
 ·refine (qk t _ ht).mono ?_
  rintro e w' ⟨rfl, rfl⟩
  simp only [HY.out]
  go_wp2_with fail
  refine (zex _ _ _ hs ht).mono ?_
  rintro e w' ⟨rfl, rfl⟩
  go_wp2
  go_ret
  exact ⟨zv HF.out.symm, rfl⟩
open Go.RowKit
theorem zgq (n : Int) (w : World) :
  Calls Tryz.prog 88 #[.int .i64 n] w fun e w' => e = .returned (.int .i64 (V.sgn n)) /\ w = w' := by
 go_enter Tryz.func88, Tryz.ntmps88
 go_wp2
 all_goals go_ret
 all_goals exact ⟨zv (by unfold V.sgn; (repeat' split) <;> omega), rfl⟩
theorem zci (s : ByteArray) (d : Bool) (w : World) (hs : s.size ≤ maxLen) :
  Calls Tryz.prog 125 #[.string s, .bool d] w fun e w' => e = .returned (.tuple #[.string ⟨(V.qa s.data.toList d).1.toArray⟩, .string ⟨(V.qa s.data.toList d).2.toArray⟩]) /\ Below w.heap.size w w' := by
 unfold maxLen at hs
 go_enter Tryz.func125, Tryz.ntmps125
 go_wp2
 go_loop [6] (fun i => ∃ k : Nat, k ≤ s.size /\ i = .int .i64 k /\ (s.data.toList.take k).all (fun c => V.dig c == d) = true) (fun i => s.size - (intOf i).toNat)
 case atStart => exact ⟨0, Nat.zero_le _, rfl, rfl⟩
 case round =>
  obtain ⟨k, hk, rfl, hp⟩ := hrel
  have HP := zv2 hp
  clear hp
  have fin : (k = s.size ∨ ∃ h : k < s.size, (V.digB s[k].toNat == d) = false) -> Hid (s.extract 0 k = ⟨(V.qa s.data.toList d).1.toArray⟩ /\ s.extract k s.size = ⟨(V.qa s.data.toList d).2.toArray⟩) := fun h => by
   have := V.zta s.data.toList (fun c => V.dig c == d) k (by rw [zj]; exact hk) HP.out (by
     rcases h with h | ⟨h, h2⟩
     · left; rw [zj]; exact h
     · right
       have e : s.data.toList[k]'(by rw [zj]; exact h) = s[k] := by simp; rfl
       exact ⟨by rw [zj]; exact h, by rw [e]; exact h2⟩)
   exact zz4
  have FIN := zv2 fin
  clear fin
  by_cases hlt : k < s.size
  ·have hl : k < s.data.toList.length := by rw [zj]; exact hlt
   have HT := zv2 (V.zca (p := fun c => V.dig c == d) hl)
   have HE : Hid (s.data.toList[k] = s[k]) := zv2 (by simp; rfl)
   rcases hD : V.digB s[k].toNat with _ | _ <;> cases d
   all_goals
    have HD := zv2 hD
    clear hD
    go_wp2_with fail
    refine (zbf _ _).mono ?_
    rintro e w' ⟨rfl, rfl⟩
    simp only [HD.out]
    go_wp2
   ·exact zx6
   ·have HF := FIN.out (.inr ⟨hlt, by rw [HD.out]; rfl⟩)
    exact zww
   ·have HF := FIN.out (.inr ⟨hlt, by rw [HD.out]; rfl⟩)
    exact zww
   ·exact zx7
  ·have HF := FIN.out (.inl (by omega))
   go_wp2
   exact zww
theorem zxp {P : Prop} (h : P := by
 have HL := zv2 hL
 clear hL h1
 go_enter Tryz.func126, Tryz.ntmps126
 go_wp2_with fail
 refine (wh _ _).mono ?_
 rintro e w' ⟨rfl, rfl⟩
 simp only [HL.out]
 go_wp2
 go_ret
 exact ⟨zv HW.out.symm, rfl⟩) : P := h
theorem zyy {P : Prop} (h : P := by
 go_enter Tryz.func126, Tryz.ntmps126
 go_wp2
 go_ret
 exact ⟨zv HW.out.symm, rfl⟩) : P := h
theorem zgz (s : ByteArray) (i : Nat) (w : World) (_hs : s.size ≤ maxLen) (_hi : i ≤ maxLen) :
  Calls Tryz.prog 126 #[.string s, .int .i64 i] w fun e w' => e = .returned (.int .i64 (V.rwt s.data.toList i)) /\ w = w' := by
 unfold maxLen at _hs _hi
 by_cases hlt : i < s.size
 ·have HG := zv2 (ztn hlt)
  have g0 := s[i].toNat_lt
  by_cases h1 : s[i] = 126
  ·have HW : Hid (V.rwt s.data.toList i = 0) := zv2 (by unfold V.rwt; rw [if_neg (by rw [zj]; omega), HG.out, if_pos h1])
   have hb : ((s[i].toNat : Int) == 126) = true := by rw [h1]; rfl
   clear h1
   exact zyy
  ·have hb : ((s[i].toNat : Int) == 126) = false := by
    exact zz9
   rcases hL : V.letB s[i].toNat with _ | _
   ·have HW : Hid (V.rwt s.data.toList i = 300 + s[i].toNat) := zv2 (by
      unfold V.rwt; rw [if_neg (by rw [zj]; omega), HG.out, if_neg h1, if_neg]
      unfold V.lett; rw [hL]; simp)
    exact zxp
   ·have HW : Hid (V.rwt s.data.toList i = 2 + s[i].toNat) := zv2 (by
      unfold V.rwt; rw [if_neg (by rw [zj]; omega), HG.out, if_neg h1, if_pos]
      unfold V.lett; rw [hL])
    exact zxp
 ·have HW : Hid (V.rwt s.data.toList i = 1) := zv2 (by unfold V.rwt; rw [if_pos (by rw [zj]; omega)])
  exact zyy
theorem zuy (s t : ByteArray) (w : World) (hs : s.size ≤ maxLen) (ht : t.size ≤ maxLen) (g2 : V.Ascii s.data.toList) (g6 : V.Ascii t.data.toList) :
  Calls Tryz.prog 90 #[.string s, .string t] w fun e w' => e = .returned (.int .i64 (V.qj s.data.toList t.data.toList)) /\ Below w.heap.size w w' := by
 unfold maxLen at hs ht
 have h9 := zv2 g2
 have HAT := zv2 g6
 clear g2 g6
 go_enter Tryz.func90, Tryz.ntmps90
 go_wp2
 go_loopw [0, 1] (fun v1 v2 wr => ∃ a b : ByteArray, v1 = .string a /\ v2 = .string b /\ a.size ≤ s.size /\ b.size ≤ t.size /\ V.Ascii a.data.toList /\ V.Ascii b.data.toList /\ V.qj a.data.toList b.data.toList = V.qj s.data.toList t.data.toList /\ Below w.heap.size w wr) (fun v1 v2 _ => szOf v1 + szOf v2)
 case atStart => exact ⟨s, t, rfl, rfl, zv4 _, zv4 _, h9.out, HAT.out, rfl, zv5 _ _⟩
 case round =>
  obtain ⟨a, b, rfl, rfl, g2, j8, g7, g8, g9, hB⟩ := hrel
  have HT := zv2 g9
  have HB := zv2 hB
  have h3 := zv2 g7
  have HAB := zv2 g8
  clear g9 hB g7 g8
  rcases hea : a.toList.isEmpty with _ | _ <;> rcases heb : b.toList.isEmpty with _ | _
  case true.true =>
   exact zx0
  all_goals
   have g3 : ¬ (a.data.toList.isEmpty && b.data.toList.isEmpty) = true := by rw [← Lib.toList_data, ← Lib.toList_data, hea, heb]; simp
   have g0 := V.zdu _ _ g3
   have HNE := zv2 g3
   clear g3
   obtain ⟨x, a1, hxa⟩ : ∃ x a1, V.qa a.data.toList false = (x, a1) := ⟨_, _, rfl⟩
   obtain ⟨y, b1, hyb⟩ : ∃ y b1, V.qa b.data.toList false = (y, b1) := ⟨_, _, rfl⟩
   obtain ⟨p, a2, hpa⟩ : ∃ p a2, V.qa a1 true = (p, a2) := ⟨_, _, rfl⟩
   obtain ⟨q, b2, hqb⟩ : ∃ q b2, V.qa b1 true = (q, b2) := ⟨_, _, rfl⟩
   have l1 := V.ql a.data.toList false
   have l2 := V.ql b.data.toList false
   have l3 := V.ql a1 true
   have l4 := V.ql b1 true
   have AX := zv2 (h3.out.take false)
   have AA1 := h3.out.rest false
   have AY := zv2 (HAB.out.take false)
   have AB1 := HAB.out.rest false
   rw [hxa] at AX AA1
   rw [hyb] at AY AB1
   have AA2 := zv2 (AA1.rest true)
   have AB2 := zv2 (AB1.rest true)
   rw [hpa] at AA2
   rw [hqb] at AB2
   clear AA1 AB1
   rw [hxa, zj] at l1
   rw [hyb, zj] at l2
   rw [hpa] at l3
   rw [hqb] at l4
   have l5 : a2.length + b2.length < a.size + b.size := by
    exact zxh
   rw [hxa, hyb] at g0
   simp only [hpa, hqb] at g0
   rw [HT.out] at g0
   have HSTEP := zv2 g0
   have j0 := zv2 hxa
   have j1 := zv2 hyb
   have j2 := zv2 hpa
   have j3 := zv2 hqb
   simp only at l1 l2 l3 l4
   have m1 : x.length ≤ s.size := by omega
   have m2 : y.length ≤ t.size := by omega
   have m3 : a1.length ≤ s.size := by omega
   have m4 : b1.length ≤ t.size := by omega
   have m5 : a2.length ≤ s.size := by omega
   have m6 : b2.length ≤ t.size := by omega
   have m7 : p.length ≤ s.size := by omega
   have m8 : q.length ≤ t.size := by omega
   have L5 := zv2 l5
   clear g0 hxa hyb hpa hqb l1 l2 l3 l4 l5
   go_wp2_with fail
   refine (zci a false _ (by unfold maxLen; omega)).mono ?_
   rintro e w1 ⟨rfl, hb1⟩
   simp only [j0.out]
   go_wp2_with fail
   refine (zci b false _ (by unfold maxLen; omega)).mono ?_
   rintro e w2 ⟨rfl, hb2⟩
   simp only [j1.out]
   have HB2 := zv2 (HB.out.trans ((hb1.trans (hb2.mono hb1.size)).mono HB.out.size))
   clear hb1 hb2
   go_wp2
   go_loop [9] (fun i => ∃ k : Nat, k ≤ max x.length y.length /\ i = .int .i64 k /\ ∀ j, j < k -> Lib.compareInt (V.wt x j) (V.wt y j) = 0) (fun i => max x.length y.length - (intOf i).toNat)
   case atStart => exact ⟨0, Nat.zero_le _, rfl, fun j hj => by omega⟩
   case round =>
    obtain ⟨k, hk, rfl, hz⟩ := hrel
    have HZ := zv2 hz
    clear hz
    by_cases hlt : k < max x.length y.length
    ·have j4 : (k < x.length) ∨ (¬ k < x.length /\ k < y.length) := by omega
     have g4 := zpe x y k hlt HZ.out
     have h8 := zv2 g4
     have j5 := zv2 hlt
     have g1 := zv2 (V.sgn_rwt x y k AX.out AY.out)
     have h4 := V.zty x k
     have h6 := V.zty y k
     obtain ⟨c1, hc1⟩ : ∃ c1, V.rwt x k = c1 := ⟨_, rfl⟩
     obtain ⟨c2, g5⟩ : ∃ c2, V.rwt y k = c2 := ⟨_, rfl⟩
     rw [hc1] at h4 g1
     rw [g5] at h6 g1
     have j6 := zv2 hc1
     have j7 := zv2 g5
     obtain ⟨r1, r1'⟩ := h4
     obtain ⟨r2, r2'⟩ := h6
     clear g4 hlt hc1 g5
     rcases j4 with h1 | ⟨h1, h2⟩
     all_goals
      go_wp2_with fail
      refine (zgz ⟨x.toArray⟩ k _ (by show x.length ≤ _; unfold maxLen; omega) (by unfold maxLen; omega)).mono ?_
      rintro e w' ⟨rfl, rfl⟩
      simp only [j6.out]
      go_wp2_with fail
      refine (zgz ⟨y.toArray⟩ k _ (by show y.length ≤ _; unfold maxLen; omega) (by unfold maxLen; omega)).mono ?_
      rintro e w' ⟨rfl, rfl⟩
      simp only [j7.out]
      by_cases h0 : c1 = c2
      ·have HR : Hid (∀ j, j < k + 1 -> Lib.compareInt (V.wt x j) (V.wt y j) = 0) := zv2 (fun j hj => by
         by_cases e : j = k
         · subst e; rw [← g1.out, h0, Int.sub_self]; rfl
         · exact HZ.out j (by omega))
       have j9 := j5.out
       have hb : (c1 - c2 != 0) = false := by rw [h0, Int.sub_self]; rfl
       exact zx4
      ·have HR : Hid (V.qj s.data.toList t.data.toList = V.sgn (c1 - c2)) := zv2 (by
         have h5 : Lib.compareInt (V.wt x k) (V.wt y k) ≠ 0 := by rw [← g1.out, Ne, V.sgn_zero]; omega
         rw [HSTEP.out, h8.out h5, V.jy h5, g1.out])
       have hb : (c1 - c2 != 0) = true := by rw [bne_iff_ne]; omega
       clear h0
       go_wp2_with fail
       refine (zgq _ _).mono ?_
       rintro e w' ⟨rfl, rfl⟩
       go_wp2
       go_ret
       exact ⟨zv HR.out.symm, HB2.out⟩
    ·have HZ0 : Hid (V.wcmp x y = 0) := zv2 (zk9 x y (fun j hj => HZ.out j (by omega)))
     have h1 : ¬ k < x.length := by omega
     have h2 : ¬ k < y.length := by omega
     clear hlt
     go_wp2_with fail
     refine (zci ⟨a1.toArray⟩ true _ (by show a1.length ≤ _; unfold maxLen; omega)).mono ?_
     rintro e w3 ⟨rfl, hb3⟩
     simp only [j2.out]
     go_wp2_with fail
     refine (zci ⟨b1.toArray⟩ true _ (by show b1.length ≤ _; unfold maxLen; omega)).mono ?_
     rintro e w4 ⟨rfl, h7⟩
     simp only [j3.out]
     go_wp2_with fail
     refine (zex ⟨p.toArray⟩ ⟨q.toArray⟩ _ (by show p.length ≤ _; unfold maxLen; omega) (by show q.length ≤ _; unfold maxLen; omega)).mono ?_
     rintro e w5 ⟨rfl, rfl⟩
     simp only
     have HB5 := zv2 (HB2.out.trans ((hb3.trans (h7.mono hb3.size)).mono HB2.out.size))
     clear hb3 h7
     by_cases h0 : V.numbers p q = 0
     ·have HR : Hid (V.qj a2 b2 = V.qj s.data.toList t.data.toList) := zv2 (by
        rw [HSTEP.out, HZ0.out, h0]; rfl)
      rw [h0]
      clear h0
      go_wp2
      go_roundw
      case rel => exact ⟨⟨a2.toArray⟩, ⟨b2.toArray⟩, rfl, rfl, m5, m6, by simp only ; exact AA2.out, by simp only ; exact AB2.out, by simp only ; exact HR.out, HB5.out⟩
      case measure => exact L5.out
     ·exact zxn
theorem zqo (x y : V.Bs) (w : World) (hx : x.length ≤ 1000) (hy : y.length ≤ 1000) (ax : V.Ascii x) (ay : V.Ascii y) :
  Calls Tryz.prog 90 #[.string ⟨x.toArray⟩, .string ⟨y.toArray⟩] w fun e w' => e = .returned (.int .i64 (V.qj x y)) /\ Below w.heap.size w w' := by
 have h := zuy ⟨x.toArray⟩ ⟨y.toArray⟩ w (by show x.length ≤ _; unfold maxLen; omega) (by show y.length ≤ _; unfold maxLen; omega)
 simp only  at h
 exact h ax ay
open Go.RowKit
theorem zxl {P : Prop} (h : P := by
 rw [h1] at HN
 go_enter Tryz.func121, Tryz.ntmps121
 go_wp2_with fail
 refine (qk s _ hs').mono ?_
 rintro e w' ⟨rfl, rfl⟩
 simp only [HD.out]
 go_wp2
 all_goals
  go_ret
  exact ⟨zf (by rw [HN.out]; simp_all), rfl⟩) : P := h
theorem xy (s : ByteArray) (w : World) (hs : s.size ≤ maxLen) :
  Calls Tryz.prog 121 #[.string s] w fun e w' => e = .returned (.bool (V.numb s.data.toList true)) /\ w = w' := by
 have hs' := hs
 unfold maxLen at hs
 rcases hd : V.digits s.data.toList with _ | _
 ·have HD := zv2 hd
  have HN : Hid (V.numb s.data.toList true = false) := zv2 (by unfold V.numb; rw [hd]; rfl)
  clear hd
  go_enter Tryz.func121, Tryz.ntmps121
  go_wp2_with fail
  refine (qk s _ hs').mono ?_
  rintro e w' ⟨rfl, rfl⟩
  simp only [HD.out]
  go_wp2
  go_ret
  exact ⟨zf HN.out.symm, rfl⟩
 ·have HD := zv2 hd
  have hp := ze2 hd
  rw [zj] at hp
  have h0 := zv2 (at0 hp)
  have HN : Hid (V.numb s.data.toList true = (((s[0].toNat : Int) != 48) || ((s.size : Int) == 1))) := by
   refine zv2 ?_
   unfold V.numb
   have : (s[0] == (48 : UInt8)) = ((s[0].toNat : Int) == 48) := by
    rw [Bool.eq_iff_iff]; simp [← UInt8.toNat_inj]; omega
   rw [HD.out, h0.out, zj, this]
   unfold bne
   rcases (s[0].toNat : Int) == 48 with _ | _
   ·simp
   ·rw [Bool.eq_iff_iff]; simp; omega
  clear hd
  rcases h1 : ((s[0].toNat : Int) != 48) with _ | _
  ·exact zxl
  ·exact zxl
end Go.Proofs.YtbikeahmldobkaaGreatDoor
