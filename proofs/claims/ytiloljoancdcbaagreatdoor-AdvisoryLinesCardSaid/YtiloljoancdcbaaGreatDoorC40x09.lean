/-
  Lemmas for the law.
-/
import Derived.Test.YtiloljoancdcbaaGreatDoorC40x03
import Derived.Test.YtiloljoancdcbaaGreatDoorC40x07
import Derived.Test.YtiloljoancdcbaaGreatDoorC40x08
import Derived.Test.YtiloljoancdcbaaGreatDoorC40x01
set_option linter.all false
set_option maxRecDepth 100000
set_option maxHeartbeats 3200000
namespace Go.Proofs.YtiloljoancdcbaaGreatDoor
open Go.RowKit
theorem zb0 (n : Int) (w : World) :
  Calls Tryz.prog 165 #[.int .u8 n] w fun e w' => e = .returned (.bool (V.digB n)) /\ w = w' := by
 go_enter Tryz.func165, Tryz.ntmps165
 go_wp2
 all_goals go_ret
 all_goals exact ⟨zc (by unfold V.digB; simp_all; try omega), rfl⟩
theorem zaj (n : Int) (w : World) :
  Calls Tryz.prog 179 #[.int .u8 n] w fun e w' => e = .returned (.bool (V.letB n)) /\ w = w' := by
 go_enter Tryz.func179, Tryz.ntmps179
 go_wp2
 all_goals go_ret
 all_goals exact ⟨zc (by unfold V.letB; simp_all; try omega), rfl⟩
theorem zob {s : ByteArray} {k : Nat} (hlt : k < s.size) : s.data.toList[k]'(by rw [zf]; exact hlt) = s[k] := by simp; rfl
theorem qm (s : ByteArray) (w : World) (hs : s.size ≤ maxLen) :
  Calls Tryz.prog 138 #[.string s] w fun e w' => e = .returned (.bool (V.digits s.data.toList)) /\ w = w' := by
 unfold maxLen at hs
 go_enter Tryz.func138, Tryz.ntmps138
 go_wp2
 go_loop [3] (fun i => ∃ k : Nat, k ≤ s.size /\ i = .int .i64 k /\ (s.data.toList.take k).all V.dig = true) (fun i => s.size - (intOf i).toNat)
 case atStart => exact ⟨0, Nat.zero_le _, rfl, rfl⟩
 case round =>
  obtain ⟨k, hk, rfl, hp⟩ := hrel
  have HP := zvq hp
  clear hp
  by_cases hlt : k < s.size
  ·have hl : k < s.data.toList.length := by rw [zf]; exact hlt
   have HT := zvq (V.zcs (p := V.dig) hl)
   have HE := zvq (zob hlt)
   rcases hpc : V.digB s[k].toNat with _ | _
   all_goals
    have HPC := zvq hpc
    clear hpc
    go_wp2_with fail
    refine (zb0 _ _).mono ?_
    rintro e w' ⟨rfl, rfl⟩
    simp only [HPC.out]
    go_wp2
   ·exact z1l
   ·go_round
    case rel => exact ⟨k + 1, by omega, by go_num, by rw [HT.out, HP.out, HE.out]; exact HPC.out⟩
    case measure => simp [intOf]; omega
  ·have ht : (s.data.toList.take k) = s.data.toList := List.take_of_length_le (by rw [zf]; omega)
   rw [ht] at HP
   have HQ : Hid (V.digits s.data.toList = !s.data.toList.isEmpty) := zvq (by unfold V.digits V.only; rw [HP.out]; rfl)
   exact z02
theorem zqb {s : ByteArray} {k : Nat} (h : k < s.size) : s.extract k (k + 1) = ⟨#[s[k]]⟩ := by
 apply jj
 rw [Lib.extract_data]
 have hl : k < s.data.toList.length := by rw [zf]; exact h
 rw [List.drop_eq_getElem_cons hl, zob h]
 simp
theorem zyy {P : Prop} (h : P := by
 go_round
 case rel => exact ⟨k + 1, by omega, by go_num, by rw [HT.out, HP.out, HE.out, HK.out]; rfl⟩
 case measure => simp [intOf]; omega) : P := h
theorem wu (s o : ByteArray) (w : World) (hs : s.size ≤ maxLen) :
  Calls Tryz.prog 162 #[.string s, .string o] w fun e w' => e = .returned (.bool (V.only (V.kind o.data.toList) s.data.toList)) /\ w = w' := by
 unfold maxLen at hs
 go_enter Tryz.func162, Tryz.ntmps162
 go_wp2
 go_loop [5] (fun i => ∃ k : Nat, k ≤ s.size /\ i = .int .i64 k /\ (s.data.toList.take k).all (V.kind o.data.toList) = true) (fun i => s.size - (intOf i).toNat)
 case atStart => exact ⟨0, Nat.zero_le _, rfl, rfl⟩
 case round =>
  obtain ⟨k, hk, rfl, hp⟩ := hrel
  have HP := zvq hp
  clear hp
  by_cases hlt : k < s.size
  ·have hl : k < s.data.toList.length := by rw [zf]; exact hlt
   have HT := zvq (V.zcs (p := V.kind o.data.toList) hl)
   have HE := zvq (zob hlt)
   have HX := zvq (zqb hlt)
   have HK : Hid (V.kind o.data.toList s[k] = (V.letB s[k].toNat || V.digB s[k].toNat || decide (s[k] ∈ o.data.toList))) := rfl
   rcases hL : V.letB s[k].toNat with _ | _
   ·have HL := zvq hL
    rcases hD : V.digB s[k].toNat with _ | _
    ·have HD := zvq hD
     rcases hM : decide (s[k] ∈ o.data.toList) with _ | _
     all_goals
      have HM := zvq hM
      rw [hL, hD, hM] at HK
      clear hL hD hM
      go_wp2_with fail
      refine (zaj _ _).mono ?_
      rintro e w' ⟨rfl, rfl⟩
      simp only [HL.out]
      go_wp2_with fail
      refine (zb0 _ _).mono ?_
      rintro e w' ⟨rfl, rfl⟩
      simp only [HD.out]
      go_wp2_with fail
      rw [HX.out]
      refine (Tryz.strings_Contains_one _ _ _).mono ?_
      rintro e w' ⟨rfl, rfl⟩
      rw [V.xx, HM.out]
      go_wp2
     ·go_ret
      exact ⟨zc (V.zpv (k := k) (by rw [zf]; exact hlt) (by rw [HE.out]; exact HK.out)).symm, rfl⟩
     ·exact zyy
    ·have HD := zvq hD
     rw [hL, hD] at HK
     clear hL hD
     go_wp2_with fail
     refine (zaj _ _).mono ?_
     rintro e w' ⟨rfl, rfl⟩
     simp only [HL.out]
     go_wp2_with fail
     refine (zb0 _ _).mono ?_
     rintro e w' ⟨rfl, rfl⟩
     simp only [HD.out]
     go_wp2
     exact zyy
   ·have HL := zvq hL
    rw [hL] at HK
    clear hL
    go_wp2_with fail
    refine (zaj _ _).mono ?_
    rintro e w' ⟨rfl, rfl⟩
    simp only [HL.out]
    go_wp2
    exact zyy
  ·have ht : (s.data.toList.take k) = s.data.toList := List.take_of_length_le (by rw [zf]; omega)
   rw [ht] at HP
   have HQ : Hid (V.only (V.kind o.data.toList) s.data.toList = !s.data.toList.isEmpty) := zvq (by unfold V.only; rw [HP.out]; rfl)
   exact z02
theorem zk6 {x s : ByteArray} (h0 : 0 < x.size) (h : x[0] = 48) (hx : V.value x.data.toList = V.value s.data.toList) : V.value (x.extract 1 x.size).data.toList = V.value s.data.toList := by
 rw [← hx, V.zsq (l := x.data.toList) (by rw [at0 h0]; exact h) (by rw [zf]; exact h0), Lib.extract_to_end]
theorem znf {x s : ByteArray} (h : x.size = 0 ∨ ∃ h0 : 0 < x.size, x[0] ≠ 48) (hx : V.value x.data.toList = V.value s.data.toList) : x = ⟨(V.value s.data.toList).toArray⟩ := by
 apply jj
 rw [← hx]
 simp only
 rcases h with h | ⟨h0, h⟩
 ·have : x.data.toList = [] := List.eq_nil_of_length_eq_zero (by rw [zf]; exact h)
  rw [this]; rfl
 ·exact (V.zrp (by rw [at0 h0]; exact h)).symm
theorem zkf {x : ByteArray} (h : ¬ ∃ h0 : 0 < x.size, x[0] = 48) : (¬ 0 < x.size) ∨ (∃ h0 : 0 < x.size, ((x[0].toNat : Int) == 48) = false) := by
 rcases Nat.eq_zero_or_pos x.size with h0 | h0
 ·exact .inl (by omega)
 ·refine .inr ⟨h0, ?_⟩
  rw [zvu]
  intro e
  refine h ⟨h0, ?_⟩
  rw [← UInt8.toNat_inj]
  have : x[0].toNat = 48 := by omega
  rw [this]; rfl
theorem zzx {P : Prop} (h : P := by
 clear h1
 go_wp2
 go_round
 case rel => exact ⟨_, rfl, by simp [ByteArray.size_extract]; omega, HS.out⟩
 case measure => simp [szOf, ByteArray.size_extract]; omega) : P := h
theorem zfq (s t : ByteArray) (w : World) (_hs : s.size ≤ maxLen) (_ht : t.size ≤ maxLen) :
  Calls Tryz.prog 166 #[.string s, .string t] w fun e w' => e = .returned (.int .i64 (V.numbers s.data.toList t.data.toList)) /\ w = w' := by
 unfold maxLen at _hs _ht
 have HF : Hid (V.numbers s.data.toList t.data.toList = V.cor (Lib.compareInt (V.value s.data.toList).length (V.value t.data.toList).length) (Lib.compareBytes (V.value s.data.toList) (V.value t.data.toList))) := rfl
 go_enter Tryz.func166, Tryz.ntmps166
 go_wp2
 go_loop [0] (fun v => ∃ x : ByteArray, v = .string x /\ x.size ≤ s.size /\ V.value x.data.toList = V.value s.data.toList) (fun v => szOf v)
 case atStart => exact ⟨s, rfl, zvs _, rfl⟩
 case round =>
  obtain ⟨x, rfl, hxs, hx⟩ := hrel
  have HX := zvq hx
  clear hx
  by_cases h : ∃ h0 : 0 < x.size, x[0] = 48
  ·obtain ⟨h0, h1⟩ := h
   have HS := zvq (zk6 h0 h1 HX.out)
   have hb : ((x[0].toNat : Int) == 48) = true := by rw [h1]; rfl
   exact zzx
  ·have HE := zvq (znf (x := x) (s := s) (by
     rcases Nat.eq_zero_or_pos x.size with h0 | h0
     · exact .inl h0
     · exact .inr ⟨h0, fun e => h ⟨h0, e⟩⟩) HX.out)
   have hend := zkf h
   clear h
   rcases hend with h0 | ⟨h0, hb⟩
   all_goals
    go_wp2
    go_loop [1] (fun v => ∃ y : ByteArray, v = .string y /\ y.size ≤ t.size /\ V.value y.data.toList = V.value t.data.toList) (fun v => szOf v)
    case atStart => exact ⟨t, rfl, zvs _, rfl⟩
    case round =>
     obtain ⟨y, rfl, hyt, hy⟩ := hrel
     have HY := zvq hy
     clear hy
     by_cases h : ∃ h0 : 0 < y.size, y[0] = 48
     ·obtain ⟨h0, h1⟩ := h
      have HS := zvq (zk6 h0 h1 HY.out)
      have hb : ((y[0].toNat : Int) == 48) = true := by rw [h1]; rfl
      exact zzx
     ·have HE2 := zvq (znf (x := y) (s := t) (by
        rcases Nat.eq_zero_or_pos y.size with h0 | h0
        · exact .inl h0
        · exact .inr ⟨h0, fun e => h ⟨h0, e⟩⟩) HY.out)
      have hend := zkf h
      clear h
      have HF2 : Hid (V.numbers s.data.toList t.data.toList = V.cor (Lib.compareInt x.size y.size) (Lib.compareBytes x.data.toList y.data.toList)) := zvq (by
        rw [HF.out, HE.out, HE2.out]; simp only ; rfl)
      rcases hend with h0 | ⟨h0, hb⟩
      all_goals
       rcases Nat.lt_trichotomy x.size y.size with hc | hc | hc
       ·have hn : ((x.size : Int) != y.size) = true := by rw [bne_iff_ne]; omega
        have HF3 : Hid (V.numbers s.data.toList t.data.toList = -1) := zvq (by
          rw [HF2.out]; unfold Lib.compareInt V.cor; rw [if_pos (show (x.size : Int) < y.size by omega)]; rfl)
        go_wp2
        all_goals
         go_ret
         exact ⟨zn HF3.out.symm, rfl⟩
       ·have hn : ((x.size : Int) != y.size) = false := by rw [bne_eq_false_iff_eq]; omega
        have HF3 : Hid (V.numbers s.data.toList t.data.toList = Lib.compareBytes x.data.toList y.data.toList) := zvq (by
          rw [HF2.out]; unfold Lib.compareInt V.cor; rw [hc]; simp)
        have HC := zvq hc
        clear hc
        go_wp2_with fail
        refine (Tryz.strings_Compare _ _ _).mono ?_
        rintro e w' ⟨rfl, rfl⟩
        go_wp2
        all_goals
         go_ret
         exact ⟨zn HF3.out.symm, rfl⟩
       ·have hn : ((x.size : Int) != y.size) = true := by rw [bne_iff_ne]; omega
        have HF3 : Hid (V.numbers s.data.toList t.data.toList = 1) := zvq (by
          rw [HF2.out]; unfold Lib.compareInt V.cor; rw [if_neg (show ¬ (x.size : Int) < y.size by omega), if_pos (show (x.size : Int) > y.size by omega)]; rfl)
        go_wp2
        all_goals
         go_ret
         exact ⟨zn HF3.out.symm, rfl⟩
theorem ziz (s t : ByteArray) (w : World) (hs : s.size ≤ maxLen) (ht : t.size ≤ maxLen) :
  Calls Tryz.prog 167 #[.string s, .string t] w fun e w' => e = .returned (.int .i64 (V.ki s.data.toList t.data.toList)) /\ w = w' := by
 have HF : Hid (V.ki s.data.toList t.data.toList = if V.digits s.data.toList && V.digits t.data.toList then V.numbers s.data.toList t.data.toList else if V.digits s.data.toList then -1 else if V.digits t.data.toList then 1 else Lib.compareBytes s.data.toList t.data.toList) := rfl
 rcases hx : V.digits s.data.toList with _ | _ <;> rcases hy : V.digits t.data.toList with _ | _
 all_goals
  have HX := zvq hx
  have HY := zvq hy
  clear hx hy
  rw [HX.out, HY.out] at HF
  go_enter Tryz.func167, Tryz.ntmps167
  go_wp2_with fail
  refine (qm s _ hs).mono ?_
  rintro e w' ⟨rfl, rfl⟩
  simp only [HX.out]
  go_wp2_with fail
 ·refine (qm s _ hs).mono ?_
  rintro e w' ⟨rfl, rfl⟩
  simp only [HX.out]
  go_wp2_with fail
  refine (qm t _ ht).mono ?_
  rintro e w' ⟨rfl, rfl⟩
  simp only [HY.out]
  go_wp2_with fail
  refine (Tryz.strings_Compare _ _ _).mono ?_
  rintro e w' ⟨rfl, rfl⟩
  go_wp2
  go_ret
  exact ⟨zn HF.out.symm, rfl⟩
 ·refine (qm s _ hs).mono ?_
  rintro e w' ⟨rfl, rfl⟩
  simp only [HX.out]
  go_wp2_with fail
  refine (qm t _ ht).mono ?_
  rintro e w' ⟨rfl, rfl⟩
  simp only [HY.out]
  go_wp2
  go_ret
  exact ⟨zn HF.out.symm, rfl⟩
 ·refine (qm t _ ht).mono ?_
  rintro e w' ⟨rfl, rfl⟩
  simp only [HY.out]
  go_wp2_with fail
  refine (qm s _ hs).mono ?_
  rintro e w' ⟨rfl, rfl⟩
  simp only [HX.out]
  go_wp2
  go_ret
  exact ⟨zn HF.out.symm, rfl⟩
 ·refine (qm t _ ht).mono ?_
  rintro e w' ⟨rfl, rfl⟩
  simp only [HY.out]
  go_wp2_with fail
  refine (zfq _ _ _ hs ht).mono ?_
  rintro e w' ⟨rfl, rfl⟩
  go_wp2
  go_ret
  exact ⟨zn HF.out.symm, rfl⟩
open Go.RowKit
theorem zhm (n : Int) (w : World) :
  Calls Tryz.prog 168 #[.int .i64 n] w fun e w' => e = .returned (.int .i64 (V.sgn n)) /\ w = w' := by
 go_enter Tryz.func168, Tryz.ntmps168
 go_wp2
 all_goals go_ret
 all_goals exact ⟨zn (by unfold V.sgn; (repeat' split) <;> omega), rfl⟩
theorem zcz (s : ByteArray) (d : Bool) (w : World) (hs : s.size ≤ maxLen) :
  Calls Tryz.prog 184 #[.string s, .bool d] w fun e w' => e = .returned (.tuple #[.string ⟨(V.zu s.data.toList d).1.toArray⟩, .string ⟨(V.zu s.data.toList d).2.toArray⟩]) /\ Below w.heap.size w w' := by
 unfold maxLen at hs
 go_enter Tryz.func184, Tryz.ntmps184
 go_wp2
 go_loop [6] (fun i => ∃ k : Nat, k ≤ s.size /\ i = .int .i64 k /\ (s.data.toList.take k).all (fun c => V.dig c == d) = true) (fun i => s.size - (intOf i).toNat)
 case atStart => exact ⟨0, Nat.zero_le _, rfl, rfl⟩
 case round =>
  obtain ⟨k, hk, rfl, hp⟩ := hrel
  have HP := zvq hp
  clear hp
  have fin : (k = s.size ∨ ∃ h : k < s.size, (V.digB s[k].toNat == d) = false) -> Hid (s.extract 0 k = ⟨(V.zu s.data.toList d).1.toArray⟩ /\ s.extract k s.size = ⟨(V.zu s.data.toList d).2.toArray⟩) := fun h => by
   have := V.zti s.data.toList (fun c => V.dig c == d) k (by rw [zf]; exact hk) HP.out (by
     rcases h with h | ⟨h, h2⟩
     · left; rw [zf]; exact h
     · right
       have e : s.data.toList[k]'(by rw [zf]; exact h) = s[k] := by simp; rfl
       exact ⟨by rw [zf]; exact h, by rw [e]; exact h2⟩)
   exact z1g
  have FIN := zvq fin
  clear fin
  by_cases hlt : k < s.size
  ·have hl : k < s.data.toList.length := by rw [zf]; exact hlt
   have HT := zvq (V.zcs (p := fun c => V.dig c == d) hl)
   have HE : Hid (s.data.toList[k] = s[k]) := zvq (by simp; rfl)
   rcases hD : V.digB s[k].toNat with _ | _ <;> cases d
   all_goals
    have HD := zvq hD
    clear hD
    go_wp2_with fail
    refine (zb0 _ _).mono ?_
    rintro e w' ⟨rfl, rfl⟩
    simp only [HD.out]
    go_wp2
   ·exact zzf
   ·have HF := FIN.out (.inr ⟨hlt, by rw [HD.out]; rfl⟩)
    exact zxp
   ·have HF := FIN.out (.inr ⟨hlt, by rw [HD.out]; rfl⟩)
    exact zxp
   ·exact zzg
  ·have HF := FIN.out (.inl (by omega))
   go_wp2
   exact zxp
theorem zyq {P : Prop} (h : P := by
 have HL := zvq hL
 clear hL h1
 go_enter Tryz.func185, Tryz.ntmps185
 go_wp2_with fail
 refine (zaj _ _).mono ?_
 rintro e w' ⟨rfl, rfl⟩
 simp only [HL.out]
 go_wp2
 go_ret
 exact ⟨zn HW.out.symm, rfl⟩) : P := h
theorem zz9 {P : Prop} (h : P := by
 go_enter Tryz.func185, Tryz.ntmps185
 go_wp2
 go_ret
 exact ⟨zn HW.out.symm, rfl⟩) : P := h
theorem zh5 (s : ByteArray) (i : Nat) (w : World) (_hs : s.size ≤ maxLen) (_hi : i ≤ maxLen) :
  Calls Tryz.prog 185 #[.string s, .int .i64 i] w fun e w' => e = .returned (.int .i64 (V.rwt s.data.toList i)) /\ w = w' := by
 unfold maxLen at _hs _hi
 by_cases hlt : i < s.size
 ·have HG := zvq (ztx hlt)
  have hb8 := s[i].toNat_lt
  by_cases h1 : s[i] = 126
  ·have HW : Hid (V.rwt s.data.toList i = 0) := zvq (by unfold V.rwt; rw [if_neg (by rw [zf]; omega), HG.out, if_pos h1])
   have hb : ((s[i].toNat : Int) == 126) = true := by rw [h1]; rfl
   clear h1
   exact zz9
  ·have hb : ((s[i].toNat : Int) == 126) = false := by
    exact z1k
   rcases hL : V.letB s[i].toNat with _ | _
   ·have HW : Hid (V.rwt s.data.toList i = 300 + s[i].toNat) := zvq (by
      unfold V.rwt; rw [if_neg (by rw [zf]; omega), HG.out, if_neg h1, if_neg]
      unfold V.lett; rw [hL]; simp)
    exact zyq
   ·have HW : Hid (V.rwt s.data.toList i = 2 + s[i].toNat) := zvq (by
      unfold V.rwt; rw [if_neg (by rw [zf]; omega), HG.out, if_neg h1, if_pos]
      unfold V.lett; rw [hL])
    exact zyq
 ·have HW : Hid (V.rwt s.data.toList i = 1) := zvq (by unfold V.rwt; rw [if_pos (by rw [zf]; omega)])
  exact zz9
theorem zuu (s t : ByteArray) (w : World) (hs : s.size ≤ maxLen) (ht : t.size ≤ maxLen) (has : V.Ascii s.data.toList) (hat : V.Ascii t.data.toList) :
  Calls Tryz.prog 169 #[.string s, .string t] w fun e w' => e = .returned (.int .i64 (V.ql s.data.toList t.data.toList)) /\ Below w.heap.size w w' := by
 unfold maxLen at hs ht
 have HAS := zvq has
 have HAT := zvq hat
 clear has hat
 go_enter Tryz.func169, Tryz.ntmps169
 go_wp2
 go_loopw [0, 1] (fun v1 v2 wr => ∃ a b : ByteArray, v1 = .string a /\ v2 = .string b /\ a.size ≤ s.size /\ b.size ≤ t.size /\ V.Ascii a.data.toList /\ V.Ascii b.data.toList /\ V.ql a.data.toList b.data.toList = V.ql s.data.toList t.data.toList /\ Below w.heap.size w wr) (fun v1 v2 _ => szOf v1 + szOf v2)
 case atStart => exact ⟨s, t, rfl, rfl, zvs _, zvs _, HAS.out, HAT.out, rfl, zvt _ _⟩
 case round =>
  obtain ⟨a, b, rfl, rfl, has, hbt, haa, hab, htx, hB⟩ := hrel
  have HT := zvq htx
  have HB := zvq hB
  have HAA := zvq haa
  have HAB := zvq hab
  clear htx hB haa hab
  rcases hea : a.toList.isEmpty with _ | _ <;> rcases heb : b.toList.isEmpty with _ | _
  case true.true =>
   exact zy8
  all_goals
   have hne : ¬ (a.data.toList.isEmpty && b.data.toList.isEmpty) = true := by rw [← Lib.toList_data, ← Lib.toList_data, hea, heb]; simp
   have hstep := V.zeb _ _ hne
   have HNE := zvq hne
   clear hne
   obtain ⟨x, a1, hxa⟩ : ∃ x a1, V.zu a.data.toList false = (x, a1) := ⟨_, _, rfl⟩
   obtain ⟨y, b1, hyb⟩ : ∃ y b1, V.zu b.data.toList false = (y, b1) := ⟨_, _, rfl⟩
   obtain ⟨p, a2, hpa⟩ : ∃ p a2, V.zu a1 true = (p, a2) := ⟨_, _, rfl⟩
   obtain ⟨q, b2, hqb⟩ : ∃ q b2, V.zu b1 true = (q, b2) := ⟨_, _, rfl⟩
   have l1 := V.qn a.data.toList false
   have l2 := V.qn b.data.toList false
   have l3 := V.qn a1 true
   have l4 := V.qn b1 true
   have AX := zvq (HAA.out.take false)
   have AA1 := HAA.out.rest false
   have AY := zvq (HAB.out.take false)
   have AB1 := HAB.out.rest false
   rw [hxa] at AX AA1
   rw [hyb] at AY AB1
   have AA2 := zvq (AA1.rest true)
   have AB2 := zvq (AB1.rest true)
   rw [hpa] at AA2
   rw [hqb] at AB2
   clear AA1 AB1
   rw [hxa, zf] at l1
   rw [hyb, zf] at l2
   rw [hpa] at l3
   rw [hqb] at l4
   have l5 : a2.length + b2.length < a.size + b.size := by
    exact zyh
   rw [hxa, hyb] at hstep
   simp only [hpa, hqb] at hstep
   rw [HT.out] at hstep
   have HSTEP := zvq hstep
   have HXA := zvq hxa
   have HYB := zvq hyb
   have HPA := zvq hpa
   have HQB := zvq hqb
   simp only at l1 l2 l3 l4
   have m1 : x.length ≤ s.size := by omega
   have m2 : y.length ≤ t.size := by omega
   have m3 : a1.length ≤ s.size := by omega
   have m4 : b1.length ≤ t.size := by omega
   have m5 : a2.length ≤ s.size := by omega
   have m6 : b2.length ≤ t.size := by omega
   have m7 : p.length ≤ s.size := by omega
   have m8 : q.length ≤ t.size := by omega
   have L5 := zvq l5
   clear hstep hxa hyb hpa hqb l1 l2 l3 l4 l5
   go_wp2_with fail
   refine (zcz a false _ (by unfold maxLen; omega)).mono ?_
   rintro e w1 ⟨rfl, hb1⟩
   simp only [HXA.out]
   go_wp2_with fail
   refine (zcz b false _ (by unfold maxLen; omega)).mono ?_
   rintro e w2 ⟨rfl, hb2⟩
   simp only [HYB.out]
   have HB2 := zvq (HB.out.trans ((hb1.trans (hb2.mono hb1.size)).mono HB.out.size))
   clear hb1 hb2
   go_wp2
   go_loop [9] (fun i => ∃ k : Nat, k ≤ max x.length y.length /\ i = .int .i64 k /\ ∀ j, j < k -> Lib.compareInt (V.wt x j) (V.wt y j) = 0) (fun i => max x.length y.length - (intOf i).toNat)
   case atStart => exact ⟨0, Nat.zero_le _, rfl, fun j hj => by omega⟩
   case round =>
    obtain ⟨k, hk, rfl, hz⟩ := hrel
    have HZ := zvq hz
    clear hz
    by_cases hlt : k < max x.length y.length
    ·have hor : (k < x.length) ∨ (¬ k < x.length /\ k < y.length) := by omega
     have hcut := zql x y k hlt HZ.out
     have HCUT := zvq hcut
     have HLT := zvq hlt
     have HSG := zvq (V.sgn_rwt x y k AX.out AY.out)
     have hr1 := V.zua x k
     have hr2 := V.zua y k
     obtain ⟨c1, hc1⟩ : ∃ c1, V.rwt x k = c1 := ⟨_, rfl⟩
     obtain ⟨c2, hc2⟩ : ∃ c2, V.rwt y k = c2 := ⟨_, rfl⟩
     rw [hc1] at hr1 HSG
     rw [hc2] at hr2 HSG
     have HC1 := zvq hc1
     have HC2 := zvq hc2
     obtain ⟨r1, r1'⟩ := hr1
     obtain ⟨r2, r2'⟩ := hr2
     clear hcut hlt hc1 hc2
     rcases hor with h1 | ⟨h1, h2⟩
     all_goals
      go_wp2_with fail
      refine (zh5 ⟨x.toArray⟩ k _ (by show x.length ≤ _; unfold maxLen; omega) (by unfold maxLen; omega)).mono ?_
      rintro e w' ⟨rfl, rfl⟩
      simp only [HC1.out]
      go_wp2_with fail
      refine (zh5 ⟨y.toArray⟩ k _ (by show y.length ≤ _; unfold maxLen; omega) (by unfold maxLen; omega)).mono ?_
      rintro e w' ⟨rfl, rfl⟩
      simp only [HC2.out]
      by_cases h0 : c1 = c2
      ·have HR : Hid (∀ j, j < k + 1 -> Lib.compareInt (V.wt x j) (V.wt y j) = 0) := zvq (fun j hj => by
         by_cases e : j = k
         · subst e; rw [← HSG.out, h0, Int.sub_self]; rfl
         · exact HZ.out j (by omega))
       have HL2 := HLT.out
       have hb : (c1 - c2 != 0) = false := by rw [h0, Int.sub_self]; rfl
       exact zzc
      ·have HR : Hid (V.ql s.data.toList t.data.toList = V.sgn (c1 - c2)) := zvq (by
         have h5 : Lib.compareInt (V.wt x k) (V.wt y k) ≠ 0 := by rw [← HSG.out, Ne, V.sgn_zero]; omega
         rw [HSTEP.out, HCUT.out h5, V.kh h5, HSG.out])
       have hb : (c1 - c2 != 0) = true := by rw [bne_iff_ne]; omega
       clear h0
       go_wp2_with fail
       refine (zhm _ _).mono ?_
       rintro e w' ⟨rfl, rfl⟩
       exact zzw
    ·have HZ0 : Hid (V.wcmp x y = 0) := zvq (zmq x y (fun j hj => HZ.out j (by omega)))
     have h1 : ¬ k < x.length := by omega
     have h2 : ¬ k < y.length := by omega
     clear hlt
     go_wp2_with fail
     refine (zcz ⟨a1.toArray⟩ true _ (by show a1.length ≤ _; unfold maxLen; omega)).mono ?_
     rintro e w3 ⟨rfl, hb3⟩
     simp only [HPA.out]
     go_wp2_with fail
     refine (zcz ⟨b1.toArray⟩ true _ (by show b1.length ≤ _; unfold maxLen; omega)).mono ?_
     rintro e w4 ⟨rfl, hb4⟩
     simp only [HQB.out]
     go_wp2_with fail
     refine (zfq ⟨p.toArray⟩ ⟨q.toArray⟩ _ (by show p.length ≤ _; unfold maxLen; omega) (by show q.length ≤ _; unfold maxLen; omega)).mono ?_
     rintro e w5 ⟨rfl, rfl⟩
     simp only
     have HB5 := zvq (HB2.out.trans ((hb3.trans (hb4.mono hb3.size)).mono HB2.out.size))
     clear hb3 hb4
     by_cases h0 : V.numbers p q = 0
     ·have HR : Hid (V.ql a2 b2 = V.ql s.data.toList t.data.toList) := zvq (by
        rw [HSTEP.out, HZ0.out, h0]; rfl)
      rw [h0]
      clear h0
      go_wp2
      go_roundw
      case rel => exact ⟨⟨a2.toArray⟩, ⟨b2.toArray⟩, rfl, rfl, m5, m6, by simp only ; exact AA2.out, by simp only ; exact AB2.out, by simp only ; exact HR.out, HB5.out⟩
      case measure => exact L5.out
     ·exact zyp
theorem zrl (x y : V.Bs) (w : World) (hx : x.length ≤ 1000) (hy : y.length ≤ 1000) (ax : V.Ascii x) (ay : V.Ascii y) :
  Calls Tryz.prog 169 #[.string ⟨x.toArray⟩, .string ⟨y.toArray⟩] w fun e w' => e = .returned (.int .i64 (V.ql x y)) /\ Below w.heap.size w w' := by
 have h := zuu ⟨x.toArray⟩ ⟨y.toArray⟩ w (by show x.length ≤ _; unfold maxLen; omega) (by show y.length ≤ _; unfold maxLen; omega)
 simp only  at h
 exact h ax ay
open Go.RowKit
theorem zyn {P : Prop} (h : P := by
 rw [h1] at HN
 go_enter Tryz.func163, Tryz.ntmps163
 go_wp2_with fail
 refine (qm s _ hs').mono ?_
 rintro e w' ⟨rfl, rfl⟩
 simp only [HD.out]
 go_wp2
 all_goals
  go_ret
  exact ⟨zc (by rw [HN.out]; simp_all), rfl⟩) : P := h
theorem yl (s : ByteArray) (w : World) (hs : s.size ≤ maxLen) :
  Calls Tryz.prog 163 #[.string s] w fun e w' => e = .returned (.bool (V.numb s.data.toList true)) /\ w = w' := by
 have hs' := hs
 unfold maxLen at hs
 rcases hd : V.digits s.data.toList with _ | _
 ·have HD := zvq hd
  have HN : Hid (V.numb s.data.toList true = false) := zvq (by unfold V.numb; rw [hd]; rfl)
  clear hd
  go_enter Tryz.func163, Tryz.ntmps163
  go_wp2_with fail
  refine (qm s _ hs').mono ?_
  rintro e w' ⟨rfl, rfl⟩
  simp only [HD.out]
  go_wp2
  go_ret
  exact ⟨zc HN.out.symm, rfl⟩
 ·have HD := zvq hd
  have hp := zft hd
  rw [zf] at hp
  have h0 := zvq (at0 hp)
  have HN : Hid (V.numb s.data.toList true = (((s[0].toNat : Int) != 48) || ((s.size : Int) == 1))) := by
   refine zvq ?_
   unfold V.numb
   have : (s[0] == (48 : UInt8)) = ((s[0].toNat : Int) == 48) := by
    rw [Bool.eq_iff_iff]; simp [← UInt8.toNat_inj]; omega
   rw [HD.out, h0.out, zf, this]
   unfold bne
   rcases (s[0].toNat : Int) == 48 with _ | _
   ·simp
   ·rw [Bool.eq_iff_iff]; simp; omega
  clear hd
  rcases h1 : ((s[0].toNat : Int) != 48) with _ | _
  ·exact zyn
  ·exact zyn
end Go.Proofs.YtiloljoancdcbaaGreatDoor
