/-
  Lemmas for the law.
-/
import Derived.Test.YtnhfaincdabdkaaGreatDoorC37x16
import Derived.Test.YtnhfaincdabdkaaGreatDoorC37x14
import Derived.Test.YtnhfaincdabdkaaGreatDoorC37x04
import Derived.Test.YtnhfaincdabdkaaGreatDoorC37x03
import Derived.Test.YtnhfaincdabdkaaGreatDoorC37x01
import Derived.Deep.DeepCutAuto
import Derived.BigRegion
import Derived.OwnWalk
set_option linter.all false
set_option maxRecDepth 100000
set_option maxHeartbeats 3200000
namespace Go.Proofs.YtnhfaincdabdkaaGreatDoor
open Go.RowKit
theorem zbd (s : ByteArray) (d : Bool) (w : World) (hs : s.size ≤ maxLen) :
  Calls Tryz.prog 222 #[.string s, .bool d] w fun e w' => e = .returned (.tuple #[.string ⟨(V.zp s.data.toList d).1.toArray⟩, .string ⟨(V.zp s.data.toList d).2.toArray⟩]) /\ Below w.heap.size w w' := by
 unfold maxLen at hs
 go_enter Tryz.func222, Tryz.ntmps222
 go_wp2
 go_loop [6] (fun i => ∃ k : Nat, k ≤ s.size /\ i = .int .i64 k /\ (s.data.toList.take k).all (fun c => V.dig c == d) = true) (fun i => s.size - (intOf i).toNat)
 case atStart => exact ⟨0, Nat.zero_le _, rfl, rfl⟩
 case round =>
  obtain ⟨k, hk, rfl, hp⟩ := hrel
  have HP := zs8 hp
  clear hp
  have fin : (k = s.size ∨ ∃ h : k < s.size, (V.digB s[k].toNat == d) = false) -> Hid (s.extract 0 k = ⟨(V.zp s.data.toList d).1.toArray⟩ /\ s.extract k s.size = ⟨(V.zp s.data.toList d).2.toArray⟩) := fun h => by
   have := V.zqw s.data.toList (fun c => V.dig c == d) k (by rw [zf]; exact hk) HP.out (by
     rcases h with h | ⟨h, h2⟩
     · left; rw [zf]; exact h
     · right
       have e : s.data.toList[k]'(by rw [zf]; exact h) = s[k] := by simp; rfl
       exact ⟨by rw [zf]; exact h, by rw [e]; exact h2⟩)
   exact zxg
  have FIN := zs8 fin
  clear fin
  by_cases hlt : k < s.size
  ·have hl : k < s.data.toList.length := by rw [zf]; exact hlt
   have HT := zs8 (V.za5 (p := fun c => V.dig c == d) hl)
   have HE : Hid (s.data.toList[k] = s[k]) := zs8 (by simp; rfl)
   rcases hD : V.digB s[k].toNat with _ | _ <;> cases d
   all_goals
    have HD := zs8 hD
    clear hD
    go_wp2_with fail
    refine (zao _ _).mono ?_
    rintro e w' ⟨rfl, rfl⟩
    simp only [HD.out]
    go_wp2
   ·exact zvn
   ·have HF := FIN.out (.inr ⟨hlt, by rw [HD.out]; rfl⟩)
    exact zua
   ·have HF := FIN.out (.inr ⟨hlt, by rw [HD.out]; rfl⟩)
    exact zua
   ·exact zvo
  ·have HF := FIN.out (.inl (by omega))
   go_wp2
   exact zua
theorem zu2 {P : Prop} (h : P := by
 have HL := zs8 hL
 clear hL h1
 go_enter Tryz.func223, Tryz.ntmps223
 go_wp2_with fail
 refine (vg _ _).mono ?_
 rintro e w' ⟨rfl, rfl⟩
 simp only [HL.out]
 go_wp2
 go_ret
 exact ⟨zj HW.out.symm, rfl⟩) : P := h
theorem zwf {P : Prop} (h : P := by
 go_enter Tryz.func223, Tryz.ntmps223
 go_wp2
 go_ret
 exact ⟨zj HW.out.symm, rfl⟩) : P := h
theorem zfr (s : ByteArray) (i : Nat) (w : World) (_hs : s.size ≤ maxLen) (_hi : i ≤ maxLen) :
  Calls Tryz.prog 223 #[.string s, .int .i64 i] w fun e w' => e = .returned (.int .i64 (V.rwt s.data.toList i)) /\ w = w' := by
 unfold maxLen at _hs _hi
 by_cases hlt : i < s.size
 ·have HG := zs8 (zra hlt)
  have hb8 := s[i].toNat_lt
  by_cases h1 : s[i] = 126
  ·have HW : Hid (V.rwt s.data.toList i = 0) := zs8 (by unfold V.rwt; rw [if_neg (by rw [zf]; omega), HG.out, if_pos h1])
   have hb : ((s[i].toNat : Int) == 126) = true := by rw [h1]; rfl
   clear h1
   exact zwf
  ·have hb : ((s[i].toNat : Int) == 126) = false := by
    exact zxk
   rcases hL : V.letB s[i].toNat with _ | _
   ·have HW : Hid (V.rwt s.data.toList i = 300 + s[i].toNat) := zs8 (by
      unfold V.rwt; rw [if_neg (by rw [zf]; omega), HG.out, if_neg h1, if_neg]
      unfold V.lett; rw [hL]; simp)
    exact zu2
   ·have HW : Hid (V.rwt s.data.toList i = 2 + s[i].toNat) := zs8 (by
      unfold V.rwt; rw [if_neg (by rw [zf]; omega), HG.out, if_neg h1, if_pos]
      unfold V.lett; rw [hL])
    exact zu2
 ·have HW : Hid (V.rwt s.data.toList i = 1) := zs8 (by unfold V.rwt; rw [if_pos (by rw [zf]; omega)])
  exact zwf
theorem zsb (s t : ByteArray) (w : World) (hs : s.size ≤ maxLen) (ht : t.size ≤ maxLen) (has : V.Ascii s.data.toList) (hat : V.Ascii t.data.toList) :
  Calls Tryz.prog 192 #[.string s, .string t] w fun e w' => e = .returned (.int .i64 (V.qc s.data.toList t.data.toList)) /\ Below w.heap.size w w' := by
 unfold maxLen at hs ht
 have HAS := zs8 has
 have HAT := zs8 hat
 clear has hat
 go_enter Tryz.func192, Tryz.ntmps192
 go_wp2
 go_loopw [0, 1] (fun v1 v2 wr => ∃ a b : ByteArray, v1 = .string a /\ v2 = .string b /\ a.size ≤ s.size /\ b.size ≤ t.size /\ V.Ascii a.data.toList /\ V.Ascii b.data.toList /\ V.qc a.data.toList b.data.toList = V.qc s.data.toList t.data.toList /\ Below w.heap.size w wr) (fun v1 v2 _ => szOf v1 + szOf v2)
 case atStart => exact ⟨s, t, rfl, rfl, zta _, zta _, HAS.out, HAT.out, rfl, ztb _ _⟩
 case round =>
  obtain ⟨a, b, rfl, rfl, has, hbt, haa, hab, htx, hB⟩ := hrel
  have HT := zs8 htx
  have HB := zs8 hB
  have HAA := zs8 haa
  have HAB := zs8 hab
  clear htx hB haa hab
  rcases hea : a.toList.isEmpty with _ | _ <;> rcases heb : b.toList.isEmpty with _ | _
  case true.true =>
   exact zvg
  all_goals
   have hne : ¬ (a.data.toList.isEmpty && b.data.toList.isEmpty) = true := by rw [← Lib.toList_data, ← Lib.toList_data, hea, heb]; simp
   have hstep := V.zcm _ _ hne
   have HNE := zs8 hne
   clear hne
   obtain ⟨x, a1, hxa⟩ : ∃ x a1, V.zp a.data.toList false = (x, a1) := ⟨_, _, rfl⟩
   obtain ⟨y, b1, hyb⟩ : ∃ y b1, V.zp b.data.toList false = (y, b1) := ⟨_, _, rfl⟩
   obtain ⟨p, a2, hpa⟩ : ∃ p a2, V.zp a1 true = (p, a2) := ⟨_, _, rfl⟩
   obtain ⟨q, b2, hqb⟩ : ∃ q b2, V.zp b1 true = (q, b2) := ⟨_, _, rfl⟩
   have l1 := V.qe a.data.toList false
   have l2 := V.qe b.data.toList false
   have l3 := V.qe a1 true
   have l4 := V.qe b1 true
   have AX := zs8 (HAA.out.take false)
   have AA1 := HAA.out.rest false
   have AY := zs8 (HAB.out.take false)
   have AB1 := HAB.out.rest false
   rw [hxa] at AX AA1
   rw [hyb] at AY AB1
   have AA2 := zs8 (AA1.rest true)
   have AB2 := zs8 (AB1.rest true)
   rw [hpa] at AA2
   rw [hqb] at AB2
   clear AA1 AB1
   rw [hxa, zf] at l1
   rw [hyb, zf] at l2
   rw [hpa] at l3
   rw [hqb] at l4
   have l5 : a2.length + b2.length < a.size + b.size := by
    exact zup
   rw [hxa, hyb] at hstep
   simp only [hpa, hqb] at hstep
   rw [HT.out] at hstep
   have HSTEP := zs8 hstep
   have HXA := zs8 hxa
   have HYB := zs8 hyb
   have HPA := zs8 hpa
   have HQB := zs8 hqb
   simp only at l1 l2 l3 l4
   have m1 : x.length ≤ s.size := by omega
   have m2 : y.length ≤ t.size := by omega
   have m3 : a1.length ≤ s.size := by omega
   have m4 : b1.length ≤ t.size := by omega
   have m5 : a2.length ≤ s.size := by omega
   have m6 : b2.length ≤ t.size := by omega
   have m7 : p.length ≤ s.size := by omega
   have m8 : q.length ≤ t.size := by omega
   have L5 := zs8 l5
   clear hstep hxa hyb hpa hqb l1 l2 l3 l4 l5
   go_wp2_with fail
   refine (zbd a false _ (by unfold maxLen; omega)).mono ?_
   rintro e w1 ⟨rfl, hb1⟩
   simp only [HXA.out]
   go_wp2_with fail
   refine (zbd b false _ (by unfold maxLen; omega)).mono ?_
   rintro e w2 ⟨rfl, hb2⟩
   simp only [HYB.out]
   have HB2 := zs8 (HB.out.trans ((hb1.trans (hb2.mono hb1.size)).mono HB.out.size))
   clear hb1 hb2
   go_wp2
   go_loop [9] (fun i => ∃ k : Nat, k ≤ max x.length y.length /\ i = .int .i64 k /\ ∀ j, j < k -> Lib.compareInt (V.wt x j) (V.wt y j) = 0) (fun i => max x.length y.length - (intOf i).toNat)
   case atStart => exact ⟨0, Nat.zero_le _, rfl, fun j hj => by omega⟩
   case round =>
    obtain ⟨k, hk, rfl, hz⟩ := hrel
    have HZ := zs8 hz
    clear hz
    by_cases hlt : k < max x.length y.length
    ·have hor : (k < x.length) ∨ (¬ k < x.length /\ k < y.length) := by omega
     have hcut := zni x y k hlt HZ.out
     have HCUT := zs8 hcut
     have HLT := zs8 hlt
     have HSG := zs8 (V.sgn_rwt x y k AX.out AY.out)
     have hr1 := V.zrn x k
     have hr2 := V.zrn y k
     obtain ⟨c1, hc1⟩ : ∃ c1, V.rwt x k = c1 := ⟨_, rfl⟩
     obtain ⟨c2, hc2⟩ : ∃ c2, V.rwt y k = c2 := ⟨_, rfl⟩
     rw [hc1] at hr1 HSG
     rw [hc2] at hr2 HSG
     have HC1 := zs8 hc1
     have HC2 := zs8 hc2
     obtain ⟨r1, r1'⟩ := hr1
     obtain ⟨r2, r2'⟩ := hr2
     clear hcut hlt hc1 hc2
     rcases hor with h1 | ⟨h1, h2⟩
     all_goals
      go_wp2_with fail
      refine (zfr ⟨x.toArray⟩ k _ (by show x.length ≤ _; unfold maxLen; omega) (by unfold maxLen; omega)).mono ?_
      rintro e w' ⟨rfl, rfl⟩
      simp only [HC1.out]
      go_wp2_with fail
      refine (zfr ⟨y.toArray⟩ k _ (by show y.length ≤ _; unfold maxLen; omega) (by unfold maxLen; omega)).mono ?_
      rintro e w' ⟨rfl, rfl⟩
      simp only [HC2.out]
      by_cases h0 : c1 = c2
      ·have HR : Hid (∀ j, j < k + 1 -> Lib.compareInt (V.wt x j) (V.wt y j) = 0) := zs8 (fun j hj => by
         by_cases e : j = k
         · subst e; rw [← HSG.out, h0, Int.sub_self]; rfl
         · exact HZ.out j (by omega))
       have HL2 := HLT.out
       have hb : (c1 - c2 != 0) = false := by rw [h0, Int.sub_self]; rfl
       exact zvk
      ·have HR : Hid (V.qc s.data.toList t.data.toList = V.sgn (c1 - c2)) := zs8 (by
         have h5 : Lib.compareInt (V.wt x k) (V.wt y k) ≠ 0 := by rw [← HSG.out, Ne, V.sgn_zero]; omega
         rw [HSTEP.out, HCUT.out h5, V.js h5, HSG.out])
       have hb : (c1 - c2 != 0) = true := by rw [bne_iff_ne]; omega
       clear h0
       go_wp2_with fail
       refine (zfe _ _).mono ?_
       rintro e w' ⟨rfl, rfl⟩
       exact zv3
    ·have HZ0 : Hid (V.wcmp x y = 0) := zs8 (zjl x y (fun j hj => HZ.out j (by omega)))
     have h1 : ¬ k < x.length := by omega
     have h2 : ¬ k < y.length := by omega
     clear hlt
     go_wp2_with fail
     refine (zbd ⟨a1.toArray⟩ true _ (by show a1.length ≤ _; unfold maxLen; omega)).mono ?_
     rintro e w3 ⟨rfl, hb3⟩
     simp only [HPA.out]
     go_wp2_with fail
     refine (zbd ⟨b1.toArray⟩ true _ (by show b1.length ≤ _; unfold maxLen; omega)).mono ?_
     rintro e w4 ⟨rfl, hb4⟩
     simp only [HQB.out]
     go_wp2_with fail
     refine (zdo ⟨p.toArray⟩ ⟨q.toArray⟩ _ (by show p.length ≤ _; unfold maxLen; omega) (by show q.length ≤ _; unfold maxLen; omega)).mono ?_
     rintro e w5 ⟨rfl, rfl⟩
     simp only
     have HB5 := zs8 (HB2.out.trans ((hb3.trans (hb4.mono hb3.size)).mono HB2.out.size))
     clear hb3 hb4
     by_cases h0 : V.numbers p q = 0
     ·have HR : Hid (V.qc a2 b2 = V.qc s.data.toList t.data.toList) := zs8 (by
        rw [HSTEP.out, HZ0.out, h0]; rfl)
      rw [h0]
      clear h0
      go_wp2
      go_roundw
      case rel => exact ⟨⟨a2.toArray⟩, ⟨b2.toArray⟩, rfl, rfl, m5, m6, by simp only ; exact AA2.out, by simp only ; exact AB2.out, by simp only ; exact HR.out, HB5.out⟩
      case measure => exact L5.out
     ·exact zu0
theorem zoo (x y : V.Bs) (w : World) (hx : x.length ≤ 1000) (hy : y.length ≤ 1000) (ax : V.Ascii x) (ay : V.Ascii y) :
  Calls Tryz.prog 192 #[.string ⟨x.toArray⟩, .string ⟨y.toArray⟩] w fun e w' => e = .returned (.int .i64 (V.qc x y)) /\ Below w.heap.size w w' := by
 have h := zsb ⟨x.toArray⟩ ⟨y.toArray⟩ w (by show x.length ≤ _; unfold maxLen; omega) (by show y.length ≤ _; unfold maxLen; omega)
 simp only  at h
 exact h ax ay
theorem zuu {P : Prop} (h : P := by
 rw [h1] at HN
 go_enter Tryz.func186, Tryz.ntmps186
 go_wp2_with fail
 refine (qd s _ hs').mono ?_
 rintro e w' ⟨rfl, rfl⟩
 simp only [HD.out]
 go_wp2
 all_goals
  go_ret
  exact ⟨zc (by rw [HN.out]; simp_all), rfl⟩) : P := h
theorem xe (s : ByteArray) (w : World) (hs : s.size ≤ maxLen) :
  Calls Tryz.prog 186 #[.string s] w fun e w' => e = .returned (.bool (V.numb s.data.toList true)) /\ w = w' := by
 have hs' := hs
 unfold maxLen at hs
 rcases hd : V.digits s.data.toList with _ | _
 ·have HD := zs8 hd
  have HN : Hid (V.numb s.data.toList true = false) := zs8 (by unfold V.numb; rw [hd]; rfl)
  clear hd
  go_enter Tryz.func186, Tryz.ntmps186
  go_wp2_with fail
  refine (qd s _ hs').mono ?_
  rintro e w' ⟨rfl, rfl⟩
  simp only [HD.out]
  go_wp2
  go_ret
  exact ⟨zc HN.out.symm, rfl⟩
 ·have HD := zs8 hd
  have hp := zdr hd
  rw [zf] at hp
  have h0 := zs8 (at0 hp)
  have HN : Hid (V.numb s.data.toList true = (((s[0].toNat : Int) != 48) || ((s.size : Int) == 1))) := by
   refine zs8 ?_
   unfold V.numb
   have : (s[0] == (48 : UInt8)) = ((s[0].toNat : Int) == 48) := by
    rw [Bool.eq_iff_iff]; simp [← UInt8.toNat_inj]; omega
   rw [HD.out, h0.out, zf, this]
   unfold bne
   rcases (s[0].toNat : Int) == 48 with _ | _
   ·simp
   ·rw [Bool.eq_iff_iff]; simp; omega
  clear hd
  rcases h1 : ((s[0].toNat : Int) != 48) with _ | _
  ·exact zuu
  ·exact zuu
open Go.RowKit
def RSem (r : Option (List V.Bs × List V.Bs)) (w : World) (e : Ending) (w' : World) : Prop :=
 Below w.heap.size w w' /\ match r with
 | none => e = .returned (.tuple #[.slice none 0 0, .slice none 0 0, .bool false])
 | some (l, ids) => ∃ v u, e = .returned (.tuple #[v, u, .bool true]) /\ Strs w' v l /\ Strs w' u ids
theorem zdi (x : V.Bs) : V.ju false x = V.only (V.kind [45]) x := by
 unfold V.ju V.numb
 rcases V.digits x with _ | _ <;> simp
theorem yr {w w4 : World} {l : List V.Bs} {t : Nat} (h : w4 = w.alloc (.cells (strCells l) t)) (j : Nat) (hj : j < l.length) : w4.cell? ⟨w.heap.size, j, none⟩ = some (.string ⟨l[j].toArray⟩) := by
 rw [h, World.cell?_alloc_new, ve l j hj]
theorem zmi {α : Type} {l : List α} {p : α -> Bool} {k : Nat} (h : k < l.length) (hp : p l[k] = false) : l.all p = false := by
 rw [List.all_eq_false]
 exact ⟨l[k], List.getElem_mem h, by simp [hp]⟩
theorem zco {α : Type} {l : List α} {p : α -> Bool} {k : Nat} (h : k < l.length) : (l.take (k + 1)).all p = ((l.take k).all p && p l[k]) := by
 rw [List.take_succ_eq_append_getElem h, List.all_append]; simp
theorem zv2 {P : Prop} (h : P := by
 go_ret3
 have HN : Hid (V.zi s.data.toList = none) := zs8 (by
   rw [HP.out, HI.out, zmi (k := k) hlt (by rw [HK.out]; rfl)]; simp)
 rw [HN.out]
 exact ⟨HB4.out, rfl⟩) : P := h
theorem zwx {P : Prop} (h : P := by
 go_round
 case rel => exact ⟨k + 1, by omega, by go_num, by rw [HT.out, HQ.out, HK.out]; rfl⟩
 case measure => simp [intOf]; omega) : P := h
theorem zb6 (s : ByteArray) (w : World) (hm : zk w) (hs : s.size ≤ 1000) :
  Calls Tryz.prog 156 #[.string s] w (RSem (V.zi s.data.toList) w) := by
 obtain ⟨v1, bu, B, hx1⟩ : ∃ a b c, V.cut1 43 s.data.toList = (a, b, c) := ⟨_, _, _, rfl⟩
 obtain ⟨v2, pr, E, hx2⟩ : ∃ a b c, V.cut1 45 v1 = (a, b, c) := ⟨_, _, _, rfl⟩
 obtain ⟨L, hL⟩ : ∃ L, V.ze 46 v2 = L := ⟨_, rfl⟩
 have HP : Hid (V.zi s.data.toList = if (B && !V.identifiers bu false) || (E && !V.identifiers pr true) || L.length != 3 then none else if L.all (fun x => V.numb x true) then some (L, if E then V.ze 46 pr else []) else none) := zs8 (by
   unfold V.zi
   rw [hx1]
   simp only
   rw [hx2]
   simp only
   rw [hL])
 have hl1 : v1.length ≤ s.size /\ bu.length ≤ s.size := by
  have := xz 43 s.data.toList
  rw [hx1, zf] at this
  exact this
 have hl2 : v2.length ≤ v1.length /\ pr.length ≤ v1.length := by
  have := xz 45 v1
  rw [hx2] at this
  exact this
 have hl3 : L.length ≤ v2.length + 1 := by rw [← hL]; exact jh 46 v2
 have hl4 : Hid (∀ x ∈ L, x.length ≤ v2.length) := zs8 (fun x hx => jx 46 v2 x (by rw [hL]; exact hx))
 obtain ⟨hl1, hl1'⟩ := hl1
 obtain ⟨hl2, hl2'⟩ := hl2
 have HX1 := zs8 hx1
 have HX2 := zs8 hx2
 have HL := zs8 hL
 have HM := zs8 hm
 clear hx1 hx2 hL hm
 go_enter Tryz.func156, Tryz.ntmps156
 go_wp2_with fail
 refine (zbl s 43 _ HM.out (by omega)).mono ?_
 rintro e w1 ⟨rfl, hb1⟩
 simp only [HX1.out]
 have HB1 := zs8 hb1
 clear hb1
 go_upto_if 22 with (fail)
 go_cut [8] (fun _ wx => Below w.heap.size w wx /\ (B = true -> V.identifiers bu false = true))
 case first =>
  cases B with
  | false =>
   go_wp2
   go_meet
   exact ⟨HB1.out, fun e => by cases e⟩
  | true =>
   go_wp2_with fail
   refine (kd ⟨bu.toArray⟩ 46 _ (HM.out.below HB1.out) (by show bu.length < _; omega)).mono ?_
   rintro e w4 ⟨rfl, hw4⟩
   simp only  at hw4 ⊢
   have hi : V.identifiers bu false = (V.ze 46 bu).all (V.ju false) := rfl
   have hle := jh 46 bu
   have hmem := zs8 (jx 46 bu)
   obtain ⟨L0, hL0⟩ : ∃ L0, V.ze 46 bu = L0 := ⟨_, rfl⟩
   rw [hL0] at hw4 hi hle hmem ⊢
   have hcs := zs8 (yr hw4)
   have HB4 : Hid (Below w.heap.size w w4) := zs8 (by rw [hw4]; exact HB1.out.alloc HB1.out.size _)
   have HI := zs8 hi
   clear hw4 hi hL0
   go_wp2
   go_loop [9] (fun i => ∃ k : Nat, k ≤ L0.length /\ i = .int .i64 k /\ (L0.take k).all (V.ju false) = true) (fun i => L0.length - (intOf i).toNat)
   case atStart => exact ⟨0, Nat.zero_le _, rfl, rfl⟩
   case round =>
    obtain ⟨k, hk, rfl, hp⟩ := hrel
    have HQ := zs8 hp
    clear hp
    by_cases hlt : k < L0.length
    ·have hc := hcs.out k hlt
     have hsz : L0[k].length ≤ bu.length := hmem.out _ (List.getElem_mem hlt)
     have HT := zs8 (zco (p := V.ju false) hlt)
     rcases hpk : V.only (V.kind [45]) L0[k] with _ | _
     all_goals
      have HPK := zs8 hpk
      clear hpk
      go_wp2_with fail
      refine (ut ⟨L0[k].toArray⟩ ⟨#[45]⟩ _ (by show L0[k].length ≤ _; unfold maxLen; omega)).mono ?_
      rintro e w' ⟨rfl, rfl⟩
      simp only [HPK.out]
      go_wp2
     ·go_ret3
      have HN : Hid (V.zi s.data.toList = none) := zs8 (by
        rw [HP.out, HI.out, zmi (k := k) hlt (by rw [zdi]; exact HPK.out)]; rfl)
      rw [HN.out]
      exact ⟨HB4.out, rfl⟩
     ·go_round
      case rel => exact ⟨k + 1, by omega, by go_num, by rw [HT.out, HQ.out, zdi]; exact HPK.out⟩
      case measure => simp [intOf]; omega
    ·have ht : L0.take k = L0 := List.take_of_length_le (by omega)
     rw [ht] at HQ
     clear ht
     go_wp2
     go_meet
     exact ⟨HB4.out, fun _ => by rw [HI.out]; exact HQ.out⟩
 case rest =>
  obtain ⟨hb2, hids⟩ := hcut
  have HB2 := zs8 hb2
  have HIDS := zs8 hids
  clear hb2 hids HB1
  obtain ⟨wo, rfl⟩ : ∃ wo : World, wo = wc := ⟨_, rfl⟩
  go_wp2_with fail
  refine (zbl ⟨v1.toArray⟩ 45 _ (HM.out.below HB2.out) (by show v1.length < _; omega)).mono ?_
  rintro e w3 ⟨rfl, hb3⟩
  simp only [HX2.out]
  have HB3 := zs9 HB2 hb3
  clear hb3
  go_upto_if 43 with (fail)
  go_cut [13] (fun v wx => ∃ ids : List V.Bs, Strs wx v ids /\ Below w.heap.size w wx /\ ids = (if E then V.ze 46 pr else []) /\ (E = true -> V.identifiers pr true = true))
  case first =>
   cases E with
   | false =>
    go_wp2
    go_meet
    exact ⟨[], Strs.nil _, HB3.out, rfl, fun e => by cases e⟩
   | true =>
    go_wp2_with fail
    refine (kd ⟨pr.toArray⟩ 46 _ (HM.out.below HB3.out) (by show pr.length < _; omega)).mono ?_
    rintro e w4 ⟨rfl, hw4⟩
    simp only  at hw4 ⊢
    have hi : V.identifiers pr true = (V.ze 46 pr).all (V.ju true) := rfl
    have hle := jh 46 pr
    have hmem := zs8 (jx 46 pr)
    obtain ⟨L0, hL0⟩ : ∃ L0, V.ze 46 pr = L0 := ⟨_, rfl⟩
    rw [hL0] at hw4 hi hle hmem ⊢
    have hcs := zs8 (yr hw4)
    have HB4 : Hid (Below w.heap.size w w4) := zs8 (by rw [hw4]; exact HB3.out.alloc HB3.out.size _)
    have HS4 : Hid (Strs w4 (.slice (some ⟨w3.heap.size, 0, none⟩) L0.length L0.length) L0) := zs8 (by rw [hw4]; exact Strs.split w3 L0 _)
    have HI := zs8 hi
    have HL0 := zs8 hL0
    clear hw4 hi hL0
    go_wp2
    go_loop [14] (fun i => ∃ k : Nat, k ≤ L0.length /\ i = .int .i64 k /\ (L0.take k).all (V.ju true) = true) (fun i => L0.length - (intOf i).toNat)
    case atStart => exact ⟨0, Nat.zero_le _, rfl, rfl⟩
    case round =>
     obtain ⟨k, hk, rfl, hp⟩ := hrel
     have HQ := zs8 hp
     clear hp
     by_cases hlt : k < L0.length
     ·have hc := hcs.out k hlt
      have hsz : L0[k].length ≤ pr.length := hmem.out _ (List.getElem_mem hlt)
      have HT := zs8 (zco (p := V.ju true) hlt)
      have HK : Hid (V.ju true L0[k] = (V.only (V.kind [45]) L0[k] && !(V.digits L0[k] && !V.numb L0[k] true))) := rfl
      rcases hpk : V.only (V.kind [45]) L0[k] with _ | _
      ·have HPK := zs8 hpk
       rw [hpk] at HK
       clear hpk
       go_wp2_with fail
       refine (ut ⟨L0[k].toArray⟩ ⟨#[45]⟩ _ (by show L0[k].length ≤ _; unfold maxLen; omega)).mono ?_
       rintro e w' ⟨rfl, rfl⟩
       simp only [HPK.out]
       go_wp2
       exact zv2
      ·have HPK := zs8 hpk
       rcases hdk : V.digits L0[k] with _ | _
       ·have HDK := zs8 hdk
        rw [hpk, hdk] at HK
        clear hpk hdk
        go_wp2_with fail
        refine (ut ⟨L0[k].toArray⟩ ⟨#[45]⟩ _ (by show L0[k].length ≤ _; unfold maxLen; omega)).mono ?_
        rintro e w' ⟨rfl, rfl⟩
        simp only [HPK.out]
        go_wp2_with fail
        refine (qd ⟨L0[k].toArray⟩ _ (by show L0[k].length ≤ _; unfold maxLen; omega)).mono ?_
        rintro e w' ⟨rfl, rfl⟩
        simp only [HDK.out]
        go_wp2
        exact zwx
       ·have HDK := zs8 hdk
        rcases hnk : V.numb L0[k] true with _ | _
        all_goals
         have HNK := zs8 hnk
         rw [hpk, hdk, hnk] at HK
         clear hpk hdk hnk
         go_wp2_with fail
         refine (ut ⟨L0[k].toArray⟩ ⟨#[45]⟩ _ (by show L0[k].length ≤ _; unfold maxLen; omega)).mono ?_
         rintro e w' ⟨rfl, rfl⟩
         simp only [HPK.out]
         go_wp2_with fail
         refine (qd ⟨L0[k].toArray⟩ _ (by show L0[k].length ≤ _; unfold maxLen; omega)).mono ?_
         rintro e w' ⟨rfl, rfl⟩
         simp only [HDK.out]
         go_wp2_with fail
         refine (xe ⟨L0[k].toArray⟩ _ (by show L0[k].length ≤ _; unfold maxLen; omega)).mono ?_
         rintro e w' ⟨rfl, rfl⟩
         simp only [HNK.out]
         go_wp2
        ·exact zv2
        ·exact zwx
     ·have ht : L0.take k = L0 := List.take_of_length_le (by omega)
      rw [ht] at HQ
      clear ht
      go_wp2
      go_meet
      exact ⟨L0, HS4.out, HB4.out, by rw [HL0.out]; simp, fun _ => by rw [HI.out]; exact HQ.out⟩
  case rest =>
   obtain ⟨ids, hst, hb5, hids, hid2⟩ := hcut
   have HST := zs8 hst
   have HB5 := zs8 hb5
   have HIDL := zs8 hids
   have HID2 := zs8 hid2
   clear hst hb5 hids hid2 HB3
   go_wp2_with fail
   refine (kd ⟨v2.toArray⟩ 46 _ (HM.out.below HB5.out) (by show v2.length < _; omega)).mono ?_
   rintro e w6 ⟨rfl, hw6⟩
   simp only [HL.out] at hw6 ⊢
   have hcs := zs8 (yr hw6)
   have HB6 : Hid (Below w.heap.size w w6) := zs8 (by rw [hw6]; exact HB5.out.alloc HB5.out.size _)
   have HS6 : Hid (Strs w6 u13 ids) := zs8 (HST.out.below (by rw [hw6]; exact (ztb _ _).alloc (zta _) _))
   have HSL : Hid (Strs w6 (.slice (some ⟨wc.heap.size, 0, none⟩) L.length L.length) L) := zs8 (by rw [hw6]; exact Strs.split wc L _)
   have HQ : Hid (V.zi s.data.toList = if L.length != 3 then none else if L.all (fun x => V.numb x true) then some (L, ids) else none) := zs8 (by
     rw [HP.out, HIDL.out]
     have e1 : (B && !V.identifiers bu false) = false := by
       cases B with
       | false => rfl
       | true => rw [HIDS.out rfl]; rfl
     have e2 : (E && !V.identifiers pr true) = false := by
       cases E with
       | false => rfl
       | true => rw [HID2.out rfl]; rfl
     rw [e1, e2]; rfl)
   clear hw6
   by_cases hlen : L.length = 3
   ·obtain ⟨x, y, z, rfl⟩ : ∃ x y z, L = [x, y, z] := by
     match L, hlen with
     | [x, y, z], _ => exact ⟨x, y, z, rfl⟩
    have cx : w6.cell? ⟨wc.heap.size, 0, none⟩ = some (.string ⟨x.toArray⟩) := hcs.out 0 (by simp)
    have cy : w6.cell? ⟨wc.heap.size, 1, none⟩ = some (.string ⟨y.toArray⟩) := hcs.out 1 (by simp)
    have cz : w6.cell? ⟨wc.heap.size, 2, none⟩ = some (.string ⟨z.toArray⟩) := hcs.out 2 (by simp)
    have lx := hl4.out x (by simp)
    have ly := hl4.out y (by simp)
    have lz := hl4.out z (by simp)
    simp only [List.length_cons, List.length_nil, Nat.reduceAdd] at HSL ⊢
    rcases hx : V.numb x true with _ | _
    ·have HX := zs8 hx
     clear hx
     go_wp2_with fail
     refine (xe ⟨x.toArray⟩ _ (by show x.length ≤ _; unfold maxLen; omega)).mono ?_
     rintro e w' ⟨rfl, rfl⟩
     simp only [HX.out]
     go_wp2
     go_ret3
     have HN : Hid (V.zi s.data.toList = none) := zs8 (by rw [HQ.out]; simp [HX.out])
     rw [HN.out]
     exact ⟨HB6.out, rfl⟩
    ·have HX := zs8 hx
     rcases hy : V.numb y true with _ | _
     ·have HY := zs8 hy
      clear hx hy
      go_wp2_with fail
      refine (xe ⟨x.toArray⟩ _ (by show x.length ≤ _; unfold maxLen; omega)).mono ?_
      rintro e w' ⟨rfl, rfl⟩
      simp only [HX.out]
      go_wp2_with fail
      refine (xe ⟨y.toArray⟩ _ (by show y.length ≤ _; unfold maxLen; omega)).mono ?_
      rintro e w' ⟨rfl, rfl⟩
      simp only [HY.out]
      go_wp2
      go_ret3
      have HN : Hid (V.zi s.data.toList = none) := zs8 (by rw [HQ.out]; simp [HX.out, HY.out])
      rw [HN.out]
      exact ⟨HB6.out, rfl⟩
     ·have HY := zs8 hy
      rcases hz : V.numb z true with _ | _
      all_goals
       have HZ := zs8 hz
       clear hx hy hz
       go_wp2_with fail
       refine (xe ⟨x.toArray⟩ _ (by show x.length ≤ _; unfold maxLen; omega)).mono ?_
       rintro e w' ⟨rfl, rfl⟩
       simp only [HX.out]
       go_wp2_with fail
       refine (xe ⟨y.toArray⟩ _ (by show y.length ≤ _; unfold maxLen; omega)).mono ?_
       rintro e w' ⟨rfl, rfl⟩
       simp only [HY.out]
       go_wp2_with fail
       refine (xe ⟨z.toArray⟩ _ (by show z.length ≤ _; unfold maxLen; omega)).mono ?_
       rintro e w' ⟨rfl, rfl⟩
       simp only [HZ.out]
       go_wp2
       go_ret3
      ·have HN : Hid (V.zi s.data.toList = none) := zs8 (by rw [HQ.out]; simp [HX.out, HY.out, HZ.out])
       rw [HN.out]
       exact ⟨HB6.out, rfl⟩
      ·have HN : Hid (V.zi s.data.toList = some ([x, y, z], ids)) := zs8 (by rw [HQ.out]; simp [HX.out, HY.out, HZ.out])
       rw [HN.out]
       exact ⟨HB6.out, _, _, rfl, HSL.out, HS6.out⟩
   ·have hle : ((L.length : Int) != 3) = true := by simp; omega
    have HN : Hid (V.zi s.data.toList = none) := zs8 (by rw [HQ.out]; simp [hlen])
    go_wp2
    go_ret3
    rw [HN.out]
    exact ⟨HB6.out, rfl⟩
end Go.Proofs.YtnhfaincdabdkaaGreatDoor
