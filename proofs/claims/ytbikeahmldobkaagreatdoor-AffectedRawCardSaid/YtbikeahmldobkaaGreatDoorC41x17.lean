/-
  Lemmas for the law.
-/
import Derived.Test.YtbikeahmldobkaaGreatDoorC41x14
import Derived.Test.YtbikeahmldobkaaGreatDoorC41x16
import Derived.Test.YtbikeahmldobkaaGreatDoorC41x10
import Derived.Test.YtbikeahmldobkaaGreatDoorC41x03
import Derived.Test.YtbikeahmldobkaaGreatDoorC41x04
set_option linter.all false
set_option maxRecDepth 100000
set_option maxHeartbeats 3200000
namespace Go.Proofs.YtbikeahmldobkaaGreatDoor
open Go.RowKit
theorem vh (s : ByteArray) (d : Bool) (w : World) (hs : s.size ≤ maxLen) :
  Calls Tryz.prog 125 #[.string s, .bool d] w fun e w' => e = .returned (.tuple #[.string ⟨(V.zt s.data.toList d).1.toArray⟩, .string ⟨(V.zt s.data.toList d).2.toArray⟩]) /\ Below w.heap.size w w' := by
 unfold maxLen at hs
 go_enter Tryz.func125, Tryz.ntmps125
 go_wp2
 go_loop [6] (fun i => ∃ k : Nat, k ≤ s.size /\ i = .int .i64 k /\ (s.data.toList.take k).all (fun c => V.dig c == d) = true) (fun i => s.size - (intOf i).toNat)
 case atStart => exact ⟨0, Nat.zero_le _, rfl, rfl⟩
 case round =>
  obtain ⟨k, hk, rfl, hp⟩ := hrel
  have HP := zpa hp
  clear hp
  have fin : (k = s.size ∨ ∃ h : k < s.size, (V.digB s[k].toNat == d) = false) -> Hid (s.extract 0 k = ⟨(V.zt s.data.toList d).1.toArray⟩ /\ s.extract k s.size = ⟨(V.zt s.data.toList d).2.toArray⟩) := fun h => by
   have := V.znb s.data.toList (fun c => V.dig c == d) k (by rw [zi]; exact hk) HP.out (by
     rcases h with h | ⟨h, h2⟩
     · left; rw [zi]; exact h
     · right
       have e : s.data.toList[k]'(by rw [zi]; exact h) = s[k] := by simp; rfl
       exact ⟨by rw [zi]; exact h, by rw [e]; exact h2⟩)
   exact zsi
  have FIN := zpa fin
  clear fin
  by_cases hlt : k < s.size
  ·have hl : k < s.data.toList.length := by rw [zi]; exact hlt
   have HT := zpa (V.vb (p := fun c => V.dig c == d) hl)
   have HE : Hid (s.data.toList[k] = s[k]) := zpa (by simp; rfl)
   rcases hD : V.digB s[k].toNat with _ | _ <;> cases d
   all_goals
    have HD := zpa hD
    clear hD
    go_wp2_with fail
    refine (ui _ _).mono ?_
    rintro e w' ⟨rfl, rfl⟩
    simp only [HD.out]
    go_wp2
   ·exact zq0
   ·have HF := FIN.out (.inr ⟨hlt, by rw [HD.out]; rfl⟩)
    exact zpy
   ·have HF := FIN.out (.inr ⟨hlt, by rw [HD.out]; rfl⟩)
    exact zpy
   ·exact zq1
  ·have HF := FIN.out (.inl (by omega))
   go_wp2
   exact zpy
theorem zqm {P : Prop} (h : P := by
 have HL := zpa hL
 clear hL h1
 go_enter Tryz.func126, Tryz.ntmps126
 go_wp2_with fail
 refine (xz _ _).mono ?_
 rintro e w' ⟨rfl, rfl⟩
 simp only [HL.out]
 go_wp2
 go_ret
 exact ⟨zn HW.out.symm, rfl⟩) : P := h
theorem zrh {P : Prop} (h : P := by
 go_enter Tryz.func126, Tryz.ntmps126
 go_wp2
 go_ret
 exact ⟨zn HW.out.symm, rfl⟩) : P := h
theorem zdg (s : ByteArray) (i : Nat) (w : World) (_hs : s.size ≤ maxLen) (_hi : i ≤ maxLen) :
  Calls Tryz.prog 126 #[.string s, .int .i64 i] w fun e w' => e = .returned (.int .i64 (V.rwt s.data.toList i)) /\ w = w' := by
 unfold maxLen at _hs _hi
 by_cases hlt : i < s.size
 ·have HG := zpa (znl hlt)
  have hb8 := s[i].toNat_lt
  by_cases h1 : s[i] = 126
  ·have HW : Hid (V.rwt s.data.toList i = 0) := zpa (by unfold V.rwt; rw [if_neg (by rw [zi]; omega), HG.out, if_pos h1])
   have hb : ((s[i].toNat : Int) == 126) = true := by rw [h1]; rfl
   clear h1
   exact zrh
  ·have hb : ((s[i].toNat : Int) == 126) = false := by
    exact zsl
   rcases hL : V.letB s[i].toNat with _ | _
   ·have HW : Hid (V.rwt s.data.toList i = 300 + s[i].toNat) := zpa (by
      unfold V.rwt; rw [if_neg (by rw [zi]; omega), HG.out, if_neg h1, if_neg]
      unfold V.lett; rw [hL]; simp)
    exact zqm
   ·have HW : Hid (V.rwt s.data.toList i = 2 + s[i].toNat) := zpa (by
      unfold V.rwt; rw [if_neg (by rw [zi]; omega), HG.out, if_neg h1, if_pos]
      unfold V.lett; rw [hL])
    exact zqm
 ·have HW : Hid (V.rwt s.data.toList i = 1) := zpa (by unfold V.rwt; rw [if_pos (by rw [zi]; omega)])
  exact zrh
theorem zod (s t : ByteArray) (w : World) (hs : s.size ≤ maxLen) (ht : t.size ≤ maxLen) (has : V.Ascii s.data.toList) (hat : V.Ascii t.data.toList) :
  Calls Tryz.prog 90 #[.string s, .string t] w fun e w' => e = .returned (.int .i64 (V.zx s.data.toList t.data.toList)) /\ Below w.heap.size w w' := by
 unfold maxLen at hs ht
 have HAS := zpa has
 have HAT := zpa hat
 clear has hat
 go_enter Tryz.func90, Tryz.ntmps90
 go_wp2
 go_loopw [0, 1] (fun v1 v2 wr => ∃ a b : ByteArray, v1 = .string a /\ v2 = .string b /\ a.size ≤ s.size /\ b.size ≤ t.size /\ V.Ascii a.data.toList /\ V.Ascii b.data.toList /\ V.zx a.data.toList b.data.toList = V.zx s.data.toList t.data.toList /\ Below w.heap.size w wr) (fun v1 v2 _ => szOf v1 + szOf v2)
 case atStart => exact ⟨s, t, rfl, rfl, zpc _, zpc _, HAS.out, HAT.out, rfl, zpd _ _⟩
 case round =>
  obtain ⟨a, b, rfl, rfl, has, hbt, haa, hab, htx, hB⟩ := hrel
  have HT := zpa htx
  have HB := zpa hB
  have HAA := zpa haa
  have HAB := zpa hab
  clear htx hB haa hab
  rcases hea : a.toList.isEmpty with _ | _ <;> rcases heb : b.toList.isEmpty with _ | _
  case true.true =>
   exact zqw
  all_goals
   have hne : ¬ (a.data.toList.isEmpty && b.data.toList.isEmpty) = true := by rw [← Lib.toList_data, ← Lib.toList_data, hea, heb]; simp
   have hstep := V.zay _ _ hne
   have HNE := zpa hne
   clear hne
   obtain ⟨x, a1, hxa⟩ : ∃ x a1, V.zt a.data.toList false = (x, a1) := ⟨_, _, rfl⟩
   obtain ⟨y, b1, hyb⟩ : ∃ y b1, V.zt b.data.toList false = (y, b1) := ⟨_, _, rfl⟩
   obtain ⟨p, a2, hpa⟩ : ∃ p a2, V.zt a1 true = (p, a2) := ⟨_, _, rfl⟩
   obtain ⟨q, b2, hqb⟩ : ∃ q b2, V.zt b1 true = (q, b2) := ⟨_, _, rfl⟩
   have l1 := V.qa a.data.toList false
   have l2 := V.qa b.data.toList false
   have l3 := V.qa a1 true
   have l4 := V.qa b1 true
   have AX := zpa (HAA.out.take false)
   have AA1 := HAA.out.rest false
   have AY := zpa (HAB.out.take false)
   have AB1 := HAB.out.rest false
   rw [hxa] at AX AA1
   rw [hyb] at AY AB1
   have AA2 := zpa (AA1.rest true)
   have AB2 := zpa (AB1.rest true)
   rw [hpa] at AA2
   rw [hqb] at AB2
   clear AA1 AB1
   rw [hxa, zi] at l1
   rw [hyb, zi] at l2
   rw [hpa] at l3
   rw [hqb] at l4
   have l5 : a2.length + b2.length < a.size + b.size := by
    exact zqe
   rw [hxa, hyb] at hstep
   simp only [hpa, hqb] at hstep
   rw [HT.out] at hstep
   have HSTEP := zpa hstep
   have HXA := zpa hxa
   have HYB := zpa hyb
   have HPA := zpa hpa
   have HQB := zpa hqb
   simp only at l1 l2 l3 l4
   have m1 : x.length ≤ s.size := by omega
   have m2 : y.length ≤ t.size := by omega
   have m3 : a1.length ≤ s.size := by omega
   have m4 : b1.length ≤ t.size := by omega
   have m5 : a2.length ≤ s.size := by omega
   have m6 : b2.length ≤ t.size := by omega
   have m7 : p.length ≤ s.size := by omega
   have m8 : q.length ≤ t.size := by omega
   have L5 := zpa l5
   clear hstep hxa hyb hpa hqb l1 l2 l3 l4 l5
   go_wp2_with fail
   refine (vh a false _ (by unfold maxLen; omega)).mono ?_
   rintro e w1 ⟨rfl, hb1⟩
   simp only [HXA.out]
   go_wp2_with fail
   refine (vh b false _ (by unfold maxLen; omega)).mono ?_
   rintro e w2 ⟨rfl, hb2⟩
   simp only [HYB.out]
   have HB2 := zpa (HB.out.trans ((hb1.trans (hb2.mono hb1.size)).mono HB.out.size))
   clear hb1 hb2
   go_wp2
   go_loop [9] (fun i => ∃ k : Nat, k ≤ max x.length y.length /\ i = .int .i64 k /\ ∀ j, j < k -> Lib.compareInt (V.wt x j) (V.wt y j) = 0) (fun i => max x.length y.length - (intOf i).toNat)
   case atStart => exact ⟨0, Nat.zero_le _, rfl, fun j hj => by omega⟩
   case round =>
    obtain ⟨k, hk, rfl, hz⟩ := hrel
    have HZ := zpa hz
    clear hz
    by_cases hlt : k < max x.length y.length
    ·have hor : (k < x.length) ∨ (¬ k < x.length /\ k < y.length) := by omega
     have hcut := zkb x y k hlt HZ.out
     have HCUT := zpa hcut
     have HLT := zpa hlt
     have HSG := zpa (V.sgn_rwt x y k AX.out AY.out)
     have hr1 := V.znt x k
     have hr2 := V.znt y k
     obtain ⟨c1, hc1⟩ : ∃ c1, V.rwt x k = c1 := ⟨_, rfl⟩
     obtain ⟨c2, hc2⟩ : ∃ c2, V.rwt y k = c2 := ⟨_, rfl⟩
     rw [hc1] at hr1 HSG
     rw [hc2] at hr2 HSG
     have HC1 := zpa hc1
     have HC2 := zpa hc2
     obtain ⟨r1, r1'⟩ := hr1
     obtain ⟨r2, r2'⟩ := hr2
     clear hcut hlt hc1 hc2
     rcases hor with h1 | ⟨h1, h2⟩
     all_goals
      go_wp2_with fail
      refine (zdg ⟨x.toArray⟩ k _ (by show x.length ≤ _; unfold maxLen; omega) (by unfold maxLen; omega)).mono ?_
      rintro e w' ⟨rfl, rfl⟩
      simp only [HC1.out]
      go_wp2_with fail
      refine (zdg ⟨y.toArray⟩ k _ (by show y.length ≤ _; unfold maxLen; omega) (by unfold maxLen; omega)).mono ?_
      rintro e w' ⟨rfl, rfl⟩
      simp only [HC2.out]
      by_cases h0 : c1 = c2
      ·have HR : Hid (∀ j, j < k + 1 -> Lib.compareInt (V.wt x j) (V.wt y j) = 0) := zpa (fun j hj => by
         by_cases e : j = k
         · subst e; rw [← HSG.out, h0, Int.sub_self]; rfl
         · exact HZ.out j (by omega))
       have HL2 := HLT.out
       have hb : (c1 - c2 != 0) = false := by rw [h0, Int.sub_self]; rfl
       exact zqz
      ·have HR : Hid (V.zx s.data.toList t.data.toList = V.sgn (c1 - c2)) := zpa (by
         have h5 : Lib.compareInt (V.wt x k) (V.wt y k) ≠ 0 := by rw [← HSG.out, Ne, V.sgn_zero]; omega
         rw [HSTEP.out, HCUT.out h5, V.jb h5, HSG.out])
       have hb : (c1 - c2 != 0) = true := by rw [bne_iff_ne]; omega
       clear h0
       go_wp2_with fail
       refine (zda _ _).mono ?_
       rintro e w' ⟨rfl, rfl⟩
       go_wp2
       go_ret
       exact ⟨zn HR.out.symm, HB2.out⟩
    ·have HZ0 : Hid (V.wcmp x y = 0) := zpa (zgy x y (fun j hj => HZ.out j (by omega)))
     have h1 : ¬ k < x.length := by omega
     have h2 : ¬ k < y.length := by omega
     clear hlt
     go_wp2_with fail
     refine (vh ⟨a1.toArray⟩ true _ (by show a1.length ≤ _; unfold maxLen; omega)).mono ?_
     rintro e w3 ⟨rfl, hb3⟩
     simp only [HPA.out]
     go_wp2_with fail
     refine (vh ⟨b1.toArray⟩ true _ (by show b1.length ≤ _; unfold maxLen; omega)).mono ?_
     rintro e w4 ⟨rfl, hb4⟩
     simp only [HQB.out]
     go_wp2_with fail
     refine (zbv ⟨p.toArray⟩ ⟨q.toArray⟩ _ (by show p.length ≤ _; unfold maxLen; omega) (by show q.length ≤ _; unfold maxLen; omega)).mono ?_
     rintro e w5 ⟨rfl, rfl⟩
     simp only
     have HB5 := zpa (HB2.out.trans ((hb3.trans (hb4.mono hb3.size)).mono HB2.out.size))
     clear hb3 hb4
     by_cases h0 : V.numbers p q = 0
     ·have HR : Hid (V.zx a2 b2 = V.zx s.data.toList t.data.toList) := zpa (by
        rw [HSTEP.out, HZ0.out, h0]; rfl)
      rw [h0]
      clear h0
      go_wp2
      go_roundw
      case rel => exact ⟨⟨a2.toArray⟩, ⟨b2.toArray⟩, rfl, rfl, m5, m6, by simp only ; exact AA2.out, by simp only ; exact AB2.out, by simp only ; exact HR.out, HB5.out⟩
      case measure => exact L5.out
     ·exact zqk
theorem zlc (x y : V.Bs) (w : World) (hx : x.length ≤ 1000) (hy : y.length ≤ 1000) (ax : V.Ascii x) (ay : V.Ascii y) :
  Calls Tryz.prog 90 #[.string ⟨x.toArray⟩, .string ⟨y.toArray⟩] w fun e w' => e = .returned (.int .i64 (V.zx x y)) /\ Below w.heap.size w w' := by
 have h := zod ⟨x.toArray⟩ ⟨y.toArray⟩ w (by show x.length ≤ _; unfold maxLen; omega) (by show y.length ≤ _; unfold maxLen; omega)
 simp only  at h
 exact h ax ay
theorem zqi {P : Prop} (h : P := by
 rw [h1] at HN
 go_enter Tryz.func121, Tryz.ntmps121
 go_wp2_with fail
 refine (zz s _ hs').mono ?_
 rintro e w' ⟨rfl, rfl⟩
 simp only [HD.out]
 go_wp2
 all_goals
  go_ret
  exact ⟨zf (by rw [HN.out]; simp_all), rfl⟩) : P := h
theorem jy (s : ByteArray) (w : World) (hs : s.size ≤ maxLen) :
  Calls Tryz.prog 121 #[.string s] w fun e w' => e = .returned (.bool (V.numb s.data.toList true)) /\ w = w' := by
 have hs' := hs
 unfold maxLen at hs
 rcases hd : V.digits s.data.toList with _ | _
 ·have HD := zpa hd
  have HN : Hid (V.numb s.data.toList true = false) := zpa (by unfold V.numb; rw [hd]; rfl)
  clear hd
  go_enter Tryz.func121, Tryz.ntmps121
  go_wp2_with fail
  refine (zz s _ hs').mono ?_
  rintro e w' ⟨rfl, rfl⟩
  simp only [HD.out]
  go_wp2
  go_ret
  exact ⟨zf HN.out.symm, rfl⟩
 ·have HD := zpa hd
  have hp := zbz hd
  rw [zi] at hp
  have h0 := zpa (at0 hp)
  have HN : Hid (V.numb s.data.toList true = (((s[0].toNat : Int) != 48) || ((s.size : Int) == 1))) := by
   refine zpa ?_
   unfold V.numb
   have : (s[0] == (48 : UInt8)) = ((s[0].toNat : Int) == 48) := by
    rw [Bool.eq_iff_iff]; simp [← UInt8.toNat_inj]; omega
   rw [HD.out, h0.out, zi, this]
   unfold bne
   rcases (s[0].toNat : Int) == 48 with _ | _
   ·simp
   ·rw [Bool.eq_iff_iff]; simp; omega
  clear hd
  rcases h1 : ((s[0].toNat : Int) != 48) with _ | _
  ·exact zqi
  ·exact zqi
end Go.Proofs.YtbikeahmldobkaaGreatDoor
