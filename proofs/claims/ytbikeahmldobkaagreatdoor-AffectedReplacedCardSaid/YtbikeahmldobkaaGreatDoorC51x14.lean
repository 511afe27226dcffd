/-
  Lemmas for the law.
-/
import Derived.Test.YtbikeahmldobkaaGreatDoorC51x12
import Derived.Test.YtbikeahmldobkaaGreatDoorC51x11
import Derived.Test.YtbikeahmldobkaaGreatDoorC51x13
import Derived.Test.YtbikeahmldobkaaGreatDoorC51x03
import Derived.Test.YtbikeahmldobkaaGreatDoorC51x04
import Derived.Test.YtbikeahmldobkaaGreatDoorC51x01
import Derived.Deep.DeepCutAuto
import Derived.BigRegion
import Derived.OwnWalk
set_option linter.all false
set_option maxRecDepth 100000
set_option maxHeartbeats 3200000
namespace Go.Proofs.YtbikeahmldobkaaGreatDoor
open Go.RowKit
theorem zb9 (s : ByteArray) (d : Bool) (w : World) (hs : s.size ≤ maxLen) :
  Calls Tryz.prog 125 #[.string s, .bool d] w fun e w' => e = .returned (.tuple #[.string ⟨(V.zx s.data.toList d).1.toArray⟩, .string ⟨(V.zx s.data.toList d).2.toArray⟩]) /\ Below w.heap.size w w' := by
 unfold maxLen at hs
 go_enter Tryz.func125, Tryz.ntmps125
 go_wp2
 go_loop [6] (fun i => ∃ k : Nat, k ≤ s.size /\ i = .int .i64 k /\ (s.data.toList.take k).all (fun c => V.dig c == d) = true) (fun i => s.size - (intOf i).toNat)
 case atStart => exact ⟨0, Nat.zero_le _, rfl, rfl⟩
 case round =>
  obtain ⟨k, hk, rfl, hp⟩ := hrel
  have HP := zu8 hp
  clear hp
  have fin : (k = s.size ∨ ∃ h : k < s.size, (V.digB s[k].toNat == d) = false) -> Hid (s.extract 0 k = ⟨(V.zx s.data.toList d).1.toArray⟩ /\ s.extract k s.size = ⟨(V.zx s.data.toList d).2.toArray⟩) := fun h => by
   have := V.zso s.data.toList (fun c => V.dig c == d) k (by rw [zh]; exact hk) HP.out (by
     rcases h with h | ⟨h, h2⟩
     · left; rw [zh]; exact h
     · right
       have e : s.data.toList[k]'(by rw [zh]; exact h) = s[k] := by simp; rfl
       exact ⟨by rw [zh]; exact h, by rw [e]; exact h2⟩)
   exact zyt
  have FIN := zu8 fin
  clear fin
  by_cases hlt : k < s.size
  ·have hl : k < s.data.toList.length := by rw [zh]; exact hlt
   have HT := zu8 (V.zby (p := fun c => V.dig c == d) hl)
   have HE : Hid (s.data.toList[k] = s[k]) := zu8 (by simp; rfl)
   rcases hD : V.digB s[k].toNat with _ | _ <;> cases d
   all_goals
    have HD := zu8 hD
    clear hD
    go_wp2_with fail
    refine (za1 _ _).mono ?_
    rintro e w' ⟨rfl, rfl⟩
    simp only [HD.out]
    go_wp2
   ·exact zw3
   ·have HF := FIN.out (.inr ⟨hlt, by rw [HD.out]; rfl⟩)
    exact zv0
   ·have HF := FIN.out (.inr ⟨hlt, by rw [HD.out]; rfl⟩)
    exact zv0
   ·exact zw4
  ·have HF := FIN.out (.inl (by omega))
   go_wp2
   exact zv0
theorem zwo {P : Prop} (h : P := by
 have HL := zu8 hL
 clear hL h1
 go_enter Tryz.func126, Tryz.ntmps126
 go_wp2_with fail
 refine (vx _ _).mono ?_
 rintro e w' ⟨rfl, rfl⟩
 simp only [HL.out]
 go_wp2
 go_ret
 exact ⟨zu HW.out.symm, rfl⟩) : P := h
theorem zxt {P : Prop} (h : P := by
 go_enter Tryz.func126, Tryz.ntmps126
 go_wp2
 go_ret
 exact ⟨zu HW.out.symm, rfl⟩) : P := h
theorem zgt (s : ByteArray) (i : Nat) (w : World) (_hs : s.size ≤ maxLen) (_hi : i ≤ maxLen) :
  Calls Tryz.prog 126 #[.string s, .int .i64 i] w fun e w' => e = .returned (.int .i64 (V.rwt s.data.toList i)) /\ w = w' := by
 unfold maxLen at _hs _hi
 by_cases hlt : i < s.size
 ·have HG := zu8 (zs1 hlt)
  have g0 := s[i].toNat_lt
  by_cases h1 : s[i] = 126
  ·have HW : Hid (V.rwt s.data.toList i = 0) := zu8 (by unfold V.rwt; rw [if_neg (by rw [zh]; omega), HG.out, if_pos h1])
   have hb : ((s[i].toNat : Int) == 126) = true := by rw [h1]; rfl
   clear h1
   exact zxt
  ·have hb : ((s[i].toNat : Int) == 126) = false := by
    exact zyw
   rcases hL : V.letB s[i].toNat with _ | _
   ·have HW : Hid (V.rwt s.data.toList i = 300 + s[i].toNat) := zu8 (by
      unfold V.rwt; rw [if_neg (by rw [zh]; omega), HG.out, if_neg h1, if_neg]
      unfold V.lett; rw [hL]; simp)
    exact zwo
   ·have HW : Hid (V.rwt s.data.toList i = 2 + s[i].toNat) := zu8 (by
      unfold V.rwt; rw [if_neg (by rw [zh]; omega), HG.out, if_neg h1, if_pos]
      unfold V.lett; rw [hL])
    exact zwo
 ·have HW : Hid (V.rwt s.data.toList i = 1) := zu8 (by unfold V.rwt; rw [if_pos (by rw [zh]; omega)])
  exact zxt
theorem zt9 (s t : ByteArray) (w : World) (hs : s.size ≤ maxLen) (ht : t.size ≤ maxLen) (g2 : V.Ascii s.data.toList) (g6 : V.Ascii t.data.toList) :
  Calls Tryz.prog 90 #[.string s, .string t] w fun e w' => e = .returned (.int .i64 (V.qi s.data.toList t.data.toList)) /\ Below w.heap.size w w' := by
 unfold maxLen at hs ht
 have HAS := zu8 g2
 have j0 := zu8 g6
 clear g2 g6
 go_enter Tryz.func90, Tryz.ntmps90
 go_wp2
 go_loopw [0, 1] (fun v1 v2 wr => ∃ a b : ByteArray, v1 = .string a /\ v2 = .string b /\ a.size ≤ s.size /\ b.size ≤ t.size /\ V.Ascii a.data.toList /\ V.Ascii b.data.toList /\ V.qi a.data.toList b.data.toList = V.qi s.data.toList t.data.toList /\ Below w.heap.size w wr) (fun v1 v2 _ => szOf v1 + szOf v2)
 case atStart => exact ⟨s, t, rfl, rfl, zva _, zva _, HAS.out, j0.out, rfl, zvb _ _⟩
 case round =>
  obtain ⟨a, b, rfl, rfl, g2, j9, g7, g8, g9, hB⟩ := hrel
  have HT := zu8 g9
  have HB := zu8 hB
  have h3 := zu8 g7
  have h4 := zu8 g8
  clear g9 hB g7 g8
  rcases hea : a.toList.isEmpty with _ | _ <;> rcases heb : b.toList.isEmpty with _ | _
  case true.true =>
   exact zwx
  all_goals
   have g3 : ¬ (a.data.toList.isEmpty && b.data.toList.isEmpty) = true := by rw [← Lib.toList_data, ← Lib.toList_data, hea, heb]; simp
   have g0 := V.zdn _ _ g3
   have HNE := zu8 g3
   clear g3
   obtain ⟨x, a1, hxa⟩ : ∃ x a1, V.zx a.data.toList false = (x, a1) := ⟨_, _, rfl⟩
   obtain ⟨y, b1, hyb⟩ : ∃ y b1, V.zx b.data.toList false = (y, b1) := ⟨_, _, rfl⟩
   obtain ⟨p, a2, hpa⟩ : ∃ p a2, V.zx a1 true = (p, a2) := ⟨_, _, rfl⟩
   obtain ⟨q, b2, hqb⟩ : ∃ q b2, V.zx b1 true = (q, b2) := ⟨_, _, rfl⟩
   have l1 := V.ql a.data.toList false
   have l2 := V.ql b.data.toList false
   have l3 := V.ql a1 true
   have l4 := V.ql b1 true
   have AX := zu8 (h3.out.take false)
   have AA1 := h3.out.rest false
   have AY := zu8 (h4.out.take false)
   have AB1 := h4.out.rest false
   rw [hxa] at AX AA1
   rw [hyb] at AY AB1
   have AA2 := zu8 (AA1.rest true)
   have AB2 := zu8 (AB1.rest true)
   rw [hpa] at AA2
   rw [hqb] at AB2
   clear AA1 AB1
   rw [hxa, zh] at l1
   rw [hyb, zh] at l2
   rw [hpa] at l3
   rw [hqb] at l4
   have l5 : a2.length + b2.length < a.size + b.size := by
    exact zwf
   rw [hxa, hyb] at g0
   simp only [hpa, hqb] at g0
   rw [HT.out] at g0
   have HSTEP := zu8 g0
   have j1 := zu8 hxa
   have j2 := zu8 hyb
   have j3 := zu8 hpa
   have j4 := zu8 hqb
   simp only at l1 l2 l3 l4
   have m1 : x.length ≤ s.size := by omega
   have m2 : y.length ≤ t.size := by omega
   have m3 : a1.length ≤ s.size := by omega
   have m4 : b1.length ≤ t.size := by omega
   have m5 : a2.length ≤ s.size := by omega
   have m6 : b2.length ≤ t.size := by omega
   have m7 : p.length ≤ s.size := by omega
   have m8 : q.length ≤ t.size := by omega
   have L5 := zu8 l5
   clear g0 hxa hyb hpa hqb l1 l2 l3 l4 l5
   go_wp2_with fail
   refine (zb9 a false _ (by unfold maxLen; omega)).mono ?_
   rintro e w1 ⟨rfl, hb1⟩
   simp only [j1.out]
   go_wp2_with fail
   refine (zb9 b false _ (by unfold maxLen; omega)).mono ?_
   rintro e w2 ⟨rfl, hb2⟩
   simp only [j2.out]
   have HB2 := zu8 (HB.out.trans ((hb1.trans (hb2.mono hb1.size)).mono HB.out.size))
   clear hb1 hb2
   go_wp2
   go_loop [9] (fun i => ∃ k : Nat, k ≤ max x.length y.length /\ i = .int .i64 k /\ ∀ j, j < k -> Lib.compareInt (V.wt x j) (V.wt y j) = 0) (fun i => max x.length y.length - (intOf i).toNat)
   case atStart => exact ⟨0, Nat.zero_le _, rfl, fun j hj => by omega⟩
   case round =>
    obtain ⟨k, hk, rfl, hz⟩ := hrel
    have HZ := zu8 hz
    clear hz
    by_cases hlt : k < max x.length y.length
    ·have j5 : (k < x.length) ∨ (¬ k < x.length /\ k < y.length) := by omega
     have g4 := zox x y k hlt HZ.out
     have h9 := zu8 g4
     have j6 := zu8 hlt
     have g1 := zu8 (V.sgn_rwt x y k AX.out AY.out)
     have h6 := V.ztb x k
     have h7 := V.ztb y k
     obtain ⟨c1, hc1⟩ : ∃ c1, V.rwt x k = c1 := ⟨_, rfl⟩
     obtain ⟨c2, g5⟩ : ∃ c2, V.rwt y k = c2 := ⟨_, rfl⟩
     rw [hc1] at h6 g1
     rw [g5] at h7 g1
     have j7 := zu8 hc1
     have j8 := zu8 g5
     obtain ⟨r1, r1'⟩ := h6
     obtain ⟨r2, r2'⟩ := h7
     clear g4 hlt hc1 g5
     rcases j5 with h1 | ⟨h1, h2⟩
     all_goals
      go_wp2_with fail
      refine (zgt ⟨x.toArray⟩ k _ (by show x.length ≤ _; unfold maxLen; omega) (by unfold maxLen; omega)).mono ?_
      rintro e w' ⟨rfl, rfl⟩
      simp only [j7.out]
      go_wp2_with fail
      refine (zgt ⟨y.toArray⟩ k _ (by show y.length ≤ _; unfold maxLen; omega) (by unfold maxLen; omega)).mono ?_
      rintro e w' ⟨rfl, rfl⟩
      simp only [j8.out]
      by_cases h0 : c1 = c2
      ·have HR : Hid (∀ j, j < k + 1 -> Lib.compareInt (V.wt x j) (V.wt y j) = 0) := zu8 (fun j hj => by
         by_cases e : j = k
         · subst e; rw [← g1.out, h0, Int.sub_self]; rfl
         · exact HZ.out j (by omega))
       have k0 := j6.out
       have hb : (c1 - c2 != 0) = false := by rw [h0, Int.sub_self]; rfl
       exact zw1
      ·have HR : Hid (V.qi s.data.toList t.data.toList = V.sgn (c1 - c2)) := zu8 (by
         have h5 : Lib.compareInt (V.wt x k) (V.wt y k) ≠ 0 := by rw [← g1.out, Ne, V.sgn_zero]; omega
         rw [HSTEP.out, h9.out h5, V.js h5, g1.out])
       have hb : (c1 - c2 != 0) = true := by rw [bne_iff_ne]; omega
       clear h0
       go_wp2_with fail
       refine (zgi _ _).mono ?_
       rintro e w' ⟨rfl, rfl⟩
       go_wp2
       go_ret
       exact ⟨zu HR.out.symm, HB2.out⟩
    ·have HZ0 : Hid (V.wcmp x y = 0) := zu8 (zkx x y (fun j hj => HZ.out j (by omega)))
     have h1 : ¬ k < x.length := by omega
     have h2 : ¬ k < y.length := by omega
     clear hlt
     go_wp2_with fail
     refine (zb9 ⟨a1.toArray⟩ true _ (by show a1.length ≤ _; unfold maxLen; omega)).mono ?_
     rintro e w3 ⟨rfl, hb3⟩
     simp only [j3.out]
     go_wp2_with fail
     refine (zb9 ⟨b1.toArray⟩ true _ (by show b1.length ≤ _; unfold maxLen; omega)).mono ?_
     rintro e w4 ⟨rfl, h8⟩
     simp only [j4.out]
     go_wp2_with fail
     refine (zet ⟨p.toArray⟩ ⟨q.toArray⟩ _ (by show p.length ≤ _; unfold maxLen; omega) (by show q.length ≤ _; unfold maxLen; omega)).mono ?_
     rintro e w5 ⟨rfl, rfl⟩
     simp only
     have HB5 := zu8 (HB2.out.trans ((hb3.trans (h8.mono hb3.size)).mono HB2.out.size))
     clear hb3 h8
     by_cases h0 : V.numbers p q = 0
     ·have HR : Hid (V.qi a2 b2 = V.qi s.data.toList t.data.toList) := zu8 (by
        rw [HSTEP.out, HZ0.out, h0]; rfl)
      rw [h0]
      clear h0
      go_wp2
      go_roundw
      case rel => exact ⟨⟨a2.toArray⟩, ⟨b2.toArray⟩, rfl, rfl, m5, m6, by simp only ; exact AA2.out, by simp only ; exact AB2.out, by simp only ; exact HR.out, HB5.out⟩
      case measure => exact L5.out
     ·exact zwm
theorem zpx (x y : V.Bs) (w : World) (hx : x.length ≤ 1000) (hy : y.length ≤ 1000) (ax : V.Ascii x) (ay : V.Ascii y) :
  Calls Tryz.prog 90 #[.string ⟨x.toArray⟩, .string ⟨y.toArray⟩] w fun e w' => e = .returned (.int .i64 (V.qi x y)) /\ Below w.heap.size w w' := by
 have h := zt9 ⟨x.toArray⟩ ⟨y.toArray⟩ w (by show x.length ≤ _; unfold maxLen; omega) (by show y.length ≤ _; unfold maxLen; omega)
 simp only  at h
 exact h ax ay
theorem zwk {P : Prop} (h : P := by
 rw [h1] at HN
 go_enter Tryz.func121, Tryz.ntmps121
 go_wp2_with fail
 refine (qk s _ hs').mono ?_
 rintro e w' ⟨rfl, rfl⟩
 simp only [HD.out]
 go_wp2
 all_goals
  go_ret
  exact ⟨ze (by rw [HN.out]; simp_all), rfl⟩) : P := h
theorem xo (s : ByteArray) (w : World) (hs : s.size ≤ maxLen) :
  Calls Tryz.prog 121 #[.string s] w fun e w' => e = .returned (.bool (V.numb s.data.toList true)) /\ w = w' := by
 have hs' := hs
 unfold maxLen at hs
 rcases hd : V.digits s.data.toList with _ | _
 ·have HD := zu8 hd
  have HN : Hid (V.numb s.data.toList true = false) := zu8 (by unfold V.numb; rw [hd]; rfl)
  clear hd
  go_enter Tryz.func121, Tryz.ntmps121
  go_wp2_with fail
  refine (qk s _ hs').mono ?_
  rintro e w' ⟨rfl, rfl⟩
  simp only [HD.out]
  go_wp2
  go_ret
  exact ⟨ze HN.out.symm, rfl⟩
 ·have HD := zu8 hd
  have hp := zey hd
  rw [zh] at hp
  have h0 := zu8 (at0 hp)
  have HN : Hid (V.numb s.data.toList true = (((s[0].toNat : Int) != 48) || ((s.size : Int) == 1))) := by
   refine zu8 ?_
   unfold V.numb
   have : (s[0] == (48 : UInt8)) = ((s[0].toNat : Int) == 48) := by
    rw [Bool.eq_iff_iff]; simp [← UInt8.toNat_inj]; omega
   rw [HD.out, h0.out, zh, this]
   unfold bne
   rcases (s[0].toNat : Int) == 48 with _ | _
   ·simp
   ·rw [Bool.eq_iff_iff]; simp; omega
  clear hd
  rcases h1 : ((s[0].toNat : Int) != 48) with _ | _
  ·exact zwk
  ·exact zwk
open Go.RowKit
def RSem (r : Option (List V.Bs × List V.Bs)) (w : World) (e : Ending) (w' : World) : Prop :=
 Below w.heap.size w w' /\ match r with
 | none => e = .returned (.tuple #[.slice none 0 0, .slice none 0 0, .bool false])
 | some (l, ids) => ∃ v u, e = .returned (.tuple #[v, u, .bool true]) /\ Strs w' v l /\ Strs w' u ids
theorem zen (x : V.Bs) : V.ju false x = V.only (V.kind [45]) x := by
 unfold V.ju V.numb
 rcases V.digits x with _ | _ <;> simp
theorem yt {w w4 : World} {l : List V.Bs} {t : Nat} (h : w4 = w.alloc (.cells (xe l) t)) (j : Nat) (hj : j < l.length) : w4.cell? ⟨w.heap.size, j, none⟩ = some (.string ⟨l[j].toArray⟩) := by
 rw [h, World.cell?_alloc_new, vv l j hj]
theorem znq {α : Type} {l : List α} {p : α -> Bool} {k : Nat} (h : k < l.length) (hp : p l[k] = false) : l.all p = false := by
 rw [List.all_eq_false]
 exact ⟨l[k], List.getElem_mem h, by simp [hp]⟩
theorem zdp {α : Type} {l : List α} {p : α -> Bool} {k : Nat} (h : k < l.length) : (l.take (k + 1)).all p = ((l.take k).all p && p l[k]) := by
 rw [List.take_succ_eq_append_getElem h, List.all_append]; simp
theorem zxh {P : Prop} (h : P := by
 go_ret3
 have HN : Hid (V.zo s.data.toList = none) := zu8 (by
   rw [HP.out, HI.out, znq (k := k) hlt (by rw [HK.out]; rfl)]; simp)
 rw [HN.out]
 exact ⟨HB4.out, rfl⟩) : P := h
theorem zx7 {P : Prop} (h : P := by
 go_round
 case rel => exact ⟨k + 1, by omega, by go_num, by rw [HT.out, HQ.out, HK.out]; rfl⟩
 case measure => simp [intOf]; omega) : P := h
theorem zc7 (s : ByteArray) (w : World) (hm : zj w) (hs : s.size ≤ 1000) :
  Calls Tryz.prog 85 #[.string s] w (RSem (V.zo s.data.toList) w) := by
 obtain ⟨v1, bu, B, g7⟩ : ∃ a b c, V.cut1 43 s.data.toList = (a, b, c) := ⟨_, _, _, rfl⟩
 obtain ⟨v2, pr, E, g8⟩ : ∃ a b c, V.cut1 45 v1 = (a, b, c) := ⟨_, _, _, rfl⟩
 obtain ⟨L, hL⟩ : ∃ L, V.zl 46 v2 = L := ⟨_, rfl⟩
 have HP : Hid (V.zo s.data.toList = if (B && !V.identifiers bu false) || (E && !V.identifiers pr true) || L.length != 3 then none else if L.all (fun x => V.numb x true) then some (L, if E then V.zl 46 pr else []) else none) := zu8 (by
   unfold V.zo
   rw [g7]
   simp only
   rw [g8]
   simp only
   rw [hL])
 have hl1 : v1.length ≤ s.size /\ bu.length ≤ s.size := by
  have := yg 43 s.data.toList
  rw [g7, zh] at this
  exact this
 have h4 : v2.length ≤ v1.length /\ pr.length ≤ v1.length := by
  have := yg 45 v1
  rw [g8] at this
  exact this
 have j7 : L.length ≤ v2.length + 1 := by rw [← hL]; exact jf 46 v2
 have h0 : Hid (∀ x ∈ L, x.length ≤ v2.length) := zu8 (fun x hx => jx 46 v2 x (by rw [hL]; exact hx))
 obtain ⟨hl1, j5⟩ := hl1
 obtain ⟨h4, j6⟩ := h4
 have HX1 := zu8 g7
 have HX2 := zu8 g8
 have HL := zu8 hL
 have HM := zu8 hm
 clear g7 g8 hL hm
 go_enter Tryz.func85, Tryz.ntmps85
 go_wp2_with fail
 refine (zcn s 43 _ HM.out (by omega)).mono ?_
 rintro e w1 ⟨rfl, hb1⟩
 simp only [HX1.out]
 have HB1 := zu8 hb1
 clear hb1
 go_upto_if 22 with (fail)
 go_cut [8] (fun _ wx => Below w.heap.size w wx /\ (B = true -> V.identifiers bu false = true))
 case first =>
  cases B with
  | false =>
   go_wp2
   go_meet
   exact ⟨HB1.out, fun e => by cases e⟩
  | true =>
   go_wp2_with fail
   refine (ki ⟨bu.toArray⟩ 46 _ (HM.out.below HB1.out) (by show bu.length < _; omega)).mono ?_
   rintro e w4 ⟨rfl, g0⟩
   simp only  at g0 ⊢
   have hi : V.identifiers bu false = (V.zl 46 bu).all (V.ju false) := rfl
   have g9 := jf 46 bu
   have g3 := zu8 (jx 46 bu)
   obtain ⟨L0, g5⟩ : ∃ L0, V.zl 46 bu = L0 := ⟨_, rfl⟩
   rw [g5] at g0 hi g9 g3 ⊢
   have hcs := zu8 (yt g0)
   have HB4 : Hid (Below w.heap.size w w4) := zu8 (by rw [g0]; exact HB1.out.alloc HB1.out.size _)
   have HI := zu8 hi
   clear g0 hi g5
   go_wp2
   go_loop [9] (fun i => ∃ k : Nat, k ≤ L0.length /\ i = .int .i64 k /\ (L0.take k).all (V.ju false) = true) (fun i => L0.length - (intOf i).toNat)
   case atStart => exact ⟨0, Nat.zero_le _, rfl, rfl⟩
   case round =>
    obtain ⟨k, hk, rfl, hp⟩ := hrel
    have HQ := zu8 hp
    clear hp
    by_cases hlt : k < L0.length
    ·have hc := hcs.out k hlt
     have j0 : L0[k].length ≤ bu.length := g3.out _ (List.getElem_mem hlt)
     have HT := zu8 (zdp (p := V.ju false) hlt)
     rcases g1 : V.only (V.kind [45]) L0[k] with _ | _
     all_goals
      have g2 := zu8 g1
      clear g1
      go_wp2_with fail
      refine (uw ⟨L0[k].toArray⟩ ⟨#[45]⟩ _ (by show L0[k].length ≤ _; unfold maxLen; omega)).mono ?_
      rintro e w' ⟨rfl, rfl⟩
      simp only [g2.out]
      go_wp2
     ·go_ret3
      have HN : Hid (V.zo s.data.toList = none) := zu8 (by
        rw [HP.out, HI.out, znq (k := k) hlt (by rw [zen]; exact g2.out)]; rfl)
      rw [HN.out]
      exact ⟨HB4.out, rfl⟩
     ·go_round
      case rel => exact ⟨k + 1, by omega, by go_num, by rw [HT.out, HQ.out, zen]; exact g2.out⟩
      case measure => simp [intOf]; omega
    ·have ht : L0.take k = L0 := List.take_of_length_le (by omega)
     rw [ht] at HQ
     clear ht
     go_wp2
     go_meet
     exact ⟨HB4.out, fun _ => by rw [HI.out]; exact HQ.out⟩
 case rest =>
  obtain ⟨hb2, g4⟩ := hcut
  have HB2 := zu8 hb2
  have h7 := zu8 g4
  clear hb2 g4 HB1
  obtain ⟨wo, rfl⟩ : ∃ wo : World, wo = wc := ⟨_, rfl⟩
  go_wp2_with fail
  refine (zcn ⟨v1.toArray⟩ 45 _ (HM.out.below HB2.out) (by show v1.length < _; omega)).mono ?_
  rintro e w3 ⟨rfl, hb3⟩
  simp only [HX2.out]
  have HB3 := zu9 HB2 hb3
  clear hb3
  go_upto_if 43 with (fail)
  go_cut [13] (fun v wx => ∃ ids : List V.Bs, Strs wx v ids /\ Below w.heap.size w wx /\ ids = (if E then V.zl 46 pr else []) /\ (E = true -> V.identifiers pr true = true))
  case first =>
   cases E with
   | false =>
    go_wp2
    go_meet
    exact ⟨[], Strs.nil _, HB3.out, rfl, fun e => by cases e⟩
   | true =>
    go_wp2_with fail
    refine (ki ⟨pr.toArray⟩ 46 _ (HM.out.below HB3.out) (by show pr.length < _; omega)).mono ?_
    rintro e w4 ⟨rfl, g0⟩
    simp only  at g0 ⊢
    have hi : V.identifiers pr true = (V.zl 46 pr).all (V.ju true) := rfl
    have g9 := jf 46 pr
    have g3 := zu8 (jx 46 pr)
    obtain ⟨L0, g5⟩ : ∃ L0, V.zl 46 pr = L0 := ⟨_, rfl⟩
    rw [g5] at g0 hi g9 g3 ⊢
    have hcs := zu8 (yt g0)
    have HB4 : Hid (Below w.heap.size w w4) := zu8 (by rw [g0]; exact HB3.out.alloc HB3.out.size _)
    have j1 : Hid (Strs w4 (.slice (some ⟨w3.heap.size, 0, none⟩) L0.length L0.length) L0) := zu8 (by rw [g0]; exact Strs.split w3 L0 _)
    have HI := zu8 hi
    have j2 := zu8 g5
    clear g0 hi g5
    go_wp2
    go_loop [14] (fun i => ∃ k : Nat, k ≤ L0.length /\ i = .int .i64 k /\ (L0.take k).all (V.ju true) = true) (fun i => L0.length - (intOf i).toNat)
    case atStart => exact ⟨0, Nat.zero_le _, rfl, rfl⟩
    case round =>
     obtain ⟨k, hk, rfl, hp⟩ := hrel
     have HQ := zu8 hp
     clear hp
     by_cases hlt : k < L0.length
     ·have hc := hcs.out k hlt
      have j0 : L0[k].length ≤ pr.length := g3.out _ (List.getElem_mem hlt)
      have HT := zu8 (zdp (p := V.ju true) hlt)
      have HK : Hid (V.ju true L0[k] = (V.only (V.kind [45]) L0[k] && !(V.digits L0[k] && !V.numb L0[k] true))) := rfl
      rcases g1 : V.only (V.kind [45]) L0[k] with _ | _
      ·have g2 := zu8 g1
       rw [g1] at HK
       clear g1
       go_wp2_with fail
       refine (uw ⟨L0[k].toArray⟩ ⟨#[45]⟩ _ (by show L0[k].length ≤ _; unfold maxLen; omega)).mono ?_
       rintro e w' ⟨rfl, rfl⟩
       simp only [g2.out]
       go_wp2
       exact zxh
      ·have g2 := zu8 g1
       rcases g6 : V.digits L0[k] with _ | _
       ·have h1 := zu8 g6
        rw [g1, g6] at HK
        clear g1 g6
        go_wp2_with fail
        refine (uw ⟨L0[k].toArray⟩ ⟨#[45]⟩ _ (by show L0[k].length ≤ _; unfold maxLen; omega)).mono ?_
        rintro e w' ⟨rfl, rfl⟩
        simp only [g2.out]
        go_wp2_with fail
        refine (qk ⟨L0[k].toArray⟩ _ (by show L0[k].length ≤ _; unfold maxLen; omega)).mono ?_
        rintro e w' ⟨rfl, rfl⟩
        simp only [h1.out]
        go_wp2
        exact zx7
       ·have h1 := zu8 g6
        rcases h2 : V.numb L0[k] true with _ | _
        all_goals
         have j3 := zu8 h2
         rw [g1, g6, h2] at HK
         clear g1 g6 h2
         go_wp2_with fail
         refine (uw ⟨L0[k].toArray⟩ ⟨#[45]⟩ _ (by show L0[k].length ≤ _; unfold maxLen; omega)).mono ?_
         rintro e w' ⟨rfl, rfl⟩
         simp only [g2.out]
         go_wp2_with fail
         refine (qk ⟨L0[k].toArray⟩ _ (by show L0[k].length ≤ _; unfold maxLen; omega)).mono ?_
         rintro e w' ⟨rfl, rfl⟩
         simp only [h1.out]
         go_wp2_with fail
         refine (xo ⟨L0[k].toArray⟩ _ (by show L0[k].length ≤ _; unfold maxLen; omega)).mono ?_
         rintro e w' ⟨rfl, rfl⟩
         simp only [j3.out]
         go_wp2
        ·exact zxh
        ·exact zx7
     ·have ht : L0.take k = L0 := List.take_of_length_le (by omega)
      rw [ht] at HQ
      clear ht
      go_wp2
      go_meet
      exact ⟨L0, j1.out, HB4.out, by rw [j2.out]; simp, fun _ => by rw [HI.out]; exact HQ.out⟩
  case rest =>
   obtain ⟨ids, h5, hb5, g4, h3⟩ := hcut
   have HST := zu8 h5
   have HB5 := zu8 hb5
   have h8 := zu8 g4
   have h9 := zu8 h3
   clear h5 hb5 g4 h3 HB3
   go_wp2_with fail
   refine (ki ⟨v2.toArray⟩ 46 _ (HM.out.below HB5.out) (by show v2.length < _; omega)).mono ?_
   rintro e w6 ⟨rfl, hw6⟩
   simp only [HL.out] at hw6 ⊢
   have hcs := zu8 (yt hw6)
   have HB6 : Hid (Below w.heap.size w w6) := zu8 (by rw [hw6]; exact HB5.out.alloc HB5.out.size _)
   have j4 : Hid (Strs w6 u13 ids) := zu8 (HST.out.below (by rw [hw6]; exact (zvb _ _).alloc (zva _) _))
   have h6 : Hid (Strs w6 (.slice (some ⟨wc.heap.size, 0, none⟩) L.length L.length) L) := zu8 (by rw [hw6]; exact Strs.split wc L _)
   have HQ : Hid (V.zo s.data.toList = if L.length != 3 then none else if L.all (fun x => V.numb x true) then some (L, ids) else none) := zu8 (by
     rw [HP.out, h8.out]
     have e1 : (B && !V.identifiers bu false) = false := by
       cases B with
       | false => rfl
       | true => rw [h7.out rfl]; rfl
     have e2 : (E && !V.identifiers pr true) = false := by
       cases E with
       | false => rfl
       | true => rw [h9.out rfl]; rfl
     rw [e1, e2]; rfl)
   clear hw6
   by_cases hlen : L.length = 3
   ·obtain ⟨x, y, z, rfl⟩ : ∃ x y z, L = [x, y, z] := by
     match L, hlen with
     | [x, y, z], _ => exact ⟨x, y, z, rfl⟩
    have cx : w6.cell? ⟨wc.heap.size, 0, none⟩ = some (.string ⟨x.toArray⟩) := hcs.out 0 (by simp)
    have cy : w6.cell? ⟨wc.heap.size, 1, none⟩ = some (.string ⟨y.toArray⟩) := hcs.out 1 (by simp)
    have cz : w6.cell? ⟨wc.heap.size, 2, none⟩ = some (.string ⟨z.toArray⟩) := hcs.out 2 (by simp)
    have lx := h0.out x (by simp)
    have ly := h0.out y (by simp)
    have lz := h0.out z (by simp)
    simp only [List.length_cons, List.length_nil, Nat.reduceAdd] at h6 ⊢
    rcases hx : V.numb x true with _ | _
    ·have HX := zu8 hx
     clear hx
     go_wp2_with fail
     refine (xo ⟨x.toArray⟩ _ (by show x.length ≤ _; unfold maxLen; omega)).mono ?_
     rintro e w' ⟨rfl, rfl⟩
     simp only [HX.out]
     go_wp2
     go_ret3
     have HN : Hid (V.zo s.data.toList = none) := zu8 (by rw [HQ.out]; simp [HX.out])
     rw [HN.out]
     exact ⟨HB6.out, rfl⟩
    ·have HX := zu8 hx
     rcases hy : V.numb y true with _ | _
     ·have HY := zu8 hy
      clear hx hy
      go_wp2_with fail
      refine (xo ⟨x.toArray⟩ _ (by show x.length ≤ _; unfold maxLen; omega)).mono ?_
      rintro e w' ⟨rfl, rfl⟩
      simp only [HX.out]
      go_wp2_with fail
      refine (xo ⟨y.toArray⟩ _ (by show y.length ≤ _; unfold maxLen; omega)).mono ?_
      rintro e w' ⟨rfl, rfl⟩
      simp only [HY.out]
      go_wp2
      go_ret3
      have HN : Hid (V.zo s.data.toList = none) := zu8 (by rw [HQ.out]; simp [HX.out, HY.out])
      rw [HN.out]
      exact ⟨HB6.out, rfl⟩
     ·have HY := zu8 hy
      rcases hz : V.numb z true with _ | _
      all_goals
       have HZ := zu8 hz
       clear hx hy hz
       go_wp2_with fail
       refine (xo ⟨x.toArray⟩ _ (by show x.length ≤ _; unfold maxLen; omega)).mono ?_
       rintro e w' ⟨rfl, rfl⟩
       simp only [HX.out]
       go_wp2_with fail
       refine (xo ⟨y.toArray⟩ _ (by show y.length ≤ _; unfold maxLen; omega)).mono ?_
       rintro e w' ⟨rfl, rfl⟩
       simp only [HY.out]
       go_wp2_with fail
       refine (xo ⟨z.toArray⟩ _ (by show z.length ≤ _; unfold maxLen; omega)).mono ?_
       rintro e w' ⟨rfl, rfl⟩
       simp only [HZ.out]
       go_wp2
       go_ret3
      ·have HN : Hid (V.zo s.data.toList = none) := zu8 (by rw [HQ.out]; simp [HX.out, HY.out, HZ.out])
       rw [HN.out]
       exact ⟨HB6.out, rfl⟩
      ·have HN : Hid (V.zo s.data.toList = some ([x, y, z], ids)) := zu8 (by rw [HQ.out]; simp [HX.out, HY.out, HZ.out])
       rw [HN.out]
       exact ⟨HB6.out, _, _, rfl, h6.out, j4.out⟩
   ·have g9 : ((L.length : Int) != 3) = true := by simp; omega
    have HN : Hid (V.zo s.data.toList = none) := zu8 (by rw [HQ.out]; simp [hlen])
    go_wp2
    go_ret3
    rw [HN.out]
    exact ⟨HB6.out, rfl⟩
end Go.Proofs.YtbikeahmldobkaaGreatDoor
