/-
  Lemmas for the law.
-/
import Derived.Test.YtbikeahmldobkaaGreatDoorC50x11
import Derived.Test.YtbikeahmldobkaaGreatDoorC50x10
import Derived.Test.YtbikeahmldobkaaGreatDoorC50x03
import Derived.Test.YtbikeahmldobkaaGreatDoorC50x01
import Derived.Test.YtbikeahmldobkaaGreatDoorC50x02
import Derived.Test.YtbikeahmldobkaaGreatDoorC50x07
import Derived.Deep.DeepCutAuto
import Derived.BigRegion
import Derived.OwnWalk
set_option linter.all false
set_option maxRecDepth 100000
set_option maxHeartbeats 3200000
namespace Go.Proofs.YtbikeahmldobkaaGreatDoor
open Go.RowKit
theorem zcz (s : ByteArray) (d : Bool) (w : World) (hs : s.size ≤ maxLen) :
  Calls Tryz.prog 125 #[.string s, .bool d] w fun e w' => e = .returned (.tuple #[.string ⟨(V.qb s.data.toList d).1.toArray⟩, .string ⟨(V.qb s.data.toList d).2.toArray⟩]) /\ Below w.heap.size w w' := by
 unfold maxLen at hs
 go_enter Tryz.func125, Tryz.ntmps125
 go_wp2
 go_loop [6] (fun i => ∃ k : Nat, k ≤ s.size /\ i = .int .i64 k /\ (s.data.toList.take k).all (fun c => V.dig c == d) = true) (fun i => s.size - (intOf i).toNat)
 case atStart => exact ⟨0, Nat.zero_le _, rfl, rfl⟩
 case round =>
  obtain ⟨k, hk, rfl, hp⟩ := hrel
  have HP := zwg hp
  clear hp
  have fin : (k = s.size ∨ ∃ h : k < s.size, (V.digB s[k].toNat == d) = false) -> Hid (s.extract 0 k = ⟨(V.qb s.data.toList d).1.toArray⟩ /\ s.extract k s.size = ⟨(V.qb s.data.toList d).2.toArray⟩) := fun h => by
   have := V.ztn s.data.toList (fun c => V.dig c == d) k (by rw [zi]; exact hk) HP.out (by
     rcases h with h | ⟨h, h2⟩
     · left; rw [zi]; exact h
     · right
       have e : s.data.toList[k]'(by rw [zi]; exact h) = s[k] := by simp; rfl
       exact ⟨by rw [zi]; exact h, by rw [e]; exact h2⟩)
   exact z0o
  have FIN := zwg fin
  clear fin
  by_cases hlt : k < s.size
  ·have hl : k < s.data.toList.length := by rw [zi]; exact hlt
   have HT := zwg (V.zcn (p := fun c => V.dig c == d) hl)
   have HE : Hid (s.data.toList[k] = s[k]) := zwg (by simp; rfl)
   rcases hD : V.digB s[k].toNat with _ | _ <;> cases d
   all_goals
    have HD := zwg hD
    clear hD
    go_wp2_with fail
    refine (zbr _ _).mono ?_
    rintro e w' ⟨rfl, rfl⟩
    simp only [HD.out]
    go_wp2
   ·exact zyo
   ·have HF := FIN.out (.inr ⟨hlt, by rw [HD.out]; rfl⟩)
    exact zxb
   ·have HF := FIN.out (.inr ⟨hlt, by rw [HD.out]; rfl⟩)
    exact zxb
   ·exact zyp
  ·have HF := FIN.out (.inl (by omega))
   go_wp2
   exact zxb
theorem zx4 {P : Prop} (h : P := by
 have HL := zwg hL
 clear hL h1
 go_enter Tryz.func126, Tryz.ntmps126
 go_wp2_with fail
 refine (ww _ _).mono ?_
 rintro e w' ⟨rfl, rfl⟩
 simp only [HL.out]
 go_wp2
 go_ret
 exact ⟨zv HW.out.symm, rfl⟩) : P := h
theorem zzk {P : Prop} (h : P := by
 go_enter Tryz.func126, Tryz.ntmps126
 go_wp2
 go_ret
 exact ⟨zv HW.out.symm, rfl⟩) : P := h
theorem zhp (s : ByteArray) (i : Nat) (w : World) (_hs : s.size ≤ maxLen) (_hi : i ≤ maxLen) :
  Calls Tryz.prog 126 #[.string s, .int .i64 i] w fun e w' => e = .returned (.int .i64 (V.rwt s.data.toList i)) /\ w = w' := by
 unfold maxLen at _hs _hi
 by_cases hlt : i < s.size
 ·have HG := zwg (zt3 hlt)
  have hb8 := s[i].toNat_lt
  by_cases h1 : s[i] = 126
  ·have HW : Hid (V.rwt s.data.toList i = 0) := zwg (by unfold V.rwt; rw [if_neg (by rw [zi]; omega), HG.out, if_pos h1])
   have hb : ((s[i].toNat : Int) == 126) = true := by rw [h1]; rfl
   clear h1
   exact zzk
  ·have hb : ((s[i].toNat : Int) == 126) = false := by
    exact z0s
   rcases hL : V.letB s[i].toNat with _ | _
   ·have HW : Hid (V.rwt s.data.toList i = 300 + s[i].toNat) := zwg (by
      unfold V.rwt; rw [if_neg (by rw [zi]; omega), HG.out, if_neg h1, if_neg]
      unfold V.lett; rw [hL]; simp)
    exact zx4
   ·have HW : Hid (V.rwt s.data.toList i = 2 + s[i].toNat) := zwg (by
      unfold V.rwt; rw [if_neg (by rw [zi]; omega), HG.out, if_neg h1, if_pos]
      unfold V.lett; rw [hL])
    exact zx4
 ·have HW : Hid (V.rwt s.data.toList i = 1) := zwg (by unfold V.rwt; rw [if_pos (by rw [zi]; omega)])
  exact zzk
theorem zvg (s t : ByteArray) (w : World) (hs : s.size ≤ maxLen) (ht : t.size ≤ maxLen) (g2 : V.Ascii s.data.toList) (g6 : V.Ascii t.data.toList) :
  Calls Tryz.prog 90 #[.string s, .string t] w fun e w' => e = .returned (.int .i64 (V.qk s.data.toList t.data.toList)) /\ Below w.heap.size w w' := by
 unfold maxLen at hs ht
 have h9 := zwg g2
 have HAT := zwg g6
 clear g2 g6
 go_enter Tryz.func90, Tryz.ntmps90
 go_wp2
 go_loopw [0, 1] (fun v1 v2 wr => ∃ a b : ByteArray, v1 = .string a /\ v2 = .string b /\ a.size ≤ s.size /\ b.size ≤ t.size /\ V.Ascii a.data.toList /\ V.Ascii b.data.toList /\ V.qk a.data.toList b.data.toList = V.qk s.data.toList t.data.toList /\ Below w.heap.size w wr) (fun v1 v2 _ => szOf v1 + szOf v2)
 case atStart => exact ⟨s, t, rfl, rfl, zwi _, zwi _, h9.out, HAT.out, rfl, zwj _ _⟩
 case round =>
  obtain ⟨a, b, rfl, rfl, g2, j7, g7, g8, g9, hB⟩ := hrel
  have HT := zwg g9
  have HB := zwg hB
  have h3 := zwg g7
  have HAB := zwg g8
  clear g9 hB g7 g8
  rcases hea : a.toList.isEmpty with _ | _ <;> rcases heb : b.toList.isEmpty with _ | _
  case true.true =>
   exact zyi
  all_goals
   have g3 : ¬ (a.data.toList.isEmpty && b.data.toList.isEmpty) = true := by rw [← Lib.toList_data, ← Lib.toList_data, hea, heb]; simp
   have g0 := V.zed _ _ g3
   have HNE := zwg g3
   clear g3
   obtain ⟨x, a1, hxa⟩ : ∃ x a1, V.qb a.data.toList false = (x, a1) := ⟨_, _, rfl⟩
   obtain ⟨y, b1, hyb⟩ : ∃ y b1, V.qb b.data.toList false = (y, b1) := ⟨_, _, rfl⟩
   obtain ⟨p, a2, hpa⟩ : ∃ p a2, V.qb a1 true = (p, a2) := ⟨_, _, rfl⟩
   obtain ⟨q, b2, hqb⟩ : ∃ q b2, V.qb b1 true = (q, b2) := ⟨_, _, rfl⟩
   have l1 := V.qn a.data.toList false
   have l2 := V.qn b.data.toList false
   have l3 := V.qn a1 true
   have l4 := V.qn b1 true
   have AX := zwg (h3.out.take false)
   have AA1 := h3.out.rest false
   have AY := zwg (HAB.out.take false)
   have AB1 := HAB.out.rest false
   rw [hxa] at AX AA1
   rw [hyb] at AY AB1
   have AA2 := zwg (AA1.rest true)
   have AB2 := zwg (AB1.rest true)
   rw [hpa] at AA2
   rw [hqb] at AB2
   clear AA1 AB1
   rw [hxa, zi] at l1
   rw [hyb, zi] at l2
   rw [hpa] at l3
   rw [hqb] at l4
   have l5 : a2.length + b2.length < a.size + b.size := by
    exact zxv
   rw [hxa, hyb] at g0
   simp only [hpa, hqb] at g0
   rw [HT.out] at g0
   have HSTEP := zwg g0
   have j0 := zwg hxa
   have j1 := zwg hyb
   have j2 := zwg hpa
   have j3 := zwg hqb
   simp only at l1 l2 l3 l4
   have m1 : x.length ≤ s.size := by omega
   have m2 : y.length ≤ t.size := by omega
   have m3 : a1.length ≤ s.size := by omega
   have m4 : b1.length ≤ t.size := by omega
   have m5 : a2.length ≤ s.size := by omega
   have m6 : b2.length ≤ t.size := by omega
   have m7 : p.length ≤ s.size := by omega
   have m8 : q.length ≤ t.size := by omega
   have L5 := zwg l5
   clear g0 hxa hyb hpa hqb l1 l2 l3 l4 l5
   go_wp2_with fail
   refine (zcz a false _ (by unfold maxLen; omega)).mono ?_
   rintro e w1 ⟨rfl, hb1⟩
   simp only [j0.out]
   go_wp2_with fail
   refine (zcz b false _ (by unfold maxLen; omega)).mono ?_
   rintro e w2 ⟨rfl, hb2⟩
   simp only [j1.out]
   have HB2 := zwg (HB.out.trans ((hb1.trans (hb2.mono hb1.size)).mono HB.out.size))
   clear hb1 hb2
   go_wp2
   go_loop [9] (fun i => ∃ k : Nat, k ≤ max x.length y.length /\ i = .int .i64 k /\ ∀ j, j < k -> Lib.compareInt (V.wt x j) (V.wt y j) = 0) (fun i => max x.length y.length - (intOf i).toNat)
   case atStart => exact ⟨0, Nat.zero_le _, rfl, fun j hj => by omega⟩
   case round =>
    obtain ⟨k, hk, rfl, hz⟩ := hrel
    have HZ := zwg hz
    clear hz
    by_cases hlt : k < max x.length y.length
    ·have j4 : (k < x.length) ∨ (¬ k < x.length /\ k < y.length) := by omega
     have g4 := zpo x y k hlt HZ.out
     have h8 := zwg g4
     have HLT := zwg hlt
     have g1 := zwg (V.sgn_rwt x y k AX.out AY.out)
     have h4 := V.zuf x k
     have h6 := V.zuf y k
     obtain ⟨c1, hc1⟩ : ∃ c1, V.rwt x k = c1 := ⟨_, rfl⟩
     obtain ⟨c2, g5⟩ : ∃ c2, V.rwt y k = c2 := ⟨_, rfl⟩
     rw [hc1] at h4 g1
     rw [g5] at h6 g1
     have j5 := zwg hc1
     have j6 := zwg g5
     obtain ⟨r1, r1'⟩ := h4
     obtain ⟨r2, r2'⟩ := h6
     clear g4 hlt hc1 g5
     rcases j4 with h1 | ⟨h1, h2⟩
     all_goals
      go_wp2_with fail
      refine (zhp ⟨x.toArray⟩ k _ (by show x.length ≤ _; unfold maxLen; omega) (by unfold maxLen; omega)).mono ?_
      rintro e w' ⟨rfl, rfl⟩
      simp only [j5.out]
      go_wp2_with fail
      refine (zhp ⟨y.toArray⟩ k _ (by show y.length ≤ _; unfold maxLen; omega) (by unfold maxLen; omega)).mono ?_
      rintro e w' ⟨rfl, rfl⟩
      simp only [j6.out]
      by_cases h0 : c1 = c2
      ·have HR : Hid (∀ j, j < k + 1 -> Lib.compareInt (V.wt x j) (V.wt y j) = 0) := zwg (fun j hj => by
         by_cases e : j = k
         · subst e; rw [← g1.out, h0, Int.sub_self]; rfl
         · exact HZ.out j (by omega))
       have j8 := HLT.out
       have hb : (c1 - c2 != 0) = false := by rw [h0, Int.sub_self]; rfl
       exact zym
      ·have HR : Hid (V.qk s.data.toList t.data.toList = V.sgn (c1 - c2)) := zwg (by
         have h5 : Lib.compareInt (V.wt x k) (V.wt y k) ≠ 0 := by rw [← g1.out, Ne, V.sgn_zero]; omega
         rw [HSTEP.out, h8.out h5, V.ke h5, g1.out])
       have hb : (c1 - c2 != 0) = true := by rw [bne_iff_ne]; omega
       clear h0
       go_wp2_with fail
       refine (zhh _ _).mono ?_
       rintro e w' ⟨rfl, rfl⟩
       go_wp2
       go_ret
       exact ⟨zv HR.out.symm, HB2.out⟩
    ·have HZ0 : Hid (V.wcmp x y = 0) := zwg (zlo x y (fun j hj => HZ.out j (by omega)))
     have h1 : ¬ k < x.length := by omega
     have h2 : ¬ k < y.length := by omega
     clear hlt
     go_wp2_with fail
     refine (zcz ⟨a1.toArray⟩ true _ (by show a1.length ≤ _; unfold maxLen; omega)).mono ?_
     rintro e w3 ⟨rfl, hb3⟩
     simp only [j2.out]
     go_wp2_with fail
     refine (zcz ⟨b1.toArray⟩ true _ (by show b1.length ≤ _; unfold maxLen; omega)).mono ?_
     rintro e w4 ⟨rfl, h7⟩
     simp only [j3.out]
     go_wp2_with fail
     refine (zfk ⟨p.toArray⟩ ⟨q.toArray⟩ _ (by show p.length ≤ _; unfold maxLen; omega) (by show q.length ≤ _; unfold maxLen; omega)).mono ?_
     rintro e w5 ⟨rfl, rfl⟩
     simp only
     have HB5 := zwg (HB2.out.trans ((hb3.trans (h7.mono hb3.size)).mono HB2.out.size))
     clear hb3 h7
     by_cases h0 : V.numbers p q = 0
     ·have HR : Hid (V.qk a2 b2 = V.qk s.data.toList t.data.toList) := zwg (by
        rw [HSTEP.out, HZ0.out, h0]; rfl)
      rw [h0]
      clear h0
      go_wp2
      go_roundw
      case rel => exact ⟨⟨a2.toArray⟩, ⟨b2.toArray⟩, rfl, rfl, m5, m6, by simp only ; exact AA2.out, by simp only ; exact AB2.out, by simp only ; exact HR.out, HB5.out⟩
      case measure => exact L5.out
     ·exact zx2
theorem zqt (x y : V.Bs) (w : World) (hx : x.length ≤ 1000) (hy : y.length ≤ 1000) (ax : V.Ascii x) (ay : V.Ascii y) :
  Calls Tryz.prog 90 #[.string ⟨x.toArray⟩, .string ⟨y.toArray⟩] w fun e w' => e = .returned (.int .i64 (V.qk x y)) /\ Below w.heap.size w w' := by
 have h := zvg ⟨x.toArray⟩ ⟨y.toArray⟩ w (by show x.length ≤ _; unfold maxLen; omega) (by show y.length ≤ _; unfold maxLen; omega)
 simp only  at h
 exact h ax ay
theorem zx0 {P : Prop} (h : P := by
 rw [h1] at HN
 go_enter Tryz.func121, Tryz.ntmps121
 go_wp2_with fail
 refine (qm s _ hs').mono ?_
 rintro e w' ⟨rfl, rfl⟩
 simp only [HD.out]
 go_wp2
 all_goals
  go_ret
  exact ⟨zg (by rw [HN.out]; simp_all), rfl⟩) : P := h
theorem yc (s : ByteArray) (w : World) (hs : s.size ≤ maxLen) :
  Calls Tryz.prog 121 #[.string s] w fun e w' => e = .returned (.bool (V.numb s.data.toList true)) /\ w = w' := by
 have hs' := hs
 unfold maxLen at hs
 rcases hd : V.digits s.data.toList with _ | _
 ·have HD := zwg hd
  have HN : Hid (V.numb s.data.toList true = false) := zwg (by unfold V.numb; rw [hd]; rfl)
  clear hd
  go_enter Tryz.func121, Tryz.ntmps121
  go_wp2_with fail
  refine (qm s _ hs').mono ?_
  rintro e w' ⟨rfl, rfl⟩
  simp only [HD.out]
  go_wp2
  go_ret
  exact ⟨zg HN.out.symm, rfl⟩
 ·have HD := zwg hd
  have hp := zfp hd
  rw [zi] at hp
  have h0 := zwg (at0 hp)
  have HN : Hid (V.numb s.data.toList true = (((s[0].toNat : Int) != 48) || ((s.size : Int) == 1))) := by
   refine zwg ?_
   unfold V.numb
   have : (s[0] == (48 : UInt8)) = ((s[0].toNat : Int) == 48) := by
    rw [Bool.eq_iff_iff]; simp [← UInt8.toNat_inj]; omega
   rw [HD.out, h0.out, zi, this]
   unfold bne
   rcases (s[0].toNat : Int) == 48 with _ | _
   ·simp
   ·rw [Bool.eq_iff_iff]; simp; omega
  clear hd
  rcases h1 : ((s[0].toNat : Int) != 48) with _ | _
  ·exact zx0
  ·exact zx0
open Go.RowKit
def RSem (r : Option (List V.Bs × List V.Bs)) (w : World) (e : Ending) (w' : World) : Prop :=
 Below w.heap.size w w' /\ match r with
 | none => e = .returned (.tuple #[.slice none 0 0, .slice none 0 0, .bool false])
 | some (l, ids) => ∃ v u, e = .returned (.tuple #[v, u, .bool true]) /\ Strs w' v l /\ Strs w' u ids
theorem zfc (x : V.Bs) : V.kh false x = V.only (V.kind [45]) x := by
 unfold V.kh V.numb
 rcases V.digits x with _ | _ <;> simp
theorem uj {w w4 : World} {l : List V.Bs} {t : Nat} (h : w4 = w.alloc (.cells (xq l) t)) (j : Nat) (hj : j < l.length) : w4.cell? ⟨w.heap.size, j, none⟩ = some (.string ⟨l[j].toArray⟩) := by
 rw [h, World.cell?_alloc_new, wv l j hj]
theorem zok {α : Type} {l : List α} {p : α -> Bool} {k : Nat} (h : k < l.length) (hp : p l[k] = false) : l.all p = false := by
 rw [List.all_eq_false]
 exact ⟨l[k], List.getElem_mem h, by simp [hp]⟩
theorem zef {α : Type} {l : List α} {p : α -> Bool} {k : Nat} (h : k < l.length) : (l.take (k + 1)).all p = ((l.take k).all p && p l[k]) := by
 rw [List.take_succ_eq_append_getElem h, List.all_append]; simp
theorem zy5 {P : Prop} (h : P := by
 go_ret3
 have HN : Hid (V.zo s.data.toList = none) := zwg (by
   rw [HP.out, HI.out, zok (k := k) hlt (by rw [HK.out]; rfl)]; simp)
 rw [HN.out]
 exact ⟨HB4.out, rfl⟩) : P := h
theorem zz1 {P : Prop} (h : P := by
 go_round
 case rel => exact ⟨k + 1, by omega, by go_num, by rw [HT.out, HQ.out, HK.out]; rfl⟩
 case measure => simp [intOf]; omega) : P := h
theorem zd0 (s : ByteArray) (w : World) (hm : zj w) (hs : s.size ≤ 1000) :
  Calls Tryz.prog 85 #[.string s] w (RSem (V.zo s.data.toList) w) := by
 obtain ⟨v1, bu, B, g6⟩ : ∃ a b c, V.cut1 43 s.data.toList = (a, b, c) := ⟨_, _, _, rfl⟩
 obtain ⟨v2, pr, E, g7⟩ : ∃ a b c, V.cut1 45 v1 = (a, b, c) := ⟨_, _, _, rfl⟩
 obtain ⟨L, hL⟩ : ∃ L, V.zm 46 v2 = L := ⟨_, rfl⟩
 have HP : Hid (V.zo s.data.toList = if (B && !V.identifiers bu false) || (E && !V.identifiers pr true) || L.length != 3 then none else if L.all (fun x => V.numb x true) then some (L, if E then V.zm 46 pr else []) else none) := zwg (by
   unfold V.zo
   rw [g6]
   simp only
   rw [g7]
   simp only
   rw [hL])
 have hl1 : v1.length ≤ s.size /\ bu.length ≤ s.size := by
  have := yr 43 s.data.toList
  rw [g6, zi] at this
  exact this
 have h3 : v2.length ≤ v1.length /\ pr.length ≤ v1.length := by
  have := yr 45 v1
  rw [g7] at this
  exact this
 have j6 : L.length ≤ v2.length + 1 := by rw [← hL]; exact jm 46 v2
 have g9 : Hid (∀ x ∈ L, x.length ≤ v2.length) := zwg (fun x hx => ki 46 v2 x (by rw [hL]; exact hx))
 obtain ⟨hl1, j4⟩ := hl1
 obtain ⟨h3, j5⟩ := h3
 have HX1 := zwg g6
 have HX2 := zwg g7
 have HL := zwg hL
 have HM := zwg hm
 clear g6 g7 hL hm
 go_enter Tryz.func85, Tryz.ntmps85
 go_wp2_with fail
 refine (zdd s 43 _ HM.out (by omega)).mono ?_
 rintro e w1 ⟨rfl, hb1⟩
 simp only [HX1.out]
 have HB1 := zwg hb1
 clear hb1
 go_upto_if 22 with (fail)
 go_cut [8] (fun _ wx => Below w.heap.size w wx /\ (B = true -> V.identifiers bu false = true))
 case first =>
  cases B with
  | false =>
   go_wp2
   go_meet
   exact ⟨HB1.out, fun e => by cases e⟩
  | true =>
   go_wp2_with fail
   refine (ku ⟨bu.toArray⟩ 46 _ (HM.out.below HB1.out) (by show bu.length < _; omega)).mono ?_
   rintro e w4 ⟨rfl, g0⟩
   simp only  at g0 ⊢
   have hi : V.identifiers bu false = (V.zm 46 bu).all (V.kh false) := rfl
   have g8 := jm 46 bu
   have g2 := zwg (ki 46 bu)
   obtain ⟨L0, g4⟩ : ∃ L0, V.zm 46 bu = L0 := ⟨_, rfl⟩
   rw [g4] at g0 hi g8 g2 ⊢
   have hcs := zwg (uj g0)
   have HB4 : Hid (Below w.heap.size w w4) := zwg (by rw [g0]; exact HB1.out.alloc HB1.out.size _)
   have HI := zwg hi
   clear g0 hi g4
   go_wp2
   go_loop [9] (fun i => ∃ k : Nat, k ≤ L0.length /\ i = .int .i64 k /\ (L0.take k).all (V.kh false) = true) (fun i => L0.length - (intOf i).toNat)
   case atStart => exact ⟨0, Nat.zero_le _, rfl, rfl⟩
   case round =>
    obtain ⟨k, hk, rfl, hp⟩ := hrel
    have HQ := zwg hp
    clear hp
    by_cases hlt : k < L0.length
    ·have hc := hcs.out k hlt
     have h9 : L0[k].length ≤ bu.length := g2.out _ (List.getElem_mem hlt)
     have HT := zwg (zef (p := V.kh false) hlt)
     rcases g1 : V.only (V.kind [45]) L0[k] with _ | _
     all_goals
      have HPK := zwg g1
      clear g1
      go_wp2_with fail
      refine (vv ⟨L0[k].toArray⟩ ⟨#[45]⟩ _ (by show L0[k].length ≤ _; unfold maxLen; omega)).mono ?_
      rintro e w' ⟨rfl, rfl⟩
      simp only [HPK.out]
      go_wp2
     ·go_ret3
      have HN : Hid (V.zo s.data.toList = none) := zwg (by
        rw [HP.out, HI.out, zok (k := k) hlt (by rw [zfc]; exact HPK.out)]; rfl)
      rw [HN.out]
      exact ⟨HB4.out, rfl⟩
     ·go_round
      case rel => exact ⟨k + 1, by omega, by go_num, by rw [HT.out, HQ.out, zfc]; exact HPK.out⟩
      case measure => simp [intOf]; omega
    ·have ht : L0.take k = L0 := List.take_of_length_le (by omega)
     rw [ht] at HQ
     clear ht
     go_wp2
     go_meet
     exact ⟨HB4.out, fun _ => by rw [HI.out]; exact HQ.out⟩
 case rest =>
  obtain ⟨hb2, g3⟩ := hcut
  have HB2 := zwg hb2
  have h6 := zwg g3
  clear hb2 g3 HB1
  obtain ⟨wo, rfl⟩ : ∃ wo : World, wo = wc := ⟨_, rfl⟩
  go_wp2_with fail
  refine (zdd ⟨v1.toArray⟩ 45 _ (HM.out.below HB2.out) (by show v1.length < _; omega)).mono ?_
  rintro e w3 ⟨rfl, hb3⟩
  simp only [HX2.out]
  have HB3 := zwh HB2 hb3
  clear hb3
  go_upto_if 43 with (fail)
  go_cut [13] (fun v wx => ∃ ids : List V.Bs, Strs wx v ids /\ Below w.heap.size w wx /\ ids = (if E then V.zm 46 pr else []) /\ (E = true -> V.identifiers pr true = true))
  case first =>
   cases E with
   | false =>
    go_wp2
    go_meet
    exact ⟨[], Strs.nil _, HB3.out, rfl, fun e => by cases e⟩
   | true =>
    go_wp2_with fail
    refine (ku ⟨pr.toArray⟩ 46 _ (HM.out.below HB3.out) (by show pr.length < _; omega)).mono ?_
    rintro e w4 ⟨rfl, g0⟩
    simp only  at g0 ⊢
    have hi : V.identifiers pr true = (V.zm 46 pr).all (V.kh true) := rfl
    have g8 := jm 46 pr
    have g2 := zwg (ki 46 pr)
    obtain ⟨L0, g4⟩ : ∃ L0, V.zm 46 pr = L0 := ⟨_, rfl⟩
    rw [g4] at g0 hi g8 g2 ⊢
    have hcs := zwg (uj g0)
    have HB4 : Hid (Below w.heap.size w w4) := zwg (by rw [g0]; exact HB3.out.alloc HB3.out.size _)
    have j0 : Hid (Strs w4 (.slice (some ⟨w3.heap.size, 0, none⟩) L0.length L0.length) L0) := zwg (by rw [g0]; exact Strs.split w3 L0 _)
    have HI := zwg hi
    have j1 := zwg g4
    clear g0 hi g4
    go_wp2
    go_loop [14] (fun i => ∃ k : Nat, k ≤ L0.length /\ i = .int .i64 k /\ (L0.take k).all (V.kh true) = true) (fun i => L0.length - (intOf i).toNat)
    case atStart => exact ⟨0, Nat.zero_le _, rfl, rfl⟩
    case round =>
     obtain ⟨k, hk, rfl, hp⟩ := hrel
     have HQ := zwg hp
     clear hp
     by_cases hlt : k < L0.length
     ·have hc := hcs.out k hlt
      have h9 : L0[k].length ≤ pr.length := g2.out _ (List.getElem_mem hlt)
      have HT := zwg (zef (p := V.kh true) hlt)
      have HK : Hid (V.kh true L0[k] = (V.only (V.kind [45]) L0[k] && !(V.digits L0[k] && !V.numb L0[k] true))) := rfl
      rcases g1 : V.only (V.kind [45]) L0[k] with _ | _
      ·have HPK := zwg g1
       rw [g1] at HK
       clear g1
       go_wp2_with fail
       refine (vv ⟨L0[k].toArray⟩ ⟨#[45]⟩ _ (by show L0[k].length ≤ _; unfold maxLen; omega)).mono ?_
       rintro e w' ⟨rfl, rfl⟩
       simp only [HPK.out]
       go_wp2
       exact zy5
      ·have HPK := zwg g1
       rcases g5 : V.digits L0[k] with _ | _
       ·have h0 := zwg g5
        rw [g1, g5] at HK
        clear g1 g5
        go_wp2_with fail
        refine (vv ⟨L0[k].toArray⟩ ⟨#[45]⟩ _ (by show L0[k].length ≤ _; unfold maxLen; omega)).mono ?_
        rintro e w' ⟨rfl, rfl⟩
        simp only [HPK.out]
        go_wp2_with fail
        refine (qm ⟨L0[k].toArray⟩ _ (by show L0[k].length ≤ _; unfold maxLen; omega)).mono ?_
        rintro e w' ⟨rfl, rfl⟩
        simp only [h0.out]
        go_wp2
        exact zz1
       ·have h0 := zwg g5
        rcases h1 : V.numb L0[k] true with _ | _
        all_goals
         have j2 := zwg h1
         rw [g1, g5, h1] at HK
         clear g1 g5 h1
         go_wp2_with fail
         refine (vv ⟨L0[k].toArray⟩ ⟨#[45]⟩ _ (by show L0[k].length ≤ _; unfold maxLen; omega)).mono ?_
         rintro e w' ⟨rfl, rfl⟩
         simp only [HPK.out]
         go_wp2_with fail
         refine (qm ⟨L0[k].toArray⟩ _ (by show L0[k].length ≤ _; unfold maxLen; omega)).mono ?_
         rintro e w' ⟨rfl, rfl⟩
         simp only [h0.out]
         go_wp2_with fail
         refine (yc ⟨L0[k].toArray⟩ _ (by show L0[k].length ≤ _; unfold maxLen; omega)).mono ?_
         rintro e w' ⟨rfl, rfl⟩
         simp only [j2.out]
         go_wp2
        ·exact zy5
        ·exact zz1
     ·have ht : L0.take k = L0 := List.take_of_length_le (by omega)
      rw [ht] at HQ
      clear ht
      go_wp2
      go_meet
      exact ⟨L0, j0.out, HB4.out, by rw [j1.out]; simp, fun _ => by rw [HI.out]; exact HQ.out⟩
  case rest =>
   obtain ⟨ids, h4, hb5, g3, h2⟩ := hcut
   have HST := zwg h4
   have HB5 := zwg hb5
   have h7 := zwg g3
   have h8 := zwg h2
   clear h4 hb5 g3 h2 HB3
   go_wp2_with fail
   refine (ku ⟨v2.toArray⟩ 46 _ (HM.out.below HB5.out) (by show v2.length < _; omega)).mono ?_
   rintro e w6 ⟨rfl, hw6⟩
   simp only [HL.out] at hw6 ⊢
   have hcs := zwg (uj hw6)
   have HB6 : Hid (Below w.heap.size w w6) := zwg (by rw [hw6]; exact HB5.out.alloc HB5.out.size _)
   have j3 : Hid (Strs w6 u13 ids) := zwg (HST.out.below (by rw [hw6]; exact (zwj _ _).alloc (zwi _) _))
   have h5 : Hid (Strs w6 (.slice (some ⟨wc.heap.size, 0, none⟩) L.length L.length) L) := zwg (by rw [hw6]; exact Strs.split wc L _)
   have HQ : Hid (V.zo s.data.toList = if L.length != 3 then none else if L.all (fun x => V.numb x true) then some (L, ids) else none) := zwg (by
     rw [HP.out, h7.out]
     have e1 : (B && !V.identifiers bu false) = false := by
       cases B with
       | false => rfl
       | true => rw [h6.out rfl]; rfl
     have e2 : (E && !V.identifiers pr true) = false := by
       cases E with
       | false => rfl
       | true => rw [h8.out rfl]; rfl
     rw [e1, e2]; rfl)
   clear hw6
   by_cases hlen : L.length = 3
   ·obtain ⟨x, y, z, rfl⟩ : ∃ x y z, L = [x, y, z] := by
     match L, hlen with
     | [x, y, z], _ => exact ⟨x, y, z, rfl⟩
    have cx : w6.cell? ⟨wc.heap.size, 0, none⟩ = some (.string ⟨x.toArray⟩) := hcs.out 0 (by simp)
    have cy : w6.cell? ⟨wc.heap.size, 1, none⟩ = some (.string ⟨y.toArray⟩) := hcs.out 1 (by simp)
    have cz : w6.cell? ⟨wc.heap.size, 2, none⟩ = some (.string ⟨z.toArray⟩) := hcs.out 2 (by simp)
    have lx := g9.out x (by simp)
    have ly := g9.out y (by simp)
    have lz := g9.out z (by simp)
    simp only [List.length_cons, List.length_nil, Nat.reduceAdd] at h5 ⊢
    rcases hx : V.numb x true with _ | _
    ·have HX := zwg hx
     clear hx
     go_wp2_with fail
     refine (yc ⟨x.toArray⟩ _ (by show x.length ≤ _; unfold maxLen; omega)).mono ?_
     rintro e w' ⟨rfl, rfl⟩
     simp only [HX.out]
     go_wp2
     go_ret3
     have HN : Hid (V.zo s.data.toList = none) := zwg (by rw [HQ.out]; simp [HX.out])
     rw [HN.out]
     exact ⟨HB6.out, rfl⟩
    ·have HX := zwg hx
     rcases hy : V.numb y true with _ | _
     ·have HY := zwg hy
      clear hx hy
      go_wp2_with fail
      refine (yc ⟨x.toArray⟩ _ (by show x.length ≤ _; unfold maxLen; omega)).mono ?_
      rintro e w' ⟨rfl, rfl⟩
      simp only [HX.out]
      go_wp2_with fail
      refine (yc ⟨y.toArray⟩ _ (by show y.length ≤ _; unfold maxLen; omega)).mono ?_
      rintro e w' ⟨rfl, rfl⟩
      simp only [HY.out]
      go_wp2
      go_ret3
      have HN : Hid (V.zo s.data.toList = none) := zwg (by rw [HQ.out]; simp [HX.out, HY.out])
      rw [HN.out]
      exact ⟨HB6.out, rfl⟩
     ·have HY := zwg hy
      rcases hz : V.numb z true with _ | _
      all_goals
       have HZ := zwg hz
       clear hx hy hz
       go_wp2_with fail
       refine (yc ⟨x.toArray⟩ _ (by show x.length ≤ _; unfold maxLen; omega)).mono ?_
       rintro e w' ⟨rfl, rfl⟩
       simp only [HX.out]
       go_wp2_with fail
       refine (yc ⟨y.toArray⟩ _ (by show y.length ≤ _; unfold maxLen; omega)).mono ?_
       rintro e w' ⟨rfl, rfl⟩
       simp only [HY.out]
       go_wp2_with fail
       refine (yc ⟨z.toArray⟩ _ (by show z.length ≤ _; unfold maxLen; omega)).mono ?_
       rintro e w' ⟨rfl, rfl⟩
       simp only [HZ.out]
       go_wp2
       go_ret3
      ·have HN : Hid (V.zo s.data.toList = none) := zwg (by rw [HQ.out]; simp [HX.out, HY.out, HZ.out])
       rw [HN.out]
       exact ⟨HB6.out, rfl⟩
      ·have HN : Hid (V.zo s.data.toList = some ([x, y, z], ids)) := zwg (by rw [HQ.out]; simp [HX.out, HY.out, HZ.out])
       rw [HN.out]
       exact ⟨HB6.out, _, _, rfl, h5.out, j3.out⟩
   ·have g8 : ((L.length : Int) != 3) = true := by simp; omega
    have HN : Hid (V.zo s.data.toList = none) := zwg (by rw [HQ.out]; simp [hlen])
    go_wp2
    go_ret3
    rw [HN.out]
    exact ⟨HB6.out, rfl⟩
def ya (e : V.Bs) : V.Bs := if e = [] then [48] else e
def RDeb (r : Option (V.Bs × V.Bs × V.Bs)) (w : World) (e : Ending) (w' : World) : Prop :=
 Below w.heap.size w w' /\ match r with
 | none => e = .returned (.tuple #[.slice none 0 0, .bool false])
 | some (E, U, R) => ∃ v, e = .returned (.tuple #[v, .bool true]) /\ Strs w' v [ya E, U, R]
theorem Strs.three (w : World) (x y z : V.Bs) (t : Nat) : Strs (w.alloc (.cells #[.string ⟨x.toArray⟩, .string ⟨y.toArray⟩, .string ⟨z.toArray⟩] t)) (.slice (some ⟨w.heap.size, 0, none⟩) 3 3) [x, y, z] :=
 Strs.split w [x, y, z] t
theorem zec (s : ByteArray) (w : World) (hm : zj w) (hs : s.size ≤ 1000) :
  Calls Tryz.prog 89 #[.string s] w (RDeb (V.zz s.data.toList) w) := by
 obtain ⟨ep, re, H, g2⟩ : ∃ a b c, V.cut1 58 s.data.toList = (a, b, c) := ⟨_, _, _, rfl⟩
 have HP : Hid (V.zz s.data.toList = if H then if V.numb ep false then V.jg ep re else none else V.jg [] s.data.toList) := zwg (by
   unfold V.zz; rw [g2])
 have hl1 : ep.length ≤ s.size /\ re.length ≤ s.size := by
  have := yr 58 s.data.toList
  rw [g2, zi] at this
  exact this
 obtain ⟨hl1, h3⟩ := hl1
 have HX1 := zwg g2
 have HM := zwg hm
 clear g2 hm
 go_enter Tryz.func89, Tryz.ntmps89
 go_wp2_with fail
 refine (zdd s 58 _ HM.out (by omega)).mono ?_
 rintro e w1 ⟨rfl, hb1⟩
 simp only [HX1.out]
 have HB1 := zwg hb1
 clear hb1
 go_upto_if 17 with (fail)
 go_cut [4, 5] (fun v4 v5 wx => ∃ (E E0 : V.Bs) (V1 : ByteArray), v4 = .string ⟨E.toArray⟩ /\ v5 = .string V1 /\ E.length ≤ 1000 /\ V1.size ≤ s.size /\ Below w.heap.size w wx /\
   V.zz s.data.toList = (if V.digits E then V.jg E0 V1.data.toList else none) /\ (V.digits E = true -> ya E0 = E))
 case first =>
  cases H with
  | false =>
   go_wp2
   go_meet
   exact ⟨[48], [], s, rfl, rfl, by simp, zwi _, HB1.out, by rw [HP.out]; rfl, fun _ => rfl⟩
  | true =>
   go_wp2
   go_meet
   exact ⟨ep, ep, ⟨re.toArray⟩, rfl, rfl, by omega, h3, HB1.out, by
     rw [HP.out]
     have : V.numb ep false = V.digits ep := by unfold V.numb; simp
     rw [this]; rfl, fun hd => by
     unfold ya
     rw [if_neg]
     intro e0
     have := zfp hd
     rw [e0] at this
     simp at this⟩
 case rest =>
  obtain ⟨E, E0, V1, rfl, rfl, hel, h4, hb2, g4, g8⟩ := hcut
  have HB2 := zwg hb2
  have g0 := zwg g4
  have h5 := zwg g8
  clear hb2 g4 g8 HP HX1 HB1
  obtain ⟨wo, rfl⟩ : ∃ wo : World, wo = wc := ⟨_, rfl⟩
  go_wp2_with fail
  refine (Tryz.strings_LastIndex_one V1 ⟨#[45]⟩ rfl (by omega) _).mono ?_
  rintro e w3 ⟨rfl, rfl⟩
  have g1 : Lib.lastIndexByte V1 (((ByteArray.mk #[45])[0]'(by decide)).toNat : Int) = V.jd V1.data.toList := by unfold V.jd; rw [zi8]; rfl
  rw [g1]
  clear g1
  obtain ⟨ld, g1⟩ : ∃ ld, V.jd V1.data.toList = ld := ⟨_, rfl⟩
  have HLD := zwg g1
  rw [g1]
  clear g1
  have g5 : (ld < 0) ∨ ∃ i : Nat, ld = i /\ i < V1.size := by
   exact zzd
  go_upto_if 23 with (fail)
  go_cut [7, 8] (fun v7 v8 wx => ∃ (U R : V.Bs), v7 = .string ⟨U.toArray⟩ /\ v8 = .string ⟨R.toArray⟩ /\ U.length ≤ s.size /\ Below w.heap.size w wx /\
    V.jg E0 V1.data.toList = if V.only (V.kind [46, 43, 126, 45]) U && V.dig (U.getD 0 0) then some (E0, U, R) else none)
  case first =>
   rcases g5 with h2 | ⟨i, rfl, hlt⟩
   ·have HN : Hid (V.jd V1.data.toList < 0) := zwg (by rw [HLD.out]; exact h2)
    go_wp2
    go_meet
    exact ⟨V1.data.toList, [], by rw [zi8], rfl, by rw [zi]; exact h4, HB2.out, zkh HN.out⟩
   ·have hge : (0 : Int) ≤ (i : Int) := by omega
    have g6 : V1.extract 0 i = ⟨(V1.data.toList.take i).toArray⟩ := ye (by rw [Lib.extract_data]; simp)
    have g7 : V1.extract (i + 1) V1.size = ⟨(V1.data.toList.drop (i + 1)).toArray⟩ := ye (by rw [Lib.extract_to_end])
    have h6 := zwg g6
    have h7 := zwg g7
    have g9 : (V1.data.toList.drop (i + 1)).length ≤ maxLen := by rw [List.length_drop, zi]; unfold maxLen; omega
    have h0 : (V1.data.toList.take i).length ≤ s.size := by rw [List.length_take, zi]; omega
    have h8 := zwg g9
    have h9 := zwg h0
    clear g6 g7 g9 h0
    rcases hk : V.only (V.kind V.allow) (V1.data.toList.drop (i + 1)) with _ | _
    all_goals
     have HK := zwg hk
     clear hk
     go_wp2
     go_region
     go_wp2_with fail
     rw [h7.out]
     refine (vv ⟨(V1.data.toList.drop (i + 1)).toArray⟩ ⟨#[46, 43, 126]⟩ _ h8.out).mono ?_
     rintro e w' ⟨rfl, rfl⟩
     have j0 : V.only (V.kind (ByteArray.mk #[46, 43, 126]).data.toList) (ByteArray.mk (V1.data.toList.drop (i + 1)).toArray).data.toList = V.only (V.kind V.allow) (V1.data.toList.drop (i + 1)) := rfl
     rw [j0, HK.out]
     go_wp2
    ·go_ret2
     have HN : Hid (V.zz s.data.toList = none) := zwg (by rw [g0.out, zib HLD.out HK.out]; simp)
     rw [HN.out]
     exact ⟨HB2.out.drew, rfl⟩
    ·go_meet
     exact ⟨V1.data.toList.take i, V1.data.toList.drop (i + 1), by rw [h6.out], rfl, h9.out, HB2.out.drew, zh9 HLD.out HK.out⟩
  case rest =>
   obtain ⟨U, R, rfl, rfl, hul, hb5, g3⟩ := hcut
   have HB5 := zwg hb5
   have HT := zwg g3
   clear hb5 g3 HLD HB2
   rcases hd : V.digits E with _ | _
   ·have HD := zwg hd
    have HN : Hid (V.zz s.data.toList = none) := zwg (by rw [g0.out, hd]; rfl)
    clear hd
    go_wp2_with fail
    refine (qm ⟨E.toArray⟩ _ (by show E.length ≤ _; unfold maxLen; omega)).mono ?_
    rintro e w' ⟨rfl, rfl⟩
    simp only [HD.out]
    go_wp2
    go_ret2
    rw [HN.out]
    exact ⟨HB5.out, rfl⟩
   ·have HD := zwg hd
    have HE := zwg (h5.out hd)
    rcases hk : V.only (V.kind [46, 43, 126, 45]) U with _ | _
    ·have HK := zwg hk
     have HN : Hid (V.zz s.data.toList = none) := zwg (by rw [g0.out, hd, if_pos rfl, HT.out, hk]; rfl)
     clear hd hk
     go_wp2_with fail
     refine (qm ⟨E.toArray⟩ _ (by show E.length ≤ _; unfold maxLen; omega)).mono ?_
     rintro e w' ⟨rfl, rfl⟩
     simp only [HD.out]
     go_wp2_with fail
     refine (vv ⟨U.toArray⟩ ⟨#[46, 43, 126, 45]⟩ _ (by show U.length ≤ _; unfold maxLen; omega)).mono ?_
     rintro e w' ⟨rfl, rfl⟩
     simp only [HK.out]
     go_wp2
     go_ret2
     rw [HN.out]
     exact ⟨HB5.out, rfl⟩
    ·have HK := zwg hk
     obtain ⟨u0, ur, rfl⟩ : ∃ u0 ur, U = u0 :: ur := by
      cases U with
      | nil => simp [V.only] at hk
      | cons u0 ur => exact ⟨u0, ur, rfl⟩
     have h1 : (ByteArray.mk (u0 :: ur).toArray).size = ur.length + 1 := by simp [ByteArray.size]
     rcases hg : V.digB u0.toNat with _ | _
     all_goals
      have HG := zwg hg
      go_wp2_with fail
      refine (qm ⟨E.toArray⟩ _ (by show E.length ≤ _; unfold maxLen; omega)).mono ?_
      rintro e w' ⟨rfl, rfl⟩
      simp only [HD.out]
      go_wp2_with fail
      refine (vv ⟨(u0 :: ur).toArray⟩ ⟨#[46, 43, 126, 45]⟩ _ (by rw [h1]; unfold maxLen; simp at hul; omega)).mono ?_
      rintro e w' ⟨rfl, rfl⟩
      simp only [HK.out]
      go_wp2_with fail
      refine (zbr _ _).mono ?_
      rintro e w' ⟨rfl, rfl⟩
      rw [show V.digB (((ByteArray.mk (u0 :: ur).toArray)[0]'(by rw [h1]; omega)).toNat : Int) = V.digB u0.toNat from rfl, HG.out]
      go_wp2
      go_ret2
     ·have HN : Hid (V.zz s.data.toList = none) := zwg (by
        rw [g0.out, hd, if_pos rfl, HT.out, hk, show V.dig ((u0 :: ur).getD 0 0) = V.digB u0.toNat from rfl, hg]; rfl)
      rw [HN.out]
      exact ⟨HB5.out, rfl⟩
     ·have HN : Hid (V.zz s.data.toList = some (E0, u0 :: ur, R)) := zwg (by
        rw [g0.out, hd, if_pos rfl, HT.out, hk, show V.dig ((u0 :: ur).getD 0 0) = V.digB u0.toNat from rfl, hg]; rfl)
      rw [HN.out]
      refine ⟨HB5.out.alloc HB5.out.size _, _, rfl, ?_⟩
      rw [HE.out]
      exact Strs.three _ _ _ _ _
end Go.Proofs.YtbikeahmldobkaaGreatDoor
