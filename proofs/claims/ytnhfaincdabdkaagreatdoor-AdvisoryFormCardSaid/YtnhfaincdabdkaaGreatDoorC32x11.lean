/-
  Lemmas for the law.
-/
import Derived.Test.YtnhfaincdabdkaaGreatDoorC32x09
import Derived.Test.YtnhfaincdabdkaaGreatDoorC32x01
import Derived.Test.YtnhfaincdabdkaaGreatDoorC32x07
import Derived.Test.YtnhfaincdabdkaaGreatDoorC32x06
import Derived.Test.YtnhfaincdabdkaaGreatDoorC32x10
import Derived.Deep.DeepCutAuto
import Derived.BigRegion
import Derived.OwnWalk
import Derived.StillTailTactics
set_option linter.all false
set_option maxRecDepth 100000
set_option maxHeartbeats 3200000
namespace Go.Proofs.YtnhfaincdabdkaaGreatDoor
open Go.RowKit
def RSem (r : Option (List V.Bs × List V.Bs)) (w : World) (e : Ending) (w' : World) : Prop :=
 Below w.heap.size w w' /\ match r with
 | none => e = .returned (.tuple #[.slice none 0 0, .slice none 0 0, .bool false])
 | some (l, ids) => ∃ v u, e = .returned (.tuple #[v, u, .bool true]) /\ Strs w' v l /\ Strs w' u ids
theorem ze2 (x : V.Bs) : V.jy false x = V.only (V.kind [45]) x := by
 unfold V.jy V.numb
 rcases V.digits x with _ | _ <;> simp
theorem ug {w w4 : World} {l : List V.Bs} {t : Nat} (h : w4 = w.alloc (.cells (strCells l) t)) (j : Nat) (hj : j < l.length) : w4.cell? ⟨w.heap.size, j, none⟩ = some (.string ⟨l[j].toArray⟩) := by
 rw [h, World.cell?_alloc_new, xu l j hj]
theorem zoi {α : Type} {l : List α} {p : α -> Bool} {k : Nat} (h : k < l.length) (hp : p l[k] = false) : l.all p = false := by
 rw [List.all_eq_false]
 exact ⟨l[k], List.getElem_mem h, by simp [hp]⟩
theorem zgd {α : Type} {l : List α} {p : α -> Bool} {k : Nat} (h : k < l.length) : (l.take (k + 1)).all p = ((l.take k).all p && p l[k]) := by
 rw [List.take_succ_eq_append_getElem h, List.all_append]; simp
theorem zxc {P : Prop} (h : P := by
 go_ret3
 have HN : Hid (V.zm s.data.toList = none) := zuq (by
   rw [HP.out, HI.out, zoi (k := k) hlt (by rw [HK.out]; rfl)]; simp)
 rw [HN.out]
 exact ⟨HB4.out, rfl⟩) : P := h
theorem zya {P : Prop} (h : P := by
 go_round
 case rel => exact ⟨k + 1, by omega, by go_num, by rw [HT.out, HQ.out, HK.out]; rfl⟩
 case measure => simp [intOf]; omega) : P := h
theorem zde (s : ByteArray) (w : World) (hm : zg w) (hs : s.size ≤ 1000) :
  Calls Tryz.prog 156 #[.string s] w (RSem (V.zm s.data.toList) w) := by
 obtain ⟨v1, bu, B, hx1⟩ : ∃ a b c, V.cut1 43 s.data.toList = (a, b, c) := ⟨_, _, _, rfl⟩
 obtain ⟨v2, pr, E, hx2⟩ : ∃ a b c, V.cut1 45 v1 = (a, b, c) := ⟨_, _, _, rfl⟩
 obtain ⟨L, hL⟩ : ∃ L, V.ze 46 v2 = L := ⟨_, rfl⟩
 have HP : Hid (V.zm s.data.toList = if (B && !V.identifiers bu false) || (E && !V.identifiers pr true) || L.length != 3 then none else if L.all (fun x => V.numb x true) then some (L, if E then V.ze 46 pr else []) else none) := zuq (by
   unfold V.zm
   rw [hx1]
   simp only
   rw [hx2]
   simp only
   rw [hL])
 have hl1 : v1.length ≤ s.size /\ bu.length ≤ s.size := by
  have := yp 43 s.data.toList
  rw [hx1, zf] at this
  exact this
 have hl2 : v2.length ≤ v1.length /\ pr.length ≤ v1.length := by
  have := yp 45 v1
  rw [hx2] at this
  exact this
 have hl3 : L.length ≤ v2.length + 1 := by rw [← hL]; exact jg 46 v2
 have hl4 : Hid (∀ x ∈ L, x.length ≤ v2.length) := zuq (fun x hx => jn 46 v2 x (by rw [hL]; exact hx))
 obtain ⟨hl1, hl1'⟩ := hl1
 obtain ⟨hl2, hl2'⟩ := hl2
 have HX1 := zuq hx1
 have HX2 := zuq hx2
 have HL := zuq hL
 have HM := zuq hm
 clear hx1 hx2 hL hm
 go_enter Tryz.func156, Tryz.ntmps156
 go_wp2_with fail
 refine (zcq s 43 _ HM.out (by omega)).mono ?_
 rintro e w1 ⟨rfl, hb1⟩
 simp only [HX1.out]
 have HB1 := zuq hb1
 clear hb1
 go_upto_if 22 with (fail)
 go_cut [8] (fun _ wx => Below w.heap.size w wx /\ (B = true -> V.identifiers bu false = true))
 case first =>
  cases B with
  | false =>
   go_wp2
   go_meet
   exact ⟨HB1.out, fun e => by cases e⟩
  | true =>
   go_wp2_with fail
   refine (kj ⟨bu.toArray⟩ 46 _ (HM.out.below HB1.out) (by show bu.length < _; omega)).mono ?_
   rintro e w4 ⟨rfl, hw4⟩
   simp only  at hw4 ⊢
   have hi : V.identifiers bu false = (V.ze 46 bu).all (V.jy false) := rfl
   have hle := jg 46 bu
   have hmem := zuq (jn 46 bu)
   obtain ⟨L0, hL0⟩ : ∃ L0, V.ze 46 bu = L0 := ⟨_, rfl⟩
   rw [hL0] at hw4 hi hle hmem ⊢
   have hcs := zuq (ug hw4)
   have HB4 : Hid (Below w.heap.size w w4) := zuq (by rw [hw4]; exact HB1.out.alloc HB1.out.size _)
   have HI := zuq hi
   clear hw4 hi hL0
   go_wp2
   go_loop [9] (fun i => ∃ k : Nat, k ≤ L0.length /\ i = .int .i64 k /\ (L0.take k).all (V.jy false) = true) (fun i => L0.length - (intOf i).toNat)
   case atStart => exact ⟨0, Nat.zero_le _, rfl, rfl⟩
   case round =>
    obtain ⟨k, hk, rfl, hp⟩ := hrel
    have HQ := zuq hp
    clear hp
    by_cases hlt : k < L0.length
    ·have hc := hcs.out k hlt
     have hsz : L0[k].length ≤ bu.length := hmem.out _ (List.getElem_mem hlt)
     have HT := zuq (zgd (p := V.jy false) hlt)
     rcases hpk : V.only (V.kind [45]) L0[k] with _ | _
     all_goals
      have HPK := zuq hpk
      clear hpk
      go_wp2_with fail
      refine (vs ⟨L0[k].toArray⟩ ⟨#[45]⟩ _ (by show L0[k].length ≤ _; unfold maxLen; omega)).mono ?_
      rintro e w' ⟨rfl, rfl⟩
      simp only [HPK.out]
      go_wp2
     ·go_ret3
      have HN : Hid (V.zm s.data.toList = none) := zuq (by
        rw [HP.out, HI.out, zoi (k := k) hlt (by rw [ze2]; exact HPK.out)]; rfl)
      rw [HN.out]
      exact ⟨HB4.out, rfl⟩
     ·go_round
      case rel => exact ⟨k + 1, by omega, by go_num, by rw [HT.out, HQ.out, ze2]; exact HPK.out⟩
      case measure => simp [intOf]; omega
    ·have ht : L0.take k = L0 := List.take_of_length_le (by omega)
     rw [ht] at HQ
     clear ht
     go_wp2
     go_meet
     exact ⟨HB4.out, fun _ => by rw [HI.out]; exact HQ.out⟩
 case rest =>
  obtain ⟨hb2, hids⟩ := hcut
  have HB2 := zuq hb2
  have HIDS := zuq hids
  clear hb2 hids HB1
  obtain ⟨wo, rfl⟩ : ∃ wo : World, wo = wc := ⟨_, rfl⟩
  go_wp2_with fail
  refine (zcq ⟨v1.toArray⟩ 45 _ (HM.out.below HB2.out) (by show v1.length < _; omega)).mono ?_
  rintro e w3 ⟨rfl, hb3⟩
  simp only [HX2.out]
  have HB3 := zur HB2 hb3
  clear hb3
  go_upto_if 43 with (fail)
  go_cut [13] (fun v wx => ∃ ids : List V.Bs, Strs wx v ids /\ Below w.heap.size w wx /\ ids = (if E then V.ze 46 pr else []) /\ (E = true -> V.identifiers pr true = true))
  case first =>
   cases E with
   | false =>
    go_wp2
    go_meet
    exact ⟨[], Strs.nil _, HB3.out, rfl, fun e => by cases e⟩
   | true =>
    go_wp2_with fail
    refine (kj ⟨pr.toArray⟩ 46 _ (HM.out.below HB3.out) (by show pr.length < _; omega)).mono ?_
    rintro e w4 ⟨rfl, hw4⟩
    simp only  at hw4 ⊢
    have hi : V.identifiers pr true = (V.ze 46 pr).all (V.jy true) := rfl
    have hle := jg 46 pr
    have hmem := zuq (jn 46 pr)
    obtain ⟨L0, hL0⟩ : ∃ L0, V.ze 46 pr = L0 := ⟨_, rfl⟩
    rw [hL0] at hw4 hi hle hmem ⊢
    have hcs := zuq (ug hw4)
    have HB4 : Hid (Below w.heap.size w w4) := zuq (by rw [hw4]; exact HB3.out.alloc HB3.out.size _)
    have HS4 : Hid (Strs w4 (.slice (some ⟨w3.heap.size, 0, none⟩) L0.length L0.length) L0) := zuq (by rw [hw4]; exact Strs.split w3 L0 _)
    have HI := zuq hi
    have HL0 := zuq hL0
    clear hw4 hi hL0
    go_wp2
    go_loop [14] (fun i => ∃ k : Nat, k ≤ L0.length /\ i = .int .i64 k /\ (L0.take k).all (V.jy true) = true) (fun i => L0.length - (intOf i).toNat)
    case atStart => exact ⟨0, Nat.zero_le _, rfl, rfl⟩
    case round =>
     obtain ⟨k, hk, rfl, hp⟩ := hrel
     have HQ := zuq hp
     clear hp
     by_cases hlt : k < L0.length
     ·have hc := hcs.out k hlt
      have hsz : L0[k].length ≤ pr.length := hmem.out _ (List.getElem_mem hlt)
      have HT := zuq (zgd (p := V.jy true) hlt)
      have HK : Hid (V.jy true L0[k] = (V.only (V.kind [45]) L0[k] && !(V.digits L0[k] && !V.numb L0[k] true))) := rfl
      rcases hpk : V.only (V.kind [45]) L0[k] with _ | _
      ·have HPK := zuq hpk
       rw [hpk] at HK
       clear hpk
       go_wp2_with fail
       refine (vs ⟨L0[k].toArray⟩ ⟨#[45]⟩ _ (by show L0[k].length ≤ _; unfold maxLen; omega)).mono ?_
       rintro e w' ⟨rfl, rfl⟩
       simp only [HPK.out]
       go_wp2
       exact zxc
      ·have HPK := zuq hpk
       rcases hdk : V.digits L0[k] with _ | _
       ·have HDK := zuq hdk
        rw [hpk, hdk] at HK
        clear hpk hdk
        go_wp2_with fail
        refine (vs ⟨L0[k].toArray⟩ ⟨#[45]⟩ _ (by show L0[k].length ≤ _; unfold maxLen; omega)).mono ?_
        rintro e w' ⟨rfl, rfl⟩
        simp only [HPK.out]
        go_wp2_with fail
        refine (qh ⟨L0[k].toArray⟩ _ (by show L0[k].length ≤ _; unfold maxLen; omega)).mono ?_
        rintro e w' ⟨rfl, rfl⟩
        simp only [HDK.out]
        go_wp2
        exact zya
       ·have HDK := zuq hdk
        rcases hnk : V.numb L0[k] true with _ | _
        all_goals
         have HNK := zuq hnk
         rw [hpk, hdk, hnk] at HK
         clear hpk hdk hnk
         go_wp2_with fail
         refine (vs ⟨L0[k].toArray⟩ ⟨#[45]⟩ _ (by show L0[k].length ≤ _; unfold maxLen; omega)).mono ?_
         rintro e w' ⟨rfl, rfl⟩
         simp only [HPK.out]
         go_wp2_with fail
         refine (qh ⟨L0[k].toArray⟩ _ (by show L0[k].length ≤ _; unfold maxLen; omega)).mono ?_
         rintro e w' ⟨rfl, rfl⟩
         simp only [HDK.out]
         go_wp2_with fail
         refine (xx ⟨L0[k].toArray⟩ _ (by show L0[k].length ≤ _; unfold maxLen; omega)).mono ?_
         rintro e w' ⟨rfl, rfl⟩
         simp only [HNK.out]
         go_wp2
        ·exact zxc
        ·exact zya
     ·have ht : L0.take k = L0 := List.take_of_length_le (by omega)
      rw [ht] at HQ
      clear ht
      go_wp2
      go_meet
      exact ⟨L0, HS4.out, HB4.out, by rw [HL0.out]; simp, fun _ => by rw [HI.out]; exact HQ.out⟩
  case rest =>
   obtain ⟨ids, hst, hb5, hids, hid2⟩ := hcut
   have HST := zuq hst
   have HB5 := zuq hb5
   have HIDL := zuq hids
   have HID2 := zuq hid2
   clear hst hb5 hids hid2 HB3
   go_wp2_with fail
   refine (kj ⟨v2.toArray⟩ 46 _ (HM.out.below HB5.out) (by show v2.length < _; omega)).mono ?_
   rintro e w6 ⟨rfl, hw6⟩
   simp only [HL.out] at hw6 ⊢
   have hcs := zuq (ug hw6)
   have HB6 : Hid (Below w.heap.size w w6) := zuq (by rw [hw6]; exact HB5.out.alloc HB5.out.size _)
   have HS6 : Hid (Strs w6 u13 ids) := zuq (HST.out.below (by rw [hw6]; exact (zut _ _).alloc (zus _) _))
   have HSL : Hid (Strs w6 (.slice (some ⟨wc.heap.size, 0, none⟩) L.length L.length) L) := zuq (by rw [hw6]; exact Strs.split wc L _)
   have HQ : Hid (V.zm s.data.toList = if L.length != 3 then none else if L.all (fun x => V.numb x true) then some (L, ids) else none) := zuq (by
     rw [HP.out, HIDL.out]
     have e1 : (B && !V.identifiers bu false) = false := by
       cases B with
       | false => rfl
       | true => rw [HIDS.out rfl]; rfl
     have e2 : (E && !V.identifiers pr true) = false := by
       cases E with
       | false => rfl
       | true => rw [HID2.out rfl]; rfl
     rw [e1, e2]; rfl)
   clear hw6
   by_cases hlen : L.length = 3
   ·obtain ⟨x, y, z, rfl⟩ : ∃ x y z, L = [x, y, z] := by
     match L, hlen with
     | [x, y, z], _ => exact ⟨x, y, z, rfl⟩
    have cx : w6.cell? ⟨wc.heap.size, 0, none⟩ = some (.string ⟨x.toArray⟩) := hcs.out 0 (by simp)
    have cy : w6.cell? ⟨wc.heap.size, 1, none⟩ = some (.string ⟨y.toArray⟩) := hcs.out 1 (by simp)
    have cz : w6.cell? ⟨wc.heap.size, 2, none⟩ = some (.string ⟨z.toArray⟩) := hcs.out 2 (by simp)
    have lx := hl4.out x (by simp)
    have ly := hl4.out y (by simp)
    have lz := hl4.out z (by simp)
    simp only [List.length_cons, List.length_nil, Nat.reduceAdd] at HSL ⊢
    rcases hx : V.numb x true with _ | _
    ·have HX := zuq hx
     clear hx
     go_wp2_with fail
     refine (xx ⟨x.toArray⟩ _ (by show x.length ≤ _; unfold maxLen; omega)).mono ?_
     rintro e w' ⟨rfl, rfl⟩
     simp only [HX.out]
     go_wp2
     go_ret3
     have HN : Hid (V.zm s.data.toList = none) := zuq (by rw [HQ.out]; simp [HX.out])
     rw [HN.out]
     exact ⟨HB6.out, rfl⟩
    ·have HX := zuq hx
     rcases hy : V.numb y true with _ | _
     ·have HY := zuq hy
      clear hx hy
      go_wp2_with fail
      refine (xx ⟨x.toArray⟩ _ (by show x.length ≤ _; unfold maxLen; omega)).mono ?_
      rintro e w' ⟨rfl, rfl⟩
      simp only [HX.out]
      go_wp2_with fail
      refine (xx ⟨y.toArray⟩ _ (by show y.length ≤ _; unfold maxLen; omega)).mono ?_
      rintro e w' ⟨rfl, rfl⟩
      simp only [HY.out]
      go_wp2
      go_ret3
      have HN : Hid (V.zm s.data.toList = none) := zuq (by rw [HQ.out]; simp [HX.out, HY.out])
      rw [HN.out]
      exact ⟨HB6.out, rfl⟩
     ·have HY := zuq hy
      rcases hz : V.numb z true with _ | _
      all_goals
       have HZ := zuq hz
       clear hx hy hz
       go_wp2_with fail
       refine (xx ⟨x.toArray⟩ _ (by show x.length ≤ _; unfold maxLen; omega)).mono ?_
       rintro e w' ⟨rfl, rfl⟩
       simp only [HX.out]
       go_wp2_with fail
       refine (xx ⟨y.toArray⟩ _ (by show y.length ≤ _; unfold maxLen; omega)).mono ?_
       rintro e w' ⟨rfl, rfl⟩
       simp only [HY.out]
       go_wp2_with fail
       refine (xx ⟨z.toArray⟩ _ (by show z.length ≤ _; unfold maxLen; omega)).mono ?_
       rintro e w' ⟨rfl, rfl⟩
       simp only [HZ.out]
       go_wp2
       go_ret3
      ·have HN : Hid (V.zm s.data.toList = none) := zuq (by rw [HQ.out]; simp [HX.out, HY.out, HZ.out])
       rw [HN.out]
       exact ⟨HB6.out, rfl⟩
      ·have HN : Hid (V.zm s.data.toList = some ([x, y, z], ids)) := zuq (by rw [HQ.out]; simp [HX.out, HY.out, HZ.out])
       rw [HN.out]
       exact ⟨HB6.out, _, _, rfl, HSL.out, HS6.out⟩
   ·have hle : ((L.length : Int) != 3) = true := by simp; omega
    have HN : Hid (V.zm s.data.toList = none) := zuq (by rw [HQ.out]; simp [hlen])
    go_wp2
    go_ret3
    rw [HN.out]
    exact ⟨HB6.out, rfl⟩
def xq (e : V.Bs) : V.Bs := if e = [] then [48] else e
def RDeb (r : Option (V.Bs × V.Bs × V.Bs)) (w : World) (e : Ending) (w' : World) : Prop :=
 Below w.heap.size w w' /\ match r with
 | none => e = .returned (.tuple #[.slice none 0 0, .bool false])
 | some (E, U, R) => ∃ v, e = .returned (.tuple #[v, .bool true]) /\ Strs w' v [xq E, U, R]
theorem Strs.three (w : World) (x y z : V.Bs) (t : Nat) : Strs (w.alloc (.cells #[.string ⟨x.toArray⟩, .string ⟨y.toArray⟩, .string ⟨z.toArray⟩] t)) (.slice (some ⟨w.heap.size, 0, none⟩) 3 3) [x, y, z] :=
 Strs.split w [x, y, z] t
theorem zdx (s : ByteArray) (w : World) (hm : zg w) (hs : s.size ≤ 1000) :
  Calls Tryz.prog 157 #[.string s] w (RDeb (V.zq s.data.toList) w) := by
 obtain ⟨ep, re, H, hx1⟩ : ∃ a b c, V.cut1 58 s.data.toList = (a, b, c) := ⟨_, _, _, rfl⟩
 have HP : Hid (V.zq s.data.toList = if H then if V.numb ep false then V.ja ep re else none else V.ja [] s.data.toList) := zuq (by
   unfold V.zq; rw [hx1])
 have hl1 : ep.length ≤ s.size /\ re.length ≤ s.size := by
  have := yp 58 s.data.toList
  rw [hx1, zf] at this
  exact this
 obtain ⟨hl1, hl2⟩ := hl1
 have HX1 := zuq hx1
 have HM := zuq hm
 clear hx1 hm
 go_enter Tryz.func157, Tryz.ntmps157
 go_wp2_with fail
 refine (zcq s 58 _ HM.out (by omega)).mono ?_
 rintro e w1 ⟨rfl, hb1⟩
 simp only [HX1.out]
 have HB1 := zuq hb1
 clear hb1
 go_upto_if 17 with (fail)
 go_cut [4, 5] (fun v4 v5 wx => ∃ (E E0 : V.Bs) (V1 : ByteArray), v4 = .string ⟨E.toArray⟩ /\ v5 = .string V1 /\ E.length ≤ 1000 /\ V1.size ≤ s.size /\ Below w.heap.size w wx /\
   V.zq s.data.toList = (if V.digits E then V.ja E0 V1.data.toList else none) /\ (V.digits E = true -> xq E0 = E))
 case first =>
  cases H with
  | false =>
   go_wp2
   go_meet
   exact ⟨[48], [], s, rfl, rfl, by simp, zus _, HB1.out, by rw [HP.out]; rfl, fun _ => rfl⟩
  | true =>
   go_wp2
   go_meet
   exact ⟨ep, ep, ⟨re.toArray⟩, rfl, rfl, by omega, hl2, HB1.out, by
     rw [HP.out]
     have : V.numb ep false = V.digits ep := by unfold V.numb; simp
     rw [this]; rfl, fun hd => by
     unfold xq
     rw [if_neg]
     intro e0
     have := zfc hd
     rw [e0] at this
     simp at this⟩
 case rest =>
  obtain ⟨E, E0, V1, rfl, rfl, hel, hsz, hb2, hpar, hep⟩ := hcut
  have HB2 := zuq hb2
  have HPAR := zuq hpar
  have HEP := zuq hep
  clear hb2 hpar hep HP HX1 HB1
  obtain ⟨wo, rfl⟩ : ∃ wo : World, wo = wc := ⟨_, rfl⟩
  go_wp2_with fail
  refine (Tryz.strings_LastIndex_one V1 ⟨#[45]⟩ rfl (by omega) _).mono ?_
  rintro e w3 ⟨rfl, rfl⟩
  have hld : Lib.lastIndexByte V1 (((ByteArray.mk #[45])[0]'(by decide)).toNat : Int) = V.qt V1.data.toList := by unfold V.qt; rw [ziw]; rfl
  rw [hld]
  clear hld
  obtain ⟨ld, hld⟩ : ∃ ld, V.qt V1.data.toList = ld := ⟨_, rfl⟩
  have HLD := zuq hld
  rw [hld]
  clear hld
  have hsplit : (ld < 0) ∨ ∃ i : Nat, ld = i /\ i < V1.size := by
   exact zxl
  go_upto_if 23 with (fail)
  go_cut [7, 8] (fun v7 v8 wx => ∃ (U R : V.Bs), v7 = .string ⟨U.toArray⟩ /\ v8 = .string ⟨R.toArray⟩ /\ U.length ≤ s.size /\ Below w.heap.size w wx /\
    V.ja E0 V1.data.toList = if V.only (V.kind [46, 43, 126, 45]) U && V.dig (U.getD 0 0) then some (E0, U, R) else none)
  case first =>
   rcases hsplit with hneg | ⟨i, rfl, hlt⟩
   ·have HN : Hid (V.qt V1.data.toList < 0) := zuq (by rw [HLD.out]; exact hneg)
    go_wp2
    go_meet
    exact ⟨V1.data.toList, [], by rw [ziw], rfl, by rw [zf]; exact hsz, HB2.out, zke HN.out⟩
   ·have hge : (0 : Int) ≤ (i : Int) := by omega
    have hex0 : V1.extract 0 i = ⟨(V1.data.toList.take i).toArray⟩ := ks (by rw [Lib.extract_data]; simp)
    have hex1 : V1.extract (i + 1) V1.size = ⟨(V1.data.toList.drop (i + 1)).toArray⟩ := ks (by rw [Lib.extract_to_end])
    have HE0 := zuq hex0
    have HE1 := zuq hex1
    have hrl : (V1.data.toList.drop (i + 1)).length ≤ maxLen := by rw [List.length_drop, zf]; unfold maxLen; omega
    have htl : (V1.data.toList.take i).length ≤ s.size := by rw [List.length_take, zf]; omega
    have HRL := zuq hrl
    have HTL := zuq htl
    clear hex0 hex1 hrl htl
    rcases hk : V.only (V.kind V.allow) (V1.data.toList.drop (i + 1)) with _ | _
    all_goals
     have HK := zuq hk
     clear hk
     go_wp2
     go_region
     go_wp2_with fail
     rw [HE1.out]
     refine (vs ⟨(V1.data.toList.drop (i + 1)).toArray⟩ ⟨#[46, 43, 126]⟩ _ HRL.out).mono ?_
     rintro e w' ⟨rfl, rfl⟩
     have hkk : V.only (V.kind (ByteArray.mk #[46, 43, 126]).data.toList) (ByteArray.mk (V1.data.toList.drop (i + 1)).toArray).data.toList = V.only (V.kind V.allow) (V1.data.toList.drop (i + 1)) := rfl
     rw [hkk, HK.out]
     go_wp2
    ·go_ret2
     have HN : Hid (V.zq s.data.toList = none) := zuq (by rw [HPAR.out, zhx HLD.out HK.out]; simp)
     rw [HN.out]
     exact ⟨HB2.out.drew, rfl⟩
    ·go_meet
     exact ⟨V1.data.toList.take i, V1.data.toList.drop (i + 1), by rw [HE0.out], rfl, HTL.out, HB2.out.drew, zhw HLD.out HK.out⟩
  case rest =>
   obtain ⟨U, R, rfl, rfl, hul, hb5, htail⟩ := hcut
   have HB5 := zuq hb5
   have HT := zuq htail
   clear hb5 htail HLD HB2
   rcases hd : V.digits E with _ | _
   ·have HD := zuq hd
    have HN : Hid (V.zq s.data.toList = none) := zuq (by rw [HPAR.out, hd]; rfl)
    clear hd
    go_wp2_with fail
    refine (qh ⟨E.toArray⟩ _ (by show E.length ≤ _; unfold maxLen; omega)).mono ?_
    rintro e w' ⟨rfl, rfl⟩
    simp only [HD.out]
    go_wp2
    go_ret2
    rw [HN.out]
    exact ⟨HB5.out, rfl⟩
   ·have HD := zuq hd
    have HE := zuq (HEP.out hd)
    rcases hk : V.only (V.kind [46, 43, 126, 45]) U with _ | _
    ·have HK := zuq hk
     have HN : Hid (V.zq s.data.toList = none) := zuq (by rw [HPAR.out, hd, if_pos rfl, HT.out, hk]; rfl)
     clear hd hk
     go_wp2_with fail
     refine (qh ⟨E.toArray⟩ _ (by show E.length ≤ _; unfold maxLen; omega)).mono ?_
     rintro e w' ⟨rfl, rfl⟩
     simp only [HD.out]
     go_wp2_with fail
     refine (vs ⟨U.toArray⟩ ⟨#[46, 43, 126, 45]⟩ _ (by show U.length ≤ _; unfold maxLen; omega)).mono ?_
     rintro e w' ⟨rfl, rfl⟩
     simp only [HK.out]
     go_wp2
     go_ret2
     rw [HN.out]
     exact ⟨HB5.out, rfl⟩
    ·have HK := zuq hk
     obtain ⟨u0, ur, rfl⟩ : ∃ u0 ur, U = u0 :: ur := by
      cases U with
      | nil => simp [V.only] at hk
      | cons u0 ur => exact ⟨u0, ur, rfl⟩
     have hu0 : (ByteArray.mk (u0 :: ur).toArray).size = ur.length + 1 := by simp [ByteArray.size]
     rcases hg : V.digB u0.toNat with _ | _
     all_goals
      have HG := zuq hg
      go_wp2_with fail
      refine (qh ⟨E.toArray⟩ _ (by show E.length ≤ _; unfold maxLen; omega)).mono ?_
      rintro e w' ⟨rfl, rfl⟩
      simp only [HD.out]
      go_wp2_with fail
      refine (vs ⟨(u0 :: ur).toArray⟩ ⟨#[46, 43, 126, 45]⟩ _ (by rw [hu0]; unfold maxLen; simp at hul; omega)).mono ?_
      rintro e w' ⟨rfl, rfl⟩
      simp only [HK.out]
      go_wp2_with fail
      refine (zbc _ _).mono ?_
      rintro e w' ⟨rfl, rfl⟩
      rw [show V.digB (((ByteArray.mk (u0 :: ur).toArray)[0]'(by rw [hu0]; omega)).toNat : Int) = V.digB u0.toNat from rfl, HG.out]
      go_wp2
      go_ret2
     ·have HN : Hid (V.zq s.data.toList = none) := zuq (by
        rw [HPAR.out, hd, if_pos rfl, HT.out, hk, show V.dig ((u0 :: ur).getD 0 0) = V.digB u0.toNat from rfl, hg]; rfl)
      rw [HN.out]
      exact ⟨HB5.out, rfl⟩
     ·have HN : Hid (V.zq s.data.toList = some (E0, u0 :: ur, R)) := zuq (by
        rw [HPAR.out, hd, if_pos rfl, HT.out, hk, show V.dig ((u0 :: ur).getD 0 0) = V.digB u0.toNat from rfl, hg]; rfl)
      rw [HN.out]
      refine ⟨HB5.out.alloc HB5.out.size _, _, rfl, ?_⟩
      rw [HE.out]
      exact Strs.three _ _ _ _ _
open Go.RowKit
theorem zls {r : Option (V.Bs × V.Bs × V.Bs)} {E U R : V.Bs} {w : World} {e : Ending} {w' : World} (h : RDeb r w e w') (hr : r = some (E, U, R)) :
  ∃ b off cap, e = .returned (.tuple #[.slice (some ⟨b, off, none⟩) 3 cap, .bool true]) /\ b < w'.heap.size /\ w'.cell? ⟨b, off, none⟩ = some (.string ⟨(xq E).toArray⟩) /\
   w'.cell? ⟨b, off + 1, none⟩ = some (.string ⟨U.toArray⟩) /\ w'.cell? ⟨b, off + 2, none⟩ = some (.string ⟨R.toArray⟩) /\ Below w.heap.size w w' := by
 subst hr
 obtain ⟨hb, v, rfl, hs⟩ := h
 obtain ⟨b, off, cap, rfl, hlt, hc⟩ := hs.head (by simp)
 exact ⟨b, off, cap, rfl, hlt, hc 0 (by simp), hc 1 (by simp), hc 2 (by simp), hb⟩
theorem zhl (e : V.Bs) : V.value (xq e) = V.value e := by
 unfold xq
 split
 ·rename_i h; subst h; rfl
 ·rfl
theorem zdp (x y : V.Bs) (w : World) (hx : x.length ≤ 1000) (hy : y.length ≤ 1000) :
  Calls Tryz.prog 189 #[.string ⟨x.toArray⟩, .string ⟨y.toArray⟩] w fun e w' => e = .returned (.int .i64 (V.numbers x y)) /\ w' = w := by
 have h := ze9 ⟨x.toArray⟩ ⟨y.toArray⟩ w (by show x.length ≤ _; unfold maxLen; omega) (by show y.length ≤ _; unfold maxLen; omega)
 simp only  at h
 exact h.mono fun _ _ h => ⟨h.1, h.2.symm⟩
theorem zlg (s t : ByteArray) (x0 x1 x2 y0 y1 y2 : V.Bs) (w : World) (hm : zg w) (hs : s.size ≤ 64) (ht : t.size ≤ 64)
  (hp : V.zq s.data.toList = some (x0, x1, x2)) (hq : V.zq t.data.toList = some (y0, y1, y2)) :
  Calls Tryz.prog 160 #[.string s, .string t] w fun e w' => e = .returned (.int .i64 (V.uk (x0, x1, x2) (y0, y1, y2))) /\ Below w.heap.size w w' := by
 have fa := V.uw hp
 have fb := V.uw hq
 rw [zf] at fa fb
 have ga := V.zdo hp
 have gb := V.zdo hq
 obtain ⟨fa0, fa1, fa2⟩ := fa
 obtain ⟨fb0, fb1, fb2⟩ := fb
 simp only at fa0 fa1 fa2 fb0 fb1 fb2
 have GA := zuq ga
 have GB := zuq gb
 have hex : (xq x0).length ≤ 65 := by unfold xq; split <;> (try simp) <;> omega
 have hey : (xq y0).length ≤ 65 := by unfold xq; split <;> (try simp) <;> omega
 have HF : Hid (V.uk (x0, x1, x2) (y0, y1, y2) = V.cor (V.numbers (xq x0) (xq y0)) (V.cor (V.qg x1 y1) (V.qg x2 y2))) := zuq (by
   unfold V.uk
   rw [V.zlj (zhl x0) (zhl y0)]
   simp only [V.orI, V.zb4])
 obtain ⟨ex, hex'⟩ : ∃ x, xq x0 = x := ⟨_, rfl⟩
 obtain ⟨ey, hey'⟩ : ∃ x, xq y0 = x := ⟨_, rfl⟩
 rw [hex'] at hex HF
 rw [hey'] at hey HF
 have HEX := zuq hex'
 have HEY := zuq hey'
 have HP := zuq hp
 have HQ := zuq hq
 have HM := zuq hm
 clear hp hq hm ga gb hex' hey'
 go_enter Tryz.func160, Tryz.ntmps160
 go_wp2_with fail
 refine (zdx s _ HM.out (by omega)).mono ?_
 rintro e w1 h
 obtain ⟨b, off, cap, rfl, hlt, c0, c1, c2, hb1⟩ := zls h HP.out
 rw [HEX.out] at c0
 have hm1 := HM.out.below hb1
 have HB1 := zuq hb1
 clear h hb1
 go_wp2_with fail
 refine (zdx t _ hm1 (by omega)).mono ?_
 rintro e w2 h
 obtain ⟨b', off', cap', rfl, hlt', d0, d1, d2, hb2⟩ := zls h HQ.out
 rw [HEY.out] at d0
 have e0 := (hb2.cell (p := ⟨b, off, none⟩) hlt).trans c0
 have e1 := (hb2.cell (p := ⟨b, off + 1, none⟩) hlt).trans c1
 have e2 := (hb2.cell (p := ⟨b, off + 2, none⟩) hlt).trans c2
 have hlt2 : b < w2.heap.size := Nat.lt_of_lt_of_le hlt hb2.size
 have HB2 := zur HB1 hb2
 clear h hb2 c0 c1 c2 hlt
 go_wp2_with fail
 go_quiet ((go_at_call 189; exact Calls.quiet_of_same (zdp ex ey _ (by omega) (by omega))))
 rename_i nq
 have f1 : (w2.drewN nq).cell? ⟨b, off + 1, none⟩ = some (.string ⟨x1.toArray⟩) := by rw [World.cell?_drewN]; exact e1
 have f2 : (w2.drewN nq).cell? ⟨b, off + 2, none⟩ = some (.string ⟨x2.toArray⟩) := by rw [World.cell?_drewN]; exact e2
 have g1 : (w2.drewN nq).cell? ⟨b', off' + 1, none⟩ = some (.string ⟨y1.toArray⟩) := by rw [World.cell?_drewN]; exact d1
 have g2 : (w2.drewN nq).cell? ⟨b', off' + 2, none⟩ = some (.string ⟨y2.toArray⟩) := by rw [World.cell?_drewN]; exact d2
 have HBW := zuq (below_drewN HB2.out nq)
 have lt1 : b < (w2.drewN nq).heap.size := Nat.lt_of_lt_of_le hlt2 (below_drewN (zut w2.heap.size w2) nq).size
 have lt2 : b' < (w2.drewN nq).heap.size := Nat.lt_of_lt_of_le hlt' (below_drewN (zut w2.heap.size w2) nq).size
 clear e0 e1 e2 d0 d1 d2 HB2 hlt2 hlt'
 generalize w2.drewN nq = W at *
 by_cases h0 : V.numbers ex ey = 0
 ·have HF2 : Hid (V.uk (x0, x1, x2) (y0, y1, y2) = V.cor (V.qg x1 y1) (V.qg x2 y2)) := zuq (by rw [HF.out, h0]; rfl)
  rw [h0]
  clear h0
  go_wp2
  go_still_tail 6, (by kernel_rfl)
  change wpList _ _ _ _ _ W.drew
  have k2 : W.drew.cell? ⟨b, off + 2, none⟩ = some (.string ⟨x2.toArray⟩) := by rw [World.cell?_drew]; exact f2
  have l2 : W.drew.cell? ⟨b', off' + 2, none⟩ = some (.string ⟨y2.toArray⟩) := by rw [World.cell?_drew]; exact g2
  have HBV := zuq HBW.out.drew
  have lt1' : b < W.drew.heap.size := lt1
  have lt2' : b' < W.drew.heap.size := lt2
  clear f1 f2 g1 g2 lt1 lt2 HBW
  generalize W.drew = W2 at *
  go_wp2_with fail
  refine (zqi x1 y1 _ (by omega) (by omega) GA.out.1 GB.out.1).mono ?_
  rintro e w3 ⟨rfl, hb3⟩
  have m2 := (hb3.cell (p := ⟨b, off + 2, none⟩) lt1').trans k2
  have n2 := (hb3.cell (p := ⟨b', off' + 2, none⟩) lt2').trans l2
  have HB3 := zur HBV hb3
  clear k2 l2 lt1' lt2' hb3 HBV
  by_cases h0 : V.qg x1 y1 = 0
  ·have HF3 : Hid (V.uk (x0, x1, x2) (y0, y1, y2) = V.qg x2 y2) := zuq (by rw [HF2.out, h0]; rfl)
   rw [h0]
   clear h0
   go_wp2
   go_still_tail 6, (by kernel_rfl)
   change wpList _ _ _ _ _ w3.drew
   have HBV := zuq HB3.out.drew
   clear m2 n2 HB3
   generalize w3.drew = W4 at *
   go_wp2_with fail
   refine (zqi x2 y2 _ (by omega) (by omega) GA.out.2 GB.out.2).mono ?_
   rintro e w5 ⟨rfl, hb5⟩
   have HB5 := zur HBV hb5
   clear hb5
   go_wp2
   go_ret
   exact ⟨zn HF3.out.symm, HB5.out⟩
  ·have HF3 : Hid (V.uk (x0, x1, x2) (y0, y1, y2) = V.qg x1 y1) := zuq (by rw [HF2.out, V.jw h0])
   have hb : (V.qg x1 y1 != 0) = true := by simpa using h0
   generalize V.qg x1 y1 = c at *
   clear h0
   go_wp2
   go_ret
   exact ⟨zn HF3.out.symm, HB3.out⟩
 ·have HF2 : Hid (V.uk (x0, x1, x2) (y0, y1, y2) = V.numbers ex ey) := zuq (by rw [HF.out, V.jw h0])
  have hb : (V.numbers ex ey != 0) = true := by simpa using h0
  generalize V.numbers ex ey = c at *
  clear h0
  go_wp2
  go_ret
  exact ⟨zn HF2.out.symm, HBW.out⟩
theorem zlp (s : ByteArray) (hs : s.size ≤ 64) : (V.ze 46 s.data.toList).length ≤ 65 /\ ∀ j, ((V.ze 46 s.data.toList).getD j [48]).length ≤ 65 := by
 have h1 := jg 46 s.data.toList
 have h2 := jn 46 s.data.toList
 rw [zf] at h1 h2
 refine ⟨by omega, fun j => ?_⟩
 rw [List.getD_eq_getElem?_getD]
 rcases hk : (V.ze 46 s.data.toList)[j]? with _ | x
 ·simp
 ·have := h2 x (List.mem_of_getElem? hk); simp; omega
theorem zvz {P : Prop} (h : P := by
 have HN := zuq (HNEXT.out h0)
 rw [h0]
 clear h0
 have hk2 := hkm.out
 go_wp2
 go_round
 case rel => exact ⟨k + 1, by omega, by go_num, HN.out⟩
 case measure => simp [intOf]; omega) : P := h
theorem zqe (s t : ByteArray) (w : World) (hm : zg w) (hs : s.size ≤ 64) (ht : t.size ≤ 64) :
  Calls Tryz.prog 161 #[.string s, .string t] w fun e w' => e = .returned (.int .i64 (V.za8 s.data.toList t.data.toList)) /\ Below w.heap.size w w' := by
 have HF := zuq (V.pad_dots s.data.toList t.data.toList)
 have hls := zlp s hs
 have hlt := zlp t ht
 obtain ⟨L, hL⟩ : ∃ L, V.ze 46 s.data.toList = L := ⟨_, rfl⟩
 obtain ⟨M, hM⟩ : ∃ M, V.ze 46 t.data.toList = M := ⟨_, rfl⟩
 rw [hL] at hls HF
 rw [hM] at hlt HF
 obtain ⟨l1, HL1⟩ := hls
 obtain ⟨m1, HM1⟩ := hlt
 have HL1 := zuq HL1
 have HM1 := zuq HM1
 have HMX := zuq hm
 have HL := zuq hL
 have HM := zuq hM
 clear hm hL hM
 go_enter Tryz.func161, Tryz.ntmps161
 go_wp2_with fail
 refine (kj s 46 _ HMX.out (by omega)).mono ?_
 rintro e w1 ⟨rfl, hw1⟩
 rw [HL.out] at hw1 ⊢
 have hb1 : Below w.heap.size w w1 := by rw [hw1]; exact (zut _ _).alloc (zus _) _
 have c1 := ug hw1
 have z1 : w.heap.size < w1.heap.size := by rw [hw1]; simp
 clear hw1
 go_wp2_with fail
 refine (kj t 46 _ (HMX.out.below hb1) (by omega)).mono ?_
 rintro e w2 ⟨rfl, hw2⟩
 rw [HM.out] at hw2 ⊢
 have hb2 : Below w1.heap.size w1 w2 := by rw [hw2]; exact (zut _ _).alloc (zus _) _
 have HC1 : Hid (∀ (j : Nat) (_ : j < L.length), w2.cell? ⟨w.heap.size, j, none⟩ = some (.string ⟨(L.getD j [48]).toArray⟩)) := zuq (fun j hj => by
   rw [hb2.cell (p := ⟨w.heap.size, j, none⟩) z1, c1 j hj, List.getD_eq_getElem?_getD, List.getElem?_eq_getElem hj]; rfl)
 have HC2 : Hid (∀ (j : Nat) (_ : j < M.length), w2.cell? ⟨w1.heap.size, j, none⟩ = some (.string ⟨(M.getD j [48]).toArray⟩)) := zuq (fun j hj => by
   rw [ug hw2 j hj, List.getD_eq_getElem?_getD, List.getElem?_eq_getElem hj]; rfl)
 have HB2 := zuq (hb1.trans (hb2.mono hb1.size))
 clear hb1 hb2 c1 z1 hw2
 go_wp2
 go_loop [7] (fun i => ∃ k : Nat, k ≤ max L.length M.length /\ i = .int .i64 k /\ ∀ j, j < k -> V.numbers (L.getD j [48]) (M.getD j [48]) = 0) (fun i => max L.length M.length - (intOf i).toNat)
 case atStart => exact ⟨0, Nat.zero_le _, rfl, fun j hj => by omega⟩
 case round =>
  obtain ⟨k, hk, rfl, hz⟩ := hrel
  have HZ := zuq hz
  clear hz
  by_cases hor : k < L.length ∨ k < M.length
  ·have hsl := HL1.out k
   have hsm := HM1.out k
   have HHIT := zuq (V.pad_hit k L M HZ.out hor)
   obtain ⟨x, hx⟩ : ∃ x, L.getD k [48] = x := ⟨_, rfl⟩
   obtain ⟨y, hy⟩ : ∃ y, M.getD k [48] = y := ⟨_, rfl⟩
   have HX := zuq hx
   have HY := zuq hy
   have hcx := HC1.out k
   have hcy := HC2.out k
   rw [hx] at hsl hcx HHIT
   rw [hy] at hsm hcy HHIT
   have hex : ¬ k < L.length -> x = [48] := fun h => by rw [← hx, List.getD_eq_getElem?_getD, List.getElem?_eq_none (by omega)]; rfl
   have hey : ¬ k < M.length -> y = [48] := fun h => by rw [← hy, List.getD_eq_getElem?_getD, List.getElem?_eq_none (by omega)]; rfl
   have HNEXT : Hid (V.numbers x y = 0 -> ∀ j, j < k + 1 -> V.numbers (L.getD j [48]) (M.getD j [48]) = 0) := zuq (fun h0 j hj => by
     by_cases e : j = k
     · subst e; rw [HX.out, HY.out]; exact h0
     · exact HZ.out j (by omega))
   have hkm : Hid (k < max L.length M.length) := zuq (by omega)
   clear hx hy
   have three : (k < L.length /\ k < M.length) ∨ (k < L.length /\ ¬ k < M.length) ∨ (¬ k < L.length /\ k < M.length) := by omega
   clear hor
   rcases three with ⟨a1, a2⟩ | ⟨a1, a2⟩ | ⟨a1, a2⟩
   ·have d1 := hcx a1
    have d2 := hcy a2
    clear hex hey hcx hcy
    go_wp2_with fail
    refine (zdp x y _ (by omega) (by omega)).mono ?_
    rintro e w' ⟨rfl, rfl⟩
    by_cases h0 : V.numbers x y = 0
    ·exact zvz
    ·have HR : Hid (V.za8 s.data.toList t.data.toList = V.numbers x y) := zuq (by rw [← HF.out]; exact HHIT.out h0)
     have hb : (V.numbers x y != 0) = true := by simpa using h0
     generalize V.numbers x y = c at *
     clear h0
     exact zxd
   ·have d1 := hcx a1
    obtain rfl := hey a2
    clear hex hey hcx hcy
    go_wp2_with fail
    refine (zdp x [48] _ (by omega) (by simp)).mono ?_
    rintro e w' ⟨rfl, rfl⟩
    by_cases h0 : V.numbers x [48] = 0
    ·exact zvz
    ·have HR : Hid (V.za8 s.data.toList t.data.toList = V.numbers x [48]) := zuq (by rw [← HF.out]; exact HHIT.out h0)
     have hb : (V.numbers x [48] != 0) = true := by simpa using h0
     generalize V.numbers x [48] = c at *
     clear h0
     exact zxd
   ·have d2 := hcy a2
    obtain rfl := hex a1
    clear hex hey hcx hcy
    go_wp2_with fail
    refine (zdp [48] y _ (by simp) (by omega)).mono ?_
    rintro e w' ⟨rfl, rfl⟩
    by_cases h0 : V.numbers [48] y = 0
    ·exact zvz
    ·have HR : Hid (V.za8 s.data.toList t.data.toList = V.numbers [48] y) := zuq (by rw [← HF.out]; exact HHIT.out h0)
     have hb : (V.numbers [48] y != 0) = true := by simpa using h0
     generalize V.numbers [48] y = c at *
     clear h0
     exact zxd
  ·have HE : Hid (V.za8 s.data.toList t.data.toList = 0) := zuq (by rw [← HF.out]; exact V.pad_end k L M HZ.out hor)
   have a1 : ¬ k < L.length := by omega
   have a2 : ¬ k < M.length := by omega
   clear hor
   go_wp2
   go_ret
   exact ⟨zn HE.out.symm, HB2.out⟩
end Go.Proofs.YtnhfaincdabdkaaGreatDoor
