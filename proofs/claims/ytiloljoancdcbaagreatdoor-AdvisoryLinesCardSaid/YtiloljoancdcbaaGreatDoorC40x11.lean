/-
  Lemmas for the law.
-/
import Derived.Test.YtiloljoancdcbaaGreatDoorC40x09
import Derived.Test.YtiloljoancdcbaaGreatDoorC40x01
import Derived.Test.YtiloljoancdcbaaGreatDoorC40x07
import Derived.Test.YtiloljoancdcbaaGreatDoorC40x06
import Derived.Test.YtiloljoancdcbaaGreatDoorC40x10
import Derived.Deep.DeepCutAuto
import Derived.BigRegion
import Derived.OwnWalk
import Derived.StillTailTactics
set_option linter.all false
set_option maxRecDepth 100000
set_option maxHeartbeats 3200000
namespace Go.Proofs.YtiloljoancdcbaaGreatDoor
open Go.RowKit
def RSem (r : Option (List V.Bs × List V.Bs)) (w : World) (e : Ending) (w' : World) : Prop :=
 Below w.heap.size w w' /\ match r with
 | none => e = .returned (.tuple #[.slice none 0 0, .slice none 0 0, .bool false])
 | some (l, ids) => ∃ v u, e = .returned (.tuple #[v, u, .bool true]) /\ Strs w' v l /\ Strs w' u ids
theorem zfh (x : V.Bs) : V.kj false x = V.only (V.kind [45]) x := by
 unfold V.kj V.numb
 rcases V.digits x with _ | _ <;> simp
theorem ve {w w4 : World} {l : List V.Bs} {t : Nat} (h : w4 = w.alloc (.cells (strCells l) t)) (j : Nat) (hj : j < l.length) : w4.cell? ⟨w.heap.size, j, none⟩ = some (.string ⟨l[j].toArray⟩) := by
 rw [h, World.cell?_alloc_new, yj l j hj]
theorem zpp {α : Type} {l : List α} {p : α -> Bool} {k : Nat} (h : k < l.length) (hp : p l[k] = false) : l.all p = false := by
 rw [List.all_eq_false]
 exact ⟨l[k], List.getElem_mem h, by simp [hp]⟩
theorem zed {α : Type} {l : List α} {p : α -> Bool} {k : Nat} (h : k < l.length) : (l.take (k + 1)).all p = ((l.take k).all p && p l[k]) := by
 rw [List.take_succ_eq_append_getElem h, List.all_append]; simp
theorem zzv {P : Prop} (h : P := by
 go_ret3
 have HN : Hid (V.zo s.data.toList = none) := zvq (by
   rw [HP.out, HI.out, zpp (k := k) hlt (by rw [HK.out]; rfl)]; simp)
 rw [HN.out]
 exact ⟨HB4.out, rfl⟩) : P := h
theorem z0s {P : Prop} (h : P := by
 go_round
 case rel => exact ⟨k + 1, by omega, by go_num, by rw [HT.out, HQ.out, HK.out]; rfl⟩
 case measure => simp [intOf]; omega) : P := h
theorem zdw (s : ByteArray) (w : World) (hm : zg w) (hs : s.size ≤ 1000) :
  Calls Tryz.prog 136 #[.string s] w (RSem (V.zo s.data.toList) w) := by
 obtain ⟨v1, bu, B, hx1⟩ : ∃ a b c, V.cut1 43 s.data.toList = (a, b, c) := ⟨_, _, _, rfl⟩
 obtain ⟨v2, pr, E, hx2⟩ : ∃ a b c, V.cut1 45 v1 = (a, b, c) := ⟨_, _, _, rfl⟩
 obtain ⟨L, hL⟩ : ∃ L, V.zd 46 v2 = L := ⟨_, rfl⟩
 have HP : Hid (V.zo s.data.toList = if (B && !V.identifiers bu false) || (E && !V.identifiers pr true) || L.length != 3 then none else if L.all (fun x => V.numb x true) then some (L, if E then V.zd 46 pr else []) else none) := zvq (by
   unfold V.zo
   rw [hx1]
   simp only
   rw [hx2]
   simp only
   rw [hL])
 have hl1 : v1.length ≤ s.size /\ bu.length ≤ s.size := by
  have := uh 43 s.data.toList
  rw [hx1, zf] at this
  exact this
 have hl2 : v2.length ≤ v1.length /\ pr.length ≤ v1.length := by
  have := uh 45 v1
  rw [hx2] at this
  exact this
 have hl3 : L.length ≤ v2.length + 1 := by rw [← hL]; exact jm 46 v2
 have hl4 : Hid (∀ x ∈ L, x.length ≤ v2.length) := zvq (fun x hx => kb 46 v2 x (by rw [hL]; exact hx))
 obtain ⟨hl1, hl1'⟩ := hl1
 obtain ⟨hl2, hl2'⟩ := hl2
 have HX1 := zvq hx1
 have HX2 := zvq hx2
 have HL := zvq hL
 have HM := zvq hm
 clear hx1 hx2 hL hm
 go_enter Tryz.func136, Tryz.ntmps136
 go_wp2_with fail
 refine (zdb s 43 _ HM.out (by omega)).mono ?_
 rintro e w1 ⟨rfl, hb1⟩
 simp only [HX1.out]
 have HB1 := zvq hb1
 clear hb1
 go_upto_if 22 with (fail)
 go_cut [8] (fun _ wx => Below w.heap.size w wx /\ (B = true -> V.identifiers bu false = true))
 case first =>
  cases B with
  | false =>
   go_wp2
   go_meet
   exact ⟨HB1.out, fun e => by cases e⟩
  | true =>
   go_wp2_with fail
   refine (kn ⟨bu.toArray⟩ 46 _ (HM.out.below HB1.out) (by show bu.length < _; omega)).mono ?_
   rintro e w4 ⟨rfl, hw4⟩
   simp only  at hw4 ⊢
   have hi : V.identifiers bu false = (V.zd 46 bu).all (V.kj false) := rfl
   have hle := jm 46 bu
   have hmem := zvq (kb 46 bu)
   obtain ⟨L0, hL0⟩ : ∃ L0, V.zd 46 bu = L0 := ⟨_, rfl⟩
   rw [hL0] at hw4 hi hle hmem ⊢
   have hcs := zvq (ve hw4)
   have HB4 : Hid (Below w.heap.size w w4) := zvq (by rw [hw4]; exact HB1.out.alloc HB1.out.size _)
   have HI := zvq hi
   clear hw4 hi hL0
   go_wp2
   go_loop [9] (fun i => ∃ k : Nat, k ≤ L0.length /\ i = .int .i64 k /\ (L0.take k).all (V.kj false) = true) (fun i => L0.length - (intOf i).toNat)
   case atStart => exact ⟨0, Nat.zero_le _, rfl, rfl⟩
   case round =>
    obtain ⟨k, hk, rfl, hp⟩ := hrel
    have HQ := zvq hp
    clear hp
    by_cases hlt : k < L0.length
    ·have hc := hcs.out k hlt
     have hsz : L0[k].length ≤ bu.length := hmem.out _ (List.getElem_mem hlt)
     have HT := zvq (zed (p := V.kj false) hlt)
     rcases hpk : V.only (V.kind [45]) L0[k] with _ | _
     all_goals
      have HPK := zvq hpk
      clear hpk
      go_wp2_with fail
      refine (wu ⟨L0[k].toArray⟩ ⟨#[45]⟩ _ (by show L0[k].length ≤ _; unfold maxLen; omega)).mono ?_
      rintro e w' ⟨rfl, rfl⟩
      simp only [HPK.out]
      go_wp2
     ·go_ret3
      have HN : Hid (V.zo s.data.toList = none) := zvq (by
        rw [HP.out, HI.out, zpp (k := k) hlt (by rw [zfh]; exact HPK.out)]; rfl)
      rw [HN.out]
      exact ⟨HB4.out, rfl⟩
     ·go_round
      case rel => exact ⟨k + 1, by omega, by go_num, by rw [HT.out, HQ.out, zfh]; exact HPK.out⟩
      case measure => simp [intOf]; omega
    ·have ht : L0.take k = L0 := List.take_of_length_le (by omega)
     rw [ht] at HQ
     clear ht
     go_wp2
     go_meet
     exact ⟨HB4.out, fun _ => by rw [HI.out]; exact HQ.out⟩
 case rest =>
  obtain ⟨hb2, hids⟩ := hcut
  have HB2 := zvq hb2
  have HIDS := zvq hids
  clear hb2 hids HB1
  obtain ⟨wo, rfl⟩ : ∃ wo : World, wo = wc := ⟨_, rfl⟩
  go_wp2_with fail
  refine (zdb ⟨v1.toArray⟩ 45 _ (HM.out.below HB2.out) (by show v1.length < _; omega)).mono ?_
  rintro e w3 ⟨rfl, hb3⟩
  simp only [HX2.out]
  have HB3 := zvr HB2 hb3
  clear hb3
  go_upto_if 43 with (fail)
  go_cut [13] (fun v wx => ∃ ids : List V.Bs, Strs wx v ids /\ Below w.heap.size w wx /\ ids = (if E then V.zd 46 pr else []) /\ (E = true -> V.identifiers pr true = true))
  case first =>
   cases E with
   | false =>
    go_wp2
    go_meet
    exact ⟨[], Strs.nil _, HB3.out, rfl, fun e => by cases e⟩
   | true =>
    go_wp2_with fail
    refine (kn ⟨pr.toArray⟩ 46 _ (HM.out.below HB3.out) (by show pr.length < _; omega)).mono ?_
    rintro e w4 ⟨rfl, hw4⟩
    simp only  at hw4 ⊢
    have hi : V.identifiers pr true = (V.zd 46 pr).all (V.kj true) := rfl
    have hle := jm 46 pr
    have hmem := zvq (kb 46 pr)
    obtain ⟨L0, hL0⟩ : ∃ L0, V.zd 46 pr = L0 := ⟨_, rfl⟩
    rw [hL0] at hw4 hi hle hmem ⊢
    have hcs := zvq (ve hw4)
    have HB4 : Hid (Below w.heap.size w w4) := zvq (by rw [hw4]; exact HB3.out.alloc HB3.out.size _)
    have HS4 : Hid (Strs w4 (.slice (some ⟨w3.heap.size, 0, none⟩) L0.length L0.length) L0) := zvq (by rw [hw4]; exact Strs.split w3 L0 _)
    have HI := zvq hi
    have HL0 := zvq hL0
    clear hw4 hi hL0
    go_wp2
    go_loop [14] (fun i => ∃ k : Nat, k ≤ L0.length /\ i = .int .i64 k /\ (L0.take k).all (V.kj true) = true) (fun i => L0.length - (intOf i).toNat)
    case atStart => exact ⟨0, Nat.zero_le _, rfl, rfl⟩
    case round =>
     obtain ⟨k, hk, rfl, hp⟩ := hrel
     have HQ := zvq hp
     clear hp
     by_cases hlt : k < L0.length
     ·have hc := hcs.out k hlt
      have hsz : L0[k].length ≤ pr.length := hmem.out _ (List.getElem_mem hlt)
      have HT := zvq (zed (p := V.kj true) hlt)
      have HK : Hid (V.kj true L0[k] = (V.only (V.kind [45]) L0[k] && !(V.digits L0[k] && !V.numb L0[k] true))) := rfl
      rcases hpk : V.only (V.kind [45]) L0[k] with _ | _
      ·have HPK := zvq hpk
       rw [hpk] at HK
       clear hpk
       go_wp2_with fail
       refine (wu ⟨L0[k].toArray⟩ ⟨#[45]⟩ _ (by show L0[k].length ≤ _; unfold maxLen; omega)).mono ?_
       rintro e w' ⟨rfl, rfl⟩
       simp only [HPK.out]
       go_wp2
       exact zzv
      ·have HPK := zvq hpk
       rcases hdk : V.digits L0[k] with _ | _
       ·have HDK := zvq hdk
        rw [hpk, hdk] at HK
        clear hpk hdk
        go_wp2_with fail
        refine (wu ⟨L0[k].toArray⟩ ⟨#[45]⟩ _ (by show L0[k].length ≤ _; unfold maxLen; omega)).mono ?_
        rintro e w' ⟨rfl, rfl⟩
        simp only [HPK.out]
        go_wp2_with fail
        refine (qm ⟨L0[k].toArray⟩ _ (by show L0[k].length ≤ _; unfold maxLen; omega)).mono ?_
        rintro e w' ⟨rfl, rfl⟩
        simp only [HDK.out]
        go_wp2
        exact z0s
       ·have HDK := zvq hdk
        rcases hnk : V.numb L0[k] true with _ | _
        all_goals
         have HNK := zvq hnk
         rw [hpk, hdk, hnk] at HK
         clear hpk hdk hnk
         go_wp2_with fail
         refine (wu ⟨L0[k].toArray⟩ ⟨#[45]⟩ _ (by show L0[k].length ≤ _; unfold maxLen; omega)).mono ?_
         rintro e w' ⟨rfl, rfl⟩
         simp only [HPK.out]
         go_wp2_with fail
         refine (qm ⟨L0[k].toArray⟩ _ (by show L0[k].length ≤ _; unfold maxLen; omega)).mono ?_
         rintro e w' ⟨rfl, rfl⟩
         simp only [HDK.out]
         go_wp2_with fail
         refine (yl ⟨L0[k].toArray⟩ _ (by show L0[k].length ≤ _; unfold maxLen; omega)).mono ?_
         rintro e w' ⟨rfl, rfl⟩
         simp only [HNK.out]
         go_wp2
        ·exact zzv
        ·exact z0s
     ·have ht : L0.take k = L0 := List.take_of_length_le (by omega)
      rw [ht] at HQ
      clear ht
      go_wp2
      go_meet
      exact ⟨L0, HS4.out, HB4.out, by rw [HL0.out]; simp, fun _ => by rw [HI.out]; exact HQ.out⟩
  case rest =>
   obtain ⟨ids, hst, hb5, hids, hid2⟩ := hcut
   have HST := zvq hst
   have HB5 := zvq hb5
   have HIDL := zvq hids
   have HID2 := zvq hid2
   clear hst hb5 hids hid2 HB3
   go_wp2_with fail
   refine (kn ⟨v2.toArray⟩ 46 _ (HM.out.below HB5.out) (by show v2.length < _; omega)).mono ?_
   rintro e w6 ⟨rfl, hw6⟩
   simp only [HL.out] at hw6 ⊢
   have hcs := zvq (ve hw6)
   have HB6 : Hid (Below w.heap.size w w6) := zvq (by rw [hw6]; exact HB5.out.alloc HB5.out.size _)
   have HS6 : Hid (Strs w6 u13 ids) := zvq (HST.out.below (by rw [hw6]; exact (zvt _ _).alloc (zvs _) _))
   have HSL : Hid (Strs w6 (.slice (some ⟨wc.heap.size, 0, none⟩) L.length L.length) L) := zvq (by rw [hw6]; exact Strs.split wc L _)
   have HQ : Hid (V.zo s.data.toList = if L.length != 3 then none else if L.all (fun x => V.numb x true) then some (L, ids) else none) := zvq (by
     rw [HP.out, HIDL.out]
     have e1 : (B && !V.identifiers bu false) = false := by
       cases B with
       | false => rfl
       | true => rw [HIDS.out rfl]; rfl
     have e2 : (E && !V.identifiers pr true) = false := by
       cases E with
       | false => rfl
       | true => rw [HID2.out rfl]; rfl
     rw [e1, e2]; rfl)
   clear hw6
   by_cases hlen : L.length = 3
   ·obtain ⟨x, y, z, rfl⟩ : ∃ x y z, L = [x, y, z] := by
     match L, hlen with
     | [x, y, z], _ => exact ⟨x, y, z, rfl⟩
    have cx : w6.cell? ⟨wc.heap.size, 0, none⟩ = some (.string ⟨x.toArray⟩) := hcs.out 0 (by simp)
    have cy : w6.cell? ⟨wc.heap.size, 1, none⟩ = some (.string ⟨y.toArray⟩) := hcs.out 1 (by simp)
    have cz : w6.cell? ⟨wc.heap.size, 2, none⟩ = some (.string ⟨z.toArray⟩) := hcs.out 2 (by simp)
    have lx := hl4.out x (by simp)
    have ly := hl4.out y (by simp)
    have lz := hl4.out z (by simp)
    simp only [List.length_cons, List.length_nil, Nat.reduceAdd] at HSL ⊢
    rcases hx : V.numb x true with _ | _
    ·have HX := zvq hx
     clear hx
     go_wp2_with fail
     refine (yl ⟨x.toArray⟩ _ (by show x.length ≤ _; unfold maxLen; omega)).mono ?_
     rintro e w' ⟨rfl, rfl⟩
     simp only [HX.out]
     go_wp2
     go_ret3
     have HN : Hid (V.zo s.data.toList = none) := zvq (by rw [HQ.out]; simp [HX.out])
     rw [HN.out]
     exact ⟨HB6.out, rfl⟩
    ·have HX := zvq hx
     rcases hy : V.numb y true with _ | _
     ·have HY := zvq hy
      clear hx hy
      go_wp2_with fail
      refine (yl ⟨x.toArray⟩ _ (by show x.length ≤ _; unfold maxLen; omega)).mono ?_
      rintro e w' ⟨rfl, rfl⟩
      simp only [HX.out]
      go_wp2_with fail
      refine (yl ⟨y.toArray⟩ _ (by show y.length ≤ _; unfold maxLen; omega)).mono ?_
      rintro e w' ⟨rfl, rfl⟩
      simp only [HY.out]
      go_wp2
      go_ret3
      have HN : Hid (V.zo s.data.toList = none) := zvq (by rw [HQ.out]; simp [HX.out, HY.out])
      rw [HN.out]
      exact ⟨HB6.out, rfl⟩
     ·have HY := zvq hy
      rcases hz : V.numb z true with _ | _
      all_goals
       have HZ := zvq hz
       clear hx hy hz
       go_wp2_with fail
       refine (yl ⟨x.toArray⟩ _ (by show x.length ≤ _; unfold maxLen; omega)).mono ?_
       rintro e w' ⟨rfl, rfl⟩
       simp only [HX.out]
       go_wp2_with fail
       refine (yl ⟨y.toArray⟩ _ (by show y.length ≤ _; unfold maxLen; omega)).mono ?_
       rintro e w' ⟨rfl, rfl⟩
       simp only [HY.out]
       go_wp2_with fail
       refine (yl ⟨z.toArray⟩ _ (by show z.length ≤ _; unfold maxLen; omega)).mono ?_
       rintro e w' ⟨rfl, rfl⟩
       simp only [HZ.out]
       go_wp2
       go_ret3
      ·have HN : Hid (V.zo s.data.toList = none) := zvq (by rw [HQ.out]; simp [HX.out, HY.out, HZ.out])
       rw [HN.out]
       exact ⟨HB6.out, rfl⟩
      ·have HN : Hid (V.zo s.data.toList = some ([x, y, z], ids)) := zvq (by rw [HQ.out]; simp [HX.out, HY.out, HZ.out])
       rw [HN.out]
       exact ⟨HB6.out, _, _, rfl, HSL.out, HS6.out⟩
   ·have hle : ((L.length : Int) != 3) = true := by simp; omega
    have HN : Hid (V.zo s.data.toList = none) := zvq (by rw [HQ.out]; simp [hlen])
    go_wp2
    go_ret3
    rw [HN.out]
    exact ⟨HB6.out, rfl⟩
def yd (e : V.Bs) : V.Bs := if e = [] then [48] else e
def RDeb (r : Option (V.Bs × V.Bs × V.Bs)) (w : World) (e : Ending) (w' : World) : Prop :=
 Below w.heap.size w w' /\ match r with
 | none => e = .returned (.tuple #[.slice none 0 0, .bool false])
 | some (E, U, R) => ∃ v, e = .returned (.tuple #[v, .bool true]) /\ Strs w' v [yd E, U, R]
theorem Strs.three (w : World) (x y z : V.Bs) (t : Nat) : Strs (w.alloc (.cells #[.string ⟨x.toArray⟩, .string ⟨y.toArray⟩, .string ⟨z.toArray⟩] t)) (.slice (some ⟨w.heap.size, 0, none⟩) 3 3) [x, y, z] :=
 Strs.split w [x, y, z] t
theorem zea (s : ByteArray) (w : World) (hm : zg w) (hs : s.size ≤ 1000) :
  Calls Tryz.prog 137 #[.string s] w (RDeb (V.zr s.data.toList) w) := by
 obtain ⟨ep, re, H, hx1⟩ : ∃ a b c, V.cut1 58 s.data.toList = (a, b, c) := ⟨_, _, _, rfl⟩
 have HP : Hid (V.zr s.data.toList = if H then if V.numb ep false then V.jo ep re else none else V.jo [] s.data.toList) := zvq (by
   unfold V.zr; rw [hx1])
 have hl1 : ep.length ≤ s.size /\ re.length ≤ s.size := by
  have := uh 58 s.data.toList
  rw [hx1, zf] at this
  exact this
 obtain ⟨hl1, hl2⟩ := hl1
 have HX1 := zvq hx1
 have HM := zvq hm
 clear hx1 hm
 go_enter Tryz.func137, Tryz.ntmps137
 go_wp2_with fail
 refine (zdb s 58 _ HM.out (by omega)).mono ?_
 rintro e w1 ⟨rfl, hb1⟩
 simp only [HX1.out]
 have HB1 := zvq hb1
 clear hb1
 go_upto_if 17 with (fail)
 go_cut [4, 5] (fun v4 v5 wx => ∃ (E E0 : V.Bs) (V1 : ByteArray), v4 = .string ⟨E.toArray⟩ /\ v5 = .string V1 /\ E.length ≤ 1000 /\ V1.size ≤ s.size /\ Below w.heap.size w wx /\
   V.zr s.data.toList = (if V.digits E then V.jo E0 V1.data.toList else none) /\ (V.digits E = true -> yd E0 = E))
 case first =>
  cases H with
  | false =>
   go_wp2
   go_meet
   exact ⟨[48], [], s, rfl, rfl, by simp, zvs _, HB1.out, by rw [HP.out]; rfl, fun _ => rfl⟩
  | true =>
   go_wp2
   go_meet
   exact ⟨ep, ep, ⟨re.toArray⟩, rfl, rfl, by omega, hl2, HB1.out, by
     rw [HP.out]
     have : V.numb ep false = V.digits ep := by unfold V.numb; simp
     rw [this]; rfl, fun hd => by
     unfold yd
     rw [if_neg]
     intro e0
     have := zft hd
     rw [e0] at this
     simp at this⟩
 case rest =>
  obtain ⟨E, E0, V1, rfl, rfl, hel, hsz, hb2, hpar, hep⟩ := hcut
  have HB2 := zvq hb2
  have HPAR := zvq hpar
  have HEP := zvq hep
  clear hb2 hpar hep HP HX1 HB1
  obtain ⟨wo, rfl⟩ : ∃ wo : World, wo = wc := ⟨_, rfl⟩
  go_wp2_with fail
  refine (Tryz.strings_LastIndex_one V1 ⟨#[45]⟩ rfl (by omega) _).mono ?_
  rintro e w3 ⟨rfl, rfl⟩
  have hld : Lib.lastIndexByte V1 (((ByteArray.mk #[45])[0]'(by decide)).toNat : Int) = V.jg V1.data.toList := by unfold V.jg; rw [zh2]; rfl
  rw [hld]
  clear hld
  obtain ⟨ld, hld⟩ : ∃ ld, V.jg V1.data.toList = ld := ⟨_, rfl⟩
  have HLD := zvq hld
  rw [hld]
  clear hld
  have hsplit : (ld < 0) ∨ ∃ i : Nat, ld = i /\ i < V1.size := by
   exact zz4
  go_upto_if 23 with (fail)
  go_cut [7, 8] (fun v7 v8 wx => ∃ (U R : V.Bs), v7 = .string ⟨U.toArray⟩ /\ v8 = .string ⟨R.toArray⟩ /\ U.length ≤ s.size /\ Below w.heap.size w wx /\
    V.jo E0 V1.data.toList = if V.only (V.kind [46, 43, 126, 45]) U && V.dig (U.getD 0 0) then some (E0, U, R) else none)
  case first =>
   rcases hsplit with hneg | ⟨i, rfl, hlt⟩
   ·have HN : Hid (V.jg V1.data.toList < 0) := zvq (by rw [HLD.out]; exact hneg)
    go_wp2
    go_meet
    exact ⟨V1.data.toList, [], by rw [zh2], rfl, by rw [zf]; exact hsz, HB2.out, zle HN.out⟩
   ·have hge : (0 : Int) ≤ (i : Int) := by omega
    have hex0 : V1.extract 0 i = ⟨(V1.data.toList.take i).toArray⟩ := jj (by rw [Lib.extract_data]; simp)
    have hex1 : V1.extract (i + 1) V1.size = ⟨(V1.data.toList.drop (i + 1)).toArray⟩ := jj (by rw [Lib.extract_to_end])
    have HE0 := zvq hex0
    have HE1 := zvq hex1
    have hrl : (V1.data.toList.drop (i + 1)).length ≤ maxLen := by rw [List.length_drop, zf]; unfold maxLen; omega
    have htl : (V1.data.toList.take i).length ≤ s.size := by rw [List.length_take, zf]; omega
    have HRL := zvq hrl
    have HTL := zvq htl
    clear hex0 hex1 hrl htl
    rcases hk : V.only (V.kind V.allow) (V1.data.toList.drop (i + 1)) with _ | _
    all_goals
     have HK := zvq hk
     clear hk
     go_wp2
     go_region
     go_wp2_with fail
     rw [HE1.out]
     refine (wu ⟨(V1.data.toList.drop (i + 1)).toArray⟩ ⟨#[46, 43, 126]⟩ _ HRL.out).mono ?_
     rintro e w' ⟨rfl, rfl⟩
     have hkk : V.only (V.kind (ByteArray.mk #[46, 43, 126]).data.toList) (ByteArray.mk (V1.data.toList.drop (i + 1)).toArray).data.toList = V.only (V.kind V.allow) (V1.data.toList.drop (i + 1)) := rfl
     rw [hkk, HK.out]
     go_wp2
    ·go_ret2
     have HN : Hid (V.zr s.data.toList = none) := zvq (by rw [HPAR.out, zit HLD.out HK.out]; simp)
     rw [HN.out]
     exact ⟨HB2.out.drew, rfl⟩
    ·go_meet
     exact ⟨V1.data.toList.take i, V1.data.toList.drop (i + 1), by rw [HE0.out], rfl, HTL.out, HB2.out.drew, zir HLD.out HK.out⟩
  case rest =>
   obtain ⟨U, R, rfl, rfl, hul, hb5, htail⟩ := hcut
   have HB5 := zvq hb5
   have HT := zvq htail
   clear hb5 htail HLD HB2
   rcases hd : V.digits E with _ | _
   ·have HD := zvq hd
    have HN : Hid (V.zr s.data.toList = none) := zvq (by rw [HPAR.out, hd]; rfl)
    clear hd
    go_wp2_with fail
    refine (qm ⟨E.toArray⟩ _ (by show E.length ≤ _; unfold maxLen; omega)).mono ?_
    rintro e w' ⟨rfl, rfl⟩
    simp only [HD.out]
    go_wp2
    go_ret2
    rw [HN.out]
    exact ⟨HB5.out, rfl⟩
   ·have HD := zvq hd
    have HE := zvq (HEP.out hd)
    rcases hk : V.only (V.kind [46, 43, 126, 45]) U with _ | _
    ·have HK := zvq hk
     have HN : Hid (V.zr s.data.toList = none) := zvq (by rw [HPAR.out, hd, if_pos rfl, HT.out, hk]; rfl)
     clear hd hk
     go_wp2_with fail
     refine (qm ⟨E.toArray⟩ _ (by show E.length ≤ _; unfold maxLen; omega)).mono ?_
     rintro e w' ⟨rfl, rfl⟩
     simp only [HD.out]
     go_wp2_with fail
     refine (wu ⟨U.toArray⟩ ⟨#[46, 43, 126, 45]⟩ _ (by show U.length ≤ _; unfold maxLen; omega)).mono ?_
     rintro e w' ⟨rfl, rfl⟩
     simp only [HK.out]
     go_wp2
     go_ret2
     rw [HN.out]
     exact ⟨HB5.out, rfl⟩
    ·have HK := zvq hk
     obtain ⟨u0, ur, rfl⟩ : ∃ u0 ur, U = u0 :: ur := by
      cases U with
      | nil => simp [V.only] at hk
      | cons u0 ur => exact ⟨u0, ur, rfl⟩
     have hu0 : (ByteArray.mk (u0 :: ur).toArray).size = ur.length + 1 := by simp [ByteArray.size]
     rcases hg : V.digB u0.toNat with _ | _
     all_goals
      have HG := zvq hg
      go_wp2_with fail
      refine (qm ⟨E.toArray⟩ _ (by show E.length ≤ _; unfold maxLen; omega)).mono ?_
      rintro e w' ⟨rfl, rfl⟩
      simp only [HD.out]
      go_wp2_with fail
      refine (wu ⟨(u0 :: ur).toArray⟩ ⟨#[46, 43, 126, 45]⟩ _ (by rw [hu0]; unfold maxLen; simp at hul; omega)).mono ?_
      rintro e w' ⟨rfl, rfl⟩
      simp only [HK.out]
      go_wp2_with fail
      refine (zb0 _ _).mono ?_
      rintro e w' ⟨rfl, rfl⟩
      rw [show V.digB (((ByteArray.mk (u0 :: ur).toArray)[0]'(by rw [hu0]; omega)).toNat : Int) = V.digB u0.toNat from rfl, HG.out]
      go_wp2
      go_ret2
     ·have HN : Hid (V.zr s.data.toList = none) := zvq (by
        rw [HPAR.out, hd, if_pos rfl, HT.out, hk, show V.dig ((u0 :: ur).getD 0 0) = V.digB u0.toNat from rfl, hg]; rfl)
      rw [HN.out]
      exact ⟨HB5.out, rfl⟩
     ·have HN : Hid (V.zr s.data.toList = some (E0, u0 :: ur, R)) := zvq (by
        rw [HPAR.out, hd, if_pos rfl, HT.out, hk, show V.dig ((u0 :: ur).getD 0 0) = V.digB u0.toNat from rfl, hg]; rfl)
      rw [HN.out]
      refine ⟨HB5.out.alloc HB5.out.size _, _, rfl, ?_⟩
      rw [HE.out]
      exact Strs.three _ _ _ _ _
open Go.RowKit
theorem zmu {r : Option (V.Bs × V.Bs × V.Bs)} {E U R : V.Bs} {w : World} {e : Ending} {w' : World} (h : RDeb r w e w') (hr : r = some (E, U, R)) :
  ∃ b off cap, e = .returned (.tuple #[.slice (some ⟨b, off, none⟩) 3 cap, .bool true]) /\ b < w'.heap.size /\ w'.cell? ⟨b, off, none⟩ = some (.string ⟨(yd E).toArray⟩) /\
   w'.cell? ⟨b, off + 1, none⟩ = some (.string ⟨U.toArray⟩) /\ w'.cell? ⟨b, off + 2, none⟩ = some (.string ⟨R.toArray⟩) /\ Below w.heap.size w w' := by
 subst hr
 obtain ⟨hb, v, rfl, hs⟩ := h
 obtain ⟨b, off, cap, rfl, hlt, hc⟩ := hs.head (by simp)
 exact ⟨b, off, cap, rfl, hlt, hc 0 (by simp), hc 1 (by simp), hc 2 (by simp), hb⟩
theorem zid (e : V.Bs) : V.value (yd e) = V.value e := by
 unfold yd
 split
 ·rename_i h; subst h; rfl
 ·rfl
theorem zd3 (x y : V.Bs) (w : World) (hx : x.length ≤ 1000) (hy : y.length ≤ 1000) :
  Calls Tryz.prog 166 #[.string ⟨x.toArray⟩, .string ⟨y.toArray⟩] w fun e w' => e = .returned (.int .i64 (V.numbers x y)) /\ w' = w := by
 have h := zfq ⟨x.toArray⟩ ⟨y.toArray⟩ w (by show x.length ≤ _; unfold maxLen; omega) (by show y.length ≤ _; unfold maxLen; omega)
 simp only  at h
 exact h.mono fun _ _ h => ⟨h.1, h.2.symm⟩
theorem zmh (s t : ByteArray) (x0 x1 x2 y0 y1 y2 : V.Bs) (w : World) (hm : zg w) (hs : s.size ≤ 64) (ht : t.size ≤ 64)
  (hp : V.zr s.data.toList = some (x0, x1, x2)) (hq : V.zr t.data.toList = some (y0, y1, y2)) :
  Calls Tryz.prog 140 #[.string s, .string t] w fun e w' => e = .returned (.int .i64 (V.vk (x0, x1, x2) (y0, y1, y2))) /\ Below w.heap.size w w' := by
 have fa := V.vs hp
 have fb := V.vs hq
 rw [zf] at fa fb
 have ga := V.zd2 hp
 have gb := V.zd2 hq
 obtain ⟨fa0, fa1, fa2⟩ := fa
 obtain ⟨fb0, fb1, fb2⟩ := fb
 simp only at fa0 fa1 fa2 fb0 fb1 fb2
 have GA := zvq ga
 have GB := zvq gb
 have hex : (yd x0).length ≤ 65 := by unfold yd; split <;> (try simp) <;> omega
 have hey : (yd y0).length ≤ 65 := by unfold yd; split <;> (try simp) <;> omega
 have HF : Hid (V.vk (x0, x1, x2) (y0, y1, y2) = V.cor (V.numbers (yd x0) (yd y0)) (V.cor (V.ql x1 y1) (V.ql x2 y2))) := zvq (by
   unfold V.vk
   rw [V.zmj (zid x0) (zid y0)]
   simp only [V.orI, V.zet])
 obtain ⟨ex, hex'⟩ : ∃ x, yd x0 = x := ⟨_, rfl⟩
 obtain ⟨ey, hey'⟩ : ∃ x, yd y0 = x := ⟨_, rfl⟩
 rw [hex'] at hex HF
 rw [hey'] at hey HF
 have HEX := zvq hex'
 have HEY := zvq hey'
 have HP := zvq hp
 have HQ := zvq hq
 have HM := zvq hm
 clear hp hq hm ga gb hex' hey'
 go_enter Tryz.func140, Tryz.ntmps140
 go_wp2_with fail
 refine (zea s _ HM.out (by omega)).mono ?_
 rintro e w1 h
 obtain ⟨b, off, cap, rfl, hlt, c0, c1, c2, hb1⟩ := zmu h HP.out
 rw [HEX.out] at c0
 have hm1 := HM.out.below hb1
 have HB1 := zvq hb1
 clear h hb1
 go_wp2_with fail
 refine (zea t _ hm1 (by omega)).mono ?_
 rintro e w2 h
 obtain ⟨b', off', cap', rfl, hlt', d0, d1, d2, hb2⟩ := zmu h HQ.out
 rw [HEY.out] at d0
 have e0 := (hb2.cell (p := ⟨b, off, none⟩) hlt).trans c0
 have e1 := (hb2.cell (p := ⟨b, off + 1, none⟩) hlt).trans c1
 have e2 := (hb2.cell (p := ⟨b, off + 2, none⟩) hlt).trans c2
 have hlt2 : b < w2.heap.size := Nat.lt_of_lt_of_le hlt hb2.size
 have HB2 := zvr HB1 hb2
 clear h hb2 c0 c1 c2 hlt
 go_wp2_with fail
 go_quiet ((go_at_call 166; exact Calls.quiet_of_same (zd3 ex ey _ (by omega) (by omega))))
 rename_i nq
 have f1 : (w2.drewN nq).cell? ⟨b, off + 1, none⟩ = some (.string ⟨x1.toArray⟩) := by rw [World.cell?_drewN]; exact e1
 have f2 : (w2.drewN nq).cell? ⟨b, off + 2, none⟩ = some (.string ⟨x2.toArray⟩) := by rw [World.cell?_drewN]; exact e2
 have g1 : (w2.drewN nq).cell? ⟨b', off' + 1, none⟩ = some (.string ⟨y1.toArray⟩) := by rw [World.cell?_drewN]; exact d1
 have g2 : (w2.drewN nq).cell? ⟨b', off' + 2, none⟩ = some (.string ⟨y2.toArray⟩) := by rw [World.cell?_drewN]; exact d2
 have HBW := zvq (below_drewN HB2.out nq)
 have lt1 : b < (w2.drewN nq).heap.size := Nat.lt_of_lt_of_le hlt2 (below_drewN (zvt w2.heap.size w2) nq).size
 have lt2 : b' < (w2.drewN nq).heap.size := Nat.lt_of_lt_of_le hlt' (below_drewN (zvt w2.heap.size w2) nq).size
 clear e0 e1 e2 d0 d1 d2 HB2 hlt2 hlt'
 generalize w2.drewN nq = W at *
 by_cases h0 : V.numbers ex ey = 0
 ·have HF2 : Hid (V.vk (x0, x1, x2) (y0, y1, y2) = V.cor (V.ql x1 y1) (V.ql x2 y2)) := zvq (by rw [HF.out, h0]; rfl)
  rw [h0]
  clear h0
  go_wp2
  go_still_tail 6, (by kernel_rfl)
  change wpList _ _ _ _ _ W.drew
  have k2 : W.drew.cell? ⟨b, off + 2, none⟩ = some (.string ⟨x2.toArray⟩) := by rw [World.cell?_drew]; exact f2
  have l2 : W.drew.cell? ⟨b', off' + 2, none⟩ = some (.string ⟨y2.toArray⟩) := by rw [World.cell?_drew]; exact g2
  have HBV := zvq HBW.out.drew
  have lt1' : b < W.drew.heap.size := lt1
  have lt2' : b' < W.drew.heap.size := lt2
  clear f1 f2 g1 g2 lt1 lt2 HBW
  generalize W.drew = W2 at *
  go_wp2_with fail
  refine (zrl x1 y1 _ (by omega) (by omega) GA.out.1 GB.out.1).mono ?_
  rintro e w3 ⟨rfl, hb3⟩
  have m2 := (hb3.cell (p := ⟨b, off + 2, none⟩) lt1').trans k2
  have n2 := (hb3.cell (p := ⟨b', off' + 2, none⟩) lt2').trans l2
  have HB3 := zvr HBV hb3
  clear k2 l2 lt1' lt2' hb3 HBV
  by_cases h0 : V.ql x1 y1 = 0
  ·have HF3 : Hid (V.vk (x0, x1, x2) (y0, y1, y2) = V.ql x2 y2) := zvq (by rw [HF2.out, h0]; rfl)
   rw [h0]
   clear h0
   go_wp2
   go_still_tail 6, (by kernel_rfl)
   change wpList _ _ _ _ _ w3.drew
   have HBV := zvq HB3.out.drew
   clear m2 n2 HB3
   generalize w3.drew = W4 at *
   go_wp2_with fail
   refine (zrl x2 y2 _ (by omega) (by omega) GA.out.2 GB.out.2).mono ?_
   rintro e w5 ⟨rfl, hb5⟩
   have HB5 := zvr HBV hb5
   clear hb5
   go_wp2
   go_ret
   exact ⟨zn HF3.out.symm, HB5.out⟩
  ·have HF3 : Hid (V.vk (x0, x1, x2) (y0, y1, y2) = V.ql x1 y1) := zvq (by rw [HF2.out, V.kh h0])
   have hb : (V.ql x1 y1 != 0) = true := by simpa using h0
   generalize V.ql x1 y1 = c at *
   clear h0
   go_wp2
   go_ret
   exact ⟨zn HF3.out.symm, HB3.out⟩
 ·have HF2 : Hid (V.vk (x0, x1, x2) (y0, y1, y2) = V.numbers ex ey) := zvq (by rw [HF.out, V.kh h0])
  have hb : (V.numbers ex ey != 0) = true := by simpa using h0
  generalize V.numbers ex ey = c at *
  clear h0
  go_wp2
  go_ret
  exact ⟨zn HF2.out.symm, HBW.out⟩
theorem zmp (s : ByteArray) (hs : s.size ≤ 64) : (V.zd 46 s.data.toList).length ≤ 65 /\ ∀ j, ((V.zd 46 s.data.toList).getD j [48]).length ≤ 65 := by
 have h1 := jm 46 s.data.toList
 have h2 := kb 46 s.data.toList
 rw [zf] at h1 h2
 refine ⟨by omega, fun j => ?_⟩
 rw [List.getD_eq_getElem?_getD]
 rcases hk : (V.zd 46 s.data.toList)[j]? with _ | x
 ·simp
 ·have := h2 x (List.mem_of_getElem? hk); simp; omega
theorem zyc {P : Prop} (h : P := by
 have HN := zvq (HNEXT.out h0)
 rw [h0]
 clear h0
 have hk2 := hkm.out
 go_wp2
 go_round
 case rel => exact ⟨k + 1, by omega, by go_num, HN.out⟩
 case measure => simp [intOf]; omega) : P := h
theorem zrg (s t : ByteArray) (w : World) (hm : zg w) (hs : s.size ≤ 64) (ht : t.size ≤ 64) :
  Calls Tryz.prog 141 #[.string s, .string t] w fun e w' => e = .returned (.int .i64 (V.zbq s.data.toList t.data.toList)) /\ Below w.heap.size w w' := by
 have HF := zvq (V.pad_dots s.data.toList t.data.toList)
 have hls := zmp s hs
 have hlt := zmp t ht
 obtain ⟨L, hL⟩ : ∃ L, V.zd 46 s.data.toList = L := ⟨_, rfl⟩
 obtain ⟨M, hM⟩ : ∃ M, V.zd 46 t.data.toList = M := ⟨_, rfl⟩
 rw [hL] at hls HF
 rw [hM] at hlt HF
 obtain ⟨l1, HL1⟩ := hls
 obtain ⟨m1, HM1⟩ := hlt
 have HL1 := zvq HL1
 have HM1 := zvq HM1
 have HMX := zvq hm
 have HL := zvq hL
 have HM := zvq hM
 clear hm hL hM
 go_enter Tryz.func141, Tryz.ntmps141
 go_wp2_with fail
 refine (kn s 46 _ HMX.out (by omega)).mono ?_
 rintro e w1 ⟨rfl, hw1⟩
 rw [HL.out] at hw1 ⊢
 have hb1 : Below w.heap.size w w1 := by rw [hw1]; exact (zvt _ _).alloc (zvs _) _
 have c1 := ve hw1
 have z1 : w.heap.size < w1.heap.size := by rw [hw1]; simp
 clear hw1
 go_wp2_with fail
 refine (kn t 46 _ (HMX.out.below hb1) (by omega)).mono ?_
 rintro e w2 ⟨rfl, hw2⟩
 rw [HM.out] at hw2 ⊢
 have hb2 : Below w1.heap.size w1 w2 := by rw [hw2]; exact (zvt _ _).alloc (zvs _) _
 have HC1 : Hid (∀ (j : Nat) (_ : j < L.length), w2.cell? ⟨w.heap.size, j, none⟩ = some (.string ⟨(L.getD j [48]).toArray⟩)) := zvq (fun j hj => by
   rw [hb2.cell (p := ⟨w.heap.size, j, none⟩) z1, c1 j hj, List.getD_eq_getElem?_getD, List.getElem?_eq_getElem hj]; rfl)
 have HC2 : Hid (∀ (j : Nat) (_ : j < M.length), w2.cell? ⟨w1.heap.size, j, none⟩ = some (.string ⟨(M.getD j [48]).toArray⟩)) := zvq (fun j hj => by
   rw [ve hw2 j hj, List.getD_eq_getElem?_getD, List.getElem?_eq_getElem hj]; rfl)
 have HB2 := zvq (hb1.trans (hb2.mono hb1.size))
 clear hb1 hb2 c1 z1 hw2
 go_wp2
 go_loop [7] (fun i => ∃ k : Nat, k ≤ max L.length M.length /\ i = .int .i64 k /\ ∀ j, j < k -> V.numbers (L.getD j [48]) (M.getD j [48]) = 0) (fun i => max L.length M.length - (intOf i).toNat)
 case atStart => exact ⟨0, Nat.zero_le _, rfl, fun j hj => by omega⟩
 case round =>
  obtain ⟨k, hk, rfl, hz⟩ := hrel
  have HZ := zvq hz
  clear hz
  by_cases hor : k < L.length ∨ k < M.length
  ·have hsl := HL1.out k
   have hsm := HM1.out k
   have HHIT := zvq (V.pad_hit k L M HZ.out hor)
   obtain ⟨x, hx⟩ : ∃ x, L.getD k [48] = x := ⟨_, rfl⟩
   obtain ⟨y, hy⟩ : ∃ y, M.getD k [48] = y := ⟨_, rfl⟩
   have HX := zvq hx
   have HY := zvq hy
   have hcx := HC1.out k
   have hcy := HC2.out k
   rw [hx] at hsl hcx HHIT
   rw [hy] at hsm hcy HHIT
   have hex : ¬ k < L.length -> x = [48] := fun h => by rw [← hx, List.getD_eq_getElem?_getD, List.getElem?_eq_none (by omega)]; rfl
   have hey : ¬ k < M.length -> y = [48] := fun h => by rw [← hy, List.getD_eq_getElem?_getD, List.getElem?_eq_none (by omega)]; rfl
   have HNEXT : Hid (V.numbers x y = 0 -> ∀ j, j < k + 1 -> V.numbers (L.getD j [48]) (M.getD j [48]) = 0) := zvq (fun h0 j hj => by
     by_cases e : j = k
     · subst e; rw [HX.out, HY.out]; exact h0
     · exact HZ.out j (by omega))
   have hkm : Hid (k < max L.length M.length) := zvq (by omega)
   clear hx hy
   have three : (k < L.length /\ k < M.length) ∨ (k < L.length /\ ¬ k < M.length) ∨ (¬ k < L.length /\ k < M.length) := by omega
   clear hor
   rcases three with ⟨a1, a2⟩ | ⟨a1, a2⟩ | ⟨a1, a2⟩
   ·have d1 := hcx a1
    have d2 := hcy a2
    clear hex hey hcx hcy
    go_wp2_with fail
    refine (zd3 x y _ (by omega) (by omega)).mono ?_
    rintro e w' ⟨rfl, rfl⟩
    by_cases h0 : V.numbers x y = 0
    ·exact zyc
    ·have HR : Hid (V.zbq s.data.toList t.data.toList = V.numbers x y) := zvq (by rw [← HF.out]; exact HHIT.out h0)
     have hb : (V.numbers x y != 0) = true := by simpa using h0
     generalize V.numbers x y = c at *
     clear h0
     exact zzw
   ·have d1 := hcx a1
    obtain rfl := hey a2
    clear hex hey hcx hcy
    go_wp2_with fail
    refine (zd3 x [48] _ (by omega) (by simp)).mono ?_
    rintro e w' ⟨rfl, rfl⟩
    by_cases h0 : V.numbers x [48] = 0
    ·exact zyc
    ·have HR : Hid (V.zbq s.data.toList t.data.toList = V.numbers x [48]) := zvq (by rw [← HF.out]; exact HHIT.out h0)
     have hb : (V.numbers x [48] != 0) = true := by simpa using h0
     generalize V.numbers x [48] = c at *
     clear h0
     exact zzw
   ·have d2 := hcy a2
    obtain rfl := hex a1
    clear hex hey hcx hcy
    go_wp2_with fail
    refine (zd3 [48] y _ (by simp) (by omega)).mono ?_
    rintro e w' ⟨rfl, rfl⟩
    by_cases h0 : V.numbers [48] y = 0
    ·exact zyc
    ·have HR : Hid (V.zbq s.data.toList t.data.toList = V.numbers [48] y) := zvq (by rw [← HF.out]; exact HHIT.out h0)
     have hb : (V.numbers [48] y != 0) = true := by simpa using h0
     generalize V.numbers [48] y = c at *
     clear h0
     exact zzw
  ·have HE : Hid (V.zbq s.data.toList t.data.toList = 0) := zvq (by rw [← HF.out]; exact V.pad_end k L M HZ.out hor)
   have a1 : ¬ k < L.length := by omega
   have a2 : ¬ k < M.length := by omega
   clear hor
   go_wp2
   go_ret
   exact ⟨zn HE.out.symm, HB2.out⟩
end Go.Proofs.YtiloljoancdcbaaGreatDoor
