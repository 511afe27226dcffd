/-
  Lemmas for the law.
-/
import Derived.Test.YtbikeahmldobkaaGreatDoorC41x17
import Derived.Test.YtbikeahmldobkaaGreatDoorC41x01
import Derived.Test.YtbikeahmldobkaaGreatDoorC41x09
import Derived.Deep.DeepCutAuto
import Derived.BigRegion
import Derived.OwnWalk
set_option linter.all false
set_option maxRecDepth 100000
set_option maxHeartbeats 3200000
namespace Go.Proofs.YtbikeahmldobkaaGreatDoor
open Go.RowKit
def RSem (r : Option (List V.Bs × List V.Bs)) (w : World) (e : Ending) (w' : World) : Prop :=
 Below w.heap.size w w' /\ match r with
 | none => e = .returned (.tuple #[.slice none 0 0, .slice none 0 0, .bool false])
 | some (l, ids) => ∃ v u, e = .returned (.tuple #[v, u, .bool true]) /\ Strs w' v l /\ Strs w' u ids
theorem zbr (x : V.Bs) : V.jh false x = V.only (V.kind [45]) x := by
 unfold V.jh V.numb
 rcases V.digits x with _ | _ <;> simp
theorem kx {w w4 : World} {l : List V.Bs} {t : Nat} (h : w4 = w.alloc (.cells (xb l) t)) (j : Nat) (hj : j < l.length) : w4.cell? ⟨w.heap.size, j, none⟩ = some (.string ⟨l[j].toArray⟩) := by
 rw [h, World.cell?_alloc_new, zal l j hj]
theorem zjl {α : Type} {l : List α} {p : α -> Bool} {k : Nat} (h : k < l.length) (hp : p l[k] = false) : l.all p = false := by
 rw [List.all_eq_false]
 exact ⟨l[k], List.getElem_mem h, by simp [hp]⟩
theorem za0 {α : Type} {l : List α} {p : α -> Bool} {k : Nat} (h : k < l.length) : (l.take (k + 1)).all p = ((l.take k).all p && p l[k]) := by
 rw [List.take_succ_eq_append_getElem h, List.all_append]; simp
theorem zq7 {P : Prop} (h : P := by
 go_ret3
 have HN : Hid (V.zl s.data.toList = none) := zpa (by
   rw [HP.out, HI.out, zjl (k := k) hlt (by rw [HK.out]; rfl)]; simp)
 rw [HN.out]
 exact ⟨HB4.out, rfl⟩) : P := h
theorem zrx {P : Prop} (h : P := by
 go_round
 case rel => exact ⟨k + 1, by omega, by go_num, by rw [HT.out, HQ.out, HK.out]; rfl⟩
 case measure => simp [intOf]; omega) : P := h
theorem zak (s : ByteArray) (w : World) (hm : zm w) (hs : s.size ≤ 1000) :
  Calls Tryz.prog 85 #[.string s] w (RSem (V.zl s.data.toList) w) := by
 obtain ⟨v1, bu, B, hx1⟩ : ∃ a b c, V.cut1 43 s.data.toList = (a, b, c) := ⟨_, _, _, rfl⟩
 obtain ⟨v2, pr, E, hx2⟩ : ∃ a b c, V.cut1 45 v1 = (a, b, c) := ⟨_, _, _, rfl⟩
 obtain ⟨L, hL⟩ : ∃ L, V.zo 46 v2 = L := ⟨_, rfl⟩
 have HP : Hid (V.zl s.data.toList = if (B && !V.identifiers bu false) || (E && !V.identifiers pr true) || L.length != 3 then none else if L.all (fun x => V.numb x true) then some (L, if E then V.zo 46 pr else []) else none) := zpa (by
   unfold V.zl
   rw [hx1]
   simp only
   rw [hx2]
   simp only
   rw [hL])
 have hl1 : v1.length ≤ s.size /\ bu.length ≤ s.size := by
  have := km 43 s.data.toList
  rw [hx1, zi] at this
  exact this
 have hl2 : v2.length ≤ v1.length /\ pr.length ≤ v1.length := by
  have := km 45 v1
  rw [hx2] at this
  exact this
 have hl3 : L.length ≤ v2.length + 1 := by rw [← hL]; exact qy 46 v2
 have hl4 : Hid (∀ x ∈ L, x.length ≤ v2.length) := zpa (fun x hx => ji 46 v2 x (by rw [hL]; exact hx))
 obtain ⟨hl1, hl1'⟩ := hl1
 obtain ⟨hl2, hl2'⟩ := hl2
 have HX1 := zpa hx1
 have HX2 := zpa hx2
 have HL := zpa hL
 have HM := zpa hm
 clear hx1 hx2 hL hm
 go_enter Tryz.func85, Tryz.ntmps85
 go_wp2_with fail
 refine (vz s 43 _ HM.out (by omega)).mono ?_
 rintro e w1 ⟨rfl, hb1⟩
 simp only [HX1.out]
 have HB1 := zpa hb1
 clear hb1
 go_upto_if 22 with (fail)
 go_cut [8] (fun _ wx => Below w.heap.size w wx /\ (B = true -> V.identifiers bu false = true))
 case first =>
  cases B with
  | false =>
   go_wp2
   go_meet
   exact ⟨HB1.out, fun e => by cases e⟩
  | true =>
   go_wp2_with fail
   refine (jm ⟨bu.toArray⟩ 46 _ (HM.out.below HB1.out) (by show bu.length < _; omega)).mono ?_
   rintro e w4 ⟨rfl, hw4⟩
   simp only  at hw4 ⊢
   have hi : V.identifiers bu false = (V.zo 46 bu).all (V.jh false) := rfl
   have hle := qy 46 bu
   have hmem := zpa (ji 46 bu)
   obtain ⟨L0, hL0⟩ : ∃ L0, V.zo 46 bu = L0 := ⟨_, rfl⟩
   rw [hL0] at hw4 hi hle hmem ⊢
   have hcs := zpa (kx hw4)
   have HB4 : Hid (Below w.heap.size w w4) := zpa (by rw [hw4]; exact HB1.out.alloc HB1.out.size _)
   have HI := zpa hi
   clear hw4 hi hL0
   go_wp2
   go_loop [9] (fun i => ∃ k : Nat, k ≤ L0.length /\ i = .int .i64 k /\ (L0.take k).all (V.jh false) = true) (fun i => L0.length - (intOf i).toNat)
   case atStart => exact ⟨0, Nat.zero_le _, rfl, rfl⟩
   case round =>
    obtain ⟨k, hk, rfl, hp⟩ := hrel
    have HQ := zpa hp
    clear hp
    by_cases hlt : k < L0.length
    ·have hc := hcs.out k hlt
     have hsz : L0[k].length ≤ bu.length := hmem.out _ (List.getElem_mem hlt)
     have HT := zpa (za0 (p := V.jh false) hlt)
     rcases hpk : V.only (V.kind [45]) L0[k] with _ | _
     all_goals
      have HPK := zpa hpk
      clear hpk
      go_wp2_with fail
      refine (xl ⟨L0[k].toArray⟩ ⟨#[45]⟩ _ (by show L0[k].length ≤ _; unfold maxLen; omega)).mono ?_
      rintro e w' ⟨rfl, rfl⟩
      simp only [HPK.out]
      go_wp2
     ·go_ret3
      have HN : Hid (V.zl s.data.toList = none) := zpa (by
        rw [HP.out, HI.out, zjl (k := k) hlt (by rw [zbr]; exact HPK.out)]; rfl)
      rw [HN.out]
      exact ⟨HB4.out, rfl⟩
     ·go_round
      case rel => exact ⟨k + 1, by omega, by go_num, by rw [HT.out, HQ.out, zbr]; exact HPK.out⟩
      case measure => simp [intOf]; omega
    ·have ht : L0.take k = L0 := List.take_of_length_le (by omega)
     rw [ht] at HQ
     clear ht
     go_wp2
     go_meet
     exact ⟨HB4.out, fun _ => by rw [HI.out]; exact HQ.out⟩
 case rest =>
  obtain ⟨hb2, hids⟩ := hcut
  have HB2 := zpa hb2
  have HIDS := zpa hids
  clear hb2 hids HB1
  obtain ⟨wo, rfl⟩ : ∃ wo : World, wo = wc := ⟨_, rfl⟩
  go_wp2_with fail
  refine (vz ⟨v1.toArray⟩ 45 _ (HM.out.below HB2.out) (by show v1.length < _; omega)).mono ?_
  rintro e w3 ⟨rfl, hb3⟩
  simp only [HX2.out]
  have HB3 := zpb HB2 hb3
  clear hb3
  go_upto_if 43 with (fail)
  go_cut [13] (fun v wx => ∃ ids : List V.Bs, Strs wx v ids /\ Below w.heap.size w wx /\ ids = (if E then V.zo 46 pr else []) /\ (E = true -> V.identifiers pr true = true))
  case first =>
   cases E with
   | false =>
    go_wp2
    go_meet
    exact ⟨[], Strs.nil _, HB3.out, rfl, fun e => by cases e⟩
   | true =>
    go_wp2_with fail
    refine (jm ⟨pr.toArray⟩ 46 _ (HM.out.below HB3.out) (by show pr.length < _; omega)).mono ?_
    rintro e w4 ⟨rfl, hw4⟩
    simp only  at hw4 ⊢
    have hi : V.identifiers pr true = (V.zo 46 pr).all (V.jh true) := rfl
    have hle := qy 46 pr
    have hmem := zpa (ji 46 pr)
    obtain ⟨L0, hL0⟩ : ∃ L0, V.zo 46 pr = L0 := ⟨_, rfl⟩
    rw [hL0] at hw4 hi hle hmem ⊢
    have hcs := zpa (kx hw4)
    have HB4 : Hid (Below w.heap.size w w4) := zpa (by rw [hw4]; exact HB3.out.alloc HB3.out.size _)
    have HS4 : Hid (Strs w4 (.slice (some ⟨w3.heap.size, 0, none⟩) L0.length L0.length) L0) := zpa (by rw [hw4]; exact Strs.split w3 L0 _)
    have HI := zpa hi
    have HL0 := zpa hL0
    clear hw4 hi hL0
    go_wp2
    go_loop [14] (fun i => ∃ k : Nat, k ≤ L0.length /\ i = .int .i64 k /\ (L0.take k).all (V.jh true) = true) (fun i => L0.length - (intOf i).toNat)
    case atStart => exact ⟨0, Nat.zero_le _, rfl, rfl⟩
    case round =>
     obtain ⟨k, hk, rfl, hp⟩ := hrel
     have HQ := zpa hp
     clear hp
     by_cases hlt : k < L0.length
     ·have hc := hcs.out k hlt
      have hsz : L0[k].length ≤ pr.length := hmem.out _ (List.getElem_mem hlt)
      have HT := zpa (za0 (p := V.jh true) hlt)
      have HK : Hid (V.jh true L0[k] = (V.only (V.kind [45]) L0[k] && !(V.digits L0[k] && !V.numb L0[k] true))) := rfl
      rcases hpk : V.only (V.kind [45]) L0[k] with _ | _
      ·have HPK := zpa hpk
       rw [hpk] at HK
       clear hpk
       go_wp2_with fail
       refine (xl ⟨L0[k].toArray⟩ ⟨#[45]⟩ _ (by show L0[k].length ≤ _; unfold maxLen; omega)).mono ?_
       rintro e w' ⟨rfl, rfl⟩
       simp only [HPK.out]
       go_wp2
       exact zq7
      ·have HPK := zpa hpk
       rcases hdk : V.digits L0[k] with _ | _
       ·have HDK := zpa hdk
        rw [hpk, hdk] at HK
        clear hpk hdk
        go_wp2_with fail
        refine (xl ⟨L0[k].toArray⟩ ⟨#[45]⟩ _ (by show L0[k].length ≤ _; unfold maxLen; omega)).mono ?_
        rintro e w' ⟨rfl, rfl⟩
        simp only [HPK.out]
        go_wp2_with fail
        refine (zz ⟨L0[k].toArray⟩ _ (by show L0[k].length ≤ _; unfold maxLen; omega)).mono ?_
        rintro e w' ⟨rfl, rfl⟩
        simp only [HDK.out]
        go_wp2
        exact zrx
       ·have HDK := zpa hdk
        rcases hnk : V.numb L0[k] true with _ | _
        all_goals
         have HNK := zpa hnk
         rw [hpk, hdk, hnk] at HK
         clear hpk hdk hnk
         go_wp2_with fail
         refine (xl ⟨L0[k].toArray⟩ ⟨#[45]⟩ _ (by show L0[k].length ≤ _; unfold maxLen; omega)).mono ?_
         rintro e w' ⟨rfl, rfl⟩
         simp only [HPK.out]
         go_wp2_with fail
         refine (zz ⟨L0[k].toArray⟩ _ (by show L0[k].length ≤ _; unfold maxLen; omega)).mono ?_
         rintro e w' ⟨rfl, rfl⟩
         simp only [HDK.out]
         go_wp2_with fail
         refine (jy ⟨L0[k].toArray⟩ _ (by show L0[k].length ≤ _; unfold maxLen; omega)).mono ?_
         rintro e w' ⟨rfl, rfl⟩
         simp only [HNK.out]
         go_wp2
        ·exact zq7
        ·exact zrx
     ·have ht : L0.take k = L0 := List.take_of_length_le (by omega)
      rw [ht] at HQ
      clear ht
      go_wp2
      go_meet
      exact ⟨L0, HS4.out, HB4.out, by rw [HL0.out]; simp, fun _ => by rw [HI.out]; exact HQ.out⟩
  case rest =>
   obtain ⟨ids, hst, hb5, hids, hid2⟩ := hcut
   have HST := zpa hst
   have HB5 := zpa hb5
   have HIDL := zpa hids
   have HID2 := zpa hid2
   clear hst hb5 hids hid2 HB3
   go_wp2_with fail
   refine (jm ⟨v2.toArray⟩ 46 _ (HM.out.below HB5.out) (by show v2.length < _; omega)).mono ?_
   rintro e w6 ⟨rfl, hw6⟩
   simp only [HL.out] at hw6 ⊢
   have hcs := zpa (kx hw6)
   have HB6 : Hid (Below w.heap.size w w6) := zpa (by rw [hw6]; exact HB5.out.alloc HB5.out.size _)
   have HS6 : Hid (Strs w6 u13 ids) := zpa (HST.out.below (by rw [hw6]; exact (zpd _ _).alloc (zpc _) _))
   have HSL : Hid (Strs w6 (.slice (some ⟨wc.heap.size, 0, none⟩) L.length L.length) L) := zpa (by rw [hw6]; exact Strs.split wc L _)
   have HQ : Hid (V.zl s.data.toList = if L.length != 3 then none else if L.all (fun x => V.numb x true) then some (L, ids) else none) := zpa (by
     rw [HP.out, HIDL.out]
     have e1 : (B && !V.identifiers bu false) = false := by
       cases B with
       | false => rfl
       | true => rw [HIDS.out rfl]; rfl
     have e2 : (E && !V.identifiers pr true) = false := by
       cases E with
       | false => rfl
       | true => rw [HID2.out rfl]; rfl
     rw [e1, e2]; rfl)
   clear hw6
   by_cases hlen : L.length = 3
   ·obtain ⟨x, y, z, rfl⟩ : ∃ x y z, L = [x, y, z] := by
     match L, hlen with
     | [x, y, z], _ => exact ⟨x, y, z, rfl⟩
    have cx : w6.cell? ⟨wc.heap.size, 0, none⟩ = some (.string ⟨x.toArray⟩) := hcs.out 0 (by simp)
    have cy : w6.cell? ⟨wc.heap.size, 1, none⟩ = some (.string ⟨y.toArray⟩) := hcs.out 1 (by simp)
    have cz : w6.cell? ⟨wc.heap.size, 2, none⟩ = some (.string ⟨z.toArray⟩) := hcs.out 2 (by simp)
    have lx := hl4.out x (by simp)
    have ly := hl4.out y (by simp)
    have lz := hl4.out z (by simp)
    simp only [List.length_cons, List.length_nil, Nat.reduceAdd] at HSL ⊢
    rcases hx : V.numb x true with _ | _
    ·have HX := zpa hx
     clear hx
     go_wp2_with fail
     refine (jy ⟨x.toArray⟩ _ (by show x.length ≤ _; unfold maxLen; omega)).mono ?_
     rintro e w' ⟨rfl, rfl⟩
     simp only [HX.out]
     go_wp2
     go_ret3
     have HN : Hid (V.zl s.data.toList = none) := zpa (by rw [HQ.out]; simp [HX.out])
     rw [HN.out]
     exact ⟨HB6.out, rfl⟩
    ·have HX := zpa hx
     rcases hy : V.numb y true with _ | _
     ·have HY := zpa hy
      clear hx hy
      go_wp2_with fail
      refine (jy ⟨x.toArray⟩ _ (by show x.length ≤ _; unfold maxLen; omega)).mono ?_
      rintro e w' ⟨rfl, rfl⟩
      simp only [HX.out]
      go_wp2_with fail
      refine (jy ⟨y.toArray⟩ _ (by show y.length ≤ _; unfold maxLen; omega)).mono ?_
      rintro e w' ⟨rfl, rfl⟩
      simp only [HY.out]
      go_wp2
      go_ret3
      have HN : Hid (V.zl s.data.toList = none) := zpa (by rw [HQ.out]; simp [HX.out, HY.out])
      rw [HN.out]
      exact ⟨HB6.out, rfl⟩
     ·have HY := zpa hy
      rcases hz : V.numb z true with _ | _
      all_goals
       have HZ := zpa hz
       clear hx hy hz
       go_wp2_with fail
       refine (jy ⟨x.toArray⟩ _ (by show x.length ≤ _; unfold maxLen; omega)).mono ?_
       rintro e w' ⟨rfl, rfl⟩
       simp only [HX.out]
       go_wp2_with fail
       refine (jy ⟨y.toArray⟩ _ (by show y.length ≤ _; unfold maxLen; omega)).mono ?_
       rintro e w' ⟨rfl, rfl⟩
       simp only [HY.out]
       go_wp2_with fail
       refine (jy ⟨z.toArray⟩ _ (by show z.length ≤ _; unfold maxLen; omega)).mono ?_
       rintro e w' ⟨rfl, rfl⟩
       simp only [HZ.out]
       go_wp2
       go_ret3
      ·have HN : Hid (V.zl s.data.toList = none) := zpa (by rw [HQ.out]; simp [HX.out, HY.out, HZ.out])
       rw [HN.out]
       exact ⟨HB6.out, rfl⟩
      ·have HN : Hid (V.zl s.data.toList = some ([x, y, z], ids)) := zpa (by rw [HQ.out]; simp [HX.out, HY.out, HZ.out])
       rw [HN.out]
       exact ⟨HB6.out, _, _, rfl, HSL.out, HS6.out⟩
   ·have hle : ((L.length : Int) != 3) = true := by simp; omega
    have HN : Hid (V.zl s.data.toList = none) := zpa (by rw [HQ.out]; simp [hlen])
    go_wp2
    go_ret3
    rw [HN.out]
    exact ⟨HB6.out, rfl⟩
def jx (e : V.Bs) : V.Bs := if e = [] then [48] else e
def RDeb (r : Option (V.Bs × V.Bs × V.Bs)) (w : World) (e : Ending) (w' : World) : Prop :=
 Below w.heap.size w w' /\ match r with
 | none => e = .returned (.tuple #[.slice none 0 0, .bool false])
 | some (E, U, R) => ∃ v, e = .returned (.tuple #[v, .bool true]) /\ Strs w' v [jx E, U, R]
theorem Strs.three (w : World) (x y z : V.Bs) (t : Nat) : Strs (w.alloc (.cells #[.string ⟨x.toArray⟩, .string ⟨y.toArray⟩, .string ⟨z.toArray⟩] t)) (.slice (some ⟨w.heap.size, 0, none⟩) 3 3) [x, y, z] :=
 Strs.split w [x, y, z] t
theorem zax (s : ByteArray) (w : World) (hm : zm w) (hs : s.size ≤ 1000) :
  Calls Tryz.prog 89 #[.string s] w (RDeb (V.zq s.data.toList) w) := by
 obtain ⟨ep, re, H, hx1⟩ : ∃ a b c, V.cut1 58 s.data.toList = (a, b, c) := ⟨_, _, _, rfl⟩
 have HP : Hid (V.zq s.data.toList = if H then if V.numb ep false then V.qs ep re else none else V.qs [] s.data.toList) := zpa (by
   unfold V.zq; rw [hx1])
 have hl1 : ep.length ≤ s.size /\ re.length ≤ s.size := by
  have := km 58 s.data.toList
  rw [hx1, zi] at this
  exact this
 obtain ⟨hl1, hl2⟩ := hl1
 have HX1 := zpa hx1
 have HM := zpa hm
 clear hx1 hm
 go_enter Tryz.func89, Tryz.ntmps89
 go_wp2_with fail
 refine (vz s 58 _ HM.out (by omega)).mono ?_
 rintro e w1 ⟨rfl, hb1⟩
 simp only [HX1.out]
 have HB1 := zpa hb1
 clear hb1
 go_upto_if 17 with (fail)
 go_cut [4, 5] (fun v4 v5 wx => ∃ (E E0 : V.Bs) (V1 : ByteArray), v4 = .string ⟨E.toArray⟩ /\ v5 = .string V1 /\ E.length ≤ 1000 /\ V1.size ≤ s.size /\ Below w.heap.size w wx /\
   V.zq s.data.toList = (if V.digits E then V.qs E0 V1.data.toList else none) /\ (V.digits E = true -> jx E0 = E))
 case first =>
  cases H with
  | false =>
   go_wp2
   go_meet
   exact ⟨[48], [], s, rfl, rfl, by simp, zpc _, HB1.out, by rw [HP.out]; rfl, fun _ => rfl⟩
  | true =>
   go_wp2
   go_meet
   exact ⟨ep, ep, ⟨re.toArray⟩, rfl, rfl, by omega, hl2, HB1.out, by
     rw [HP.out]
     have : V.numb ep false = V.digits ep := by unfold V.numb; simp
     rw [this]; rfl, fun hd => by
     unfold jx
     rw [if_neg]
     intro e0
     have := zbz hd
     rw [e0] at this
     simp at this⟩
 case rest =>
  obtain ⟨E, E0, V1, rfl, rfl, hel, hsz, hb2, hpar, hep⟩ := hcut
  have HB2 := zpa hb2
  have HPAR := zpa hpar
  have HEP := zpa hep
  clear hb2 hpar hep HP HX1 HB1
  obtain ⟨wo, rfl⟩ : ∃ wo : World, wo = wc := ⟨_, rfl⟩
  go_wp2_with fail
  refine (Tryz.strings_LastIndex_one V1 ⟨#[45]⟩ rfl (by omega) _).mono ?_
  rintro e w3 ⟨rfl, rfl⟩
  have hld : Lib.lastIndexByte V1 (((ByteArray.mk #[45])[0]'(by decide)).toNat : Int) = V.qn V1.data.toList := by unfold V.qn; rw [zg4]; rfl
  rw [hld]
  clear hld
  obtain ⟨ld, hld⟩ : ∃ ld, V.qn V1.data.toList = ld := ⟨_, rfl⟩
  have HLD := zpa hld
  rw [hld]
  clear hld
  have hsplit : (ld < 0) ∨ ∃ i : Nat, ld = i /\ i < V1.size := by
   exact zre
  go_upto_if 23 with (fail)
  go_cut [7, 8] (fun v7 v8 wx => ∃ (U R : V.Bs), v7 = .string ⟨U.toArray⟩ /\ v8 = .string ⟨R.toArray⟩ /\ U.length ≤ s.size /\ Below w.heap.size w wx /\
    V.qs E0 V1.data.toList = if V.only (V.kind [46, 43, 126, 45]) U && V.dig (U.getD 0 0) then some (E0, U, R) else none)
  case first =>
   rcases hsplit with hneg | ⟨i, rfl, hlt⟩
   ·have HN : Hid (V.qn V1.data.toList < 0) := zpa (by rw [HLD.out]; exact hneg)
    go_wp2
    go_meet
    exact ⟨V1.data.toList, [], by rw [zg4], rfl, by rw [zi]; exact hsz, HB2.out, zfs HN.out⟩
   ·have hge : (0 : Int) ≤ (i : Int) := by omega
    have hex0 : V1.extract 0 i = ⟨(V1.data.toList.take i).toArray⟩ := ki (by rw [Lib.extract_data]; simp)
    have hex1 : V1.extract (i + 1) V1.size = ⟨(V1.data.toList.drop (i + 1)).toArray⟩ := ki (by rw [Lib.extract_to_end])
    have HE0 := zpa hex0
    have HE1 := zpa hex1
    have hrl : (V1.data.toList.drop (i + 1)).length ≤ maxLen := by rw [List.length_drop, zi]; unfold maxLen; omega
    have htl : (V1.data.toList.take i).length ≤ s.size := by rw [List.length_take, zi]; omega
    have HRL := zpa hrl
    have HTL := zpa htl
    clear hex0 hex1 hrl htl
    rcases hk : V.only (V.kind V.allow) (V1.data.toList.drop (i + 1)) with _ | _
    all_goals
     have HK := zpa hk
     clear hk
     go_wp2
     go_region
     go_wp2_with fail
     rw [HE1.out]
     refine (xl ⟨(V1.data.toList.drop (i + 1)).toArray⟩ ⟨#[46, 43, 126]⟩ _ HRL.out).mono ?_
     rintro e w' ⟨rfl, rfl⟩
     have hkk : V.only (V.kind (ByteArray.mk #[46, 43, 126]).data.toList) (ByteArray.mk (V1.data.toList.drop (i + 1)).toArray).data.toList = V.only (V.kind V.allow) (V1.data.toList.drop (i + 1)) := rfl
     rw [hkk, HK.out]
     go_wp2
    ·go_ret2
     have HN : Hid (V.zq s.data.toList = none) := zpa (by rw [HPAR.out, zd1 HLD.out HK.out]; simp)
     rw [HN.out]
     exact ⟨HB2.out.drew, rfl⟩
    ·go_meet
     exact ⟨V1.data.toList.take i, V1.data.toList.drop (i + 1), by rw [HE0.out], rfl, HTL.out, HB2.out.drew, zdy HLD.out HK.out⟩
  case rest =>
   obtain ⟨U, R, rfl, rfl, hul, hb5, htail⟩ := hcut
   have HB5 := zpa hb5
   have HT := zpa htail
   clear hb5 htail HLD HB2
   rcases hd : V.digits E with _ | _
   ·have HD := zpa hd
    have HN : Hid (V.zq s.data.toList = none) := zpa (by rw [HPAR.out, hd]; rfl)
    clear hd
    go_wp2_with fail
    refine (zz ⟨E.toArray⟩ _ (by show E.length ≤ _; unfold maxLen; omega)).mono ?_
    rintro e w' ⟨rfl, rfl⟩
    simp only [HD.out]
    go_wp2
    go_ret2
    rw [HN.out]
    exact ⟨HB5.out, rfl⟩
   ·have HD := zpa hd
    have HE := zpa (HEP.out hd)
    rcases hk : V.only (V.kind [46, 43, 126, 45]) U with _ | _
    ·have HK := zpa hk
     have HN : Hid (V.zq s.data.toList = none) := zpa (by rw [HPAR.out, hd, if_pos rfl, HT.out, hk]; rfl)
     clear hd hk
     go_wp2_with fail
     refine (zz ⟨E.toArray⟩ _ (by show E.length ≤ _; unfold maxLen; omega)).mono ?_
     rintro e w' ⟨rfl, rfl⟩
     simp only [HD.out]
     go_wp2_with fail
     refine (xl ⟨U.toArray⟩ ⟨#[46, 43, 126, 45]⟩ _ (by show U.length ≤ _; unfold maxLen; omega)).mono ?_
     rintro e w' ⟨rfl, rfl⟩
     simp only [HK.out]
     go_wp2
     go_ret2
     rw [HN.out]
     exact ⟨HB5.out, rfl⟩
    ·have HK := zpa hk
     obtain ⟨u0, ur, rfl⟩ : ∃ u0 ur, U = u0 :: ur := by
      cases U with
      | nil => simp [V.only] at hk
      | cons u0 ur => exact ⟨u0, ur, rfl⟩
     have hu0 : (ByteArray.mk (u0 :: ur).toArray).size = ur.length + 1 := by simp [ByteArray.size]
     rcases hg : V.digB u0.toNat with _ | _
     all_goals
      have HG := zpa hg
      go_wp2_with fail
      refine (zz ⟨E.toArray⟩ _ (by show E.length ≤ _; unfold maxLen; omega)).mono ?_
      rintro e w' ⟨rfl, rfl⟩
      simp only [HD.out]
      go_wp2_with fail
      refine (xl ⟨(u0 :: ur).toArray⟩ ⟨#[46, 43, 126, 45]⟩ _ (by rw [hu0]; unfold maxLen; simp at hul; omega)).mono ?_
      rintro e w' ⟨rfl, rfl⟩
      simp only [HK.out]
      go_wp2_with fail
      refine (ui _ _).mono ?_
      rintro e w' ⟨rfl, rfl⟩
      rw [show V.digB (((ByteArray.mk (u0 :: ur).toArray)[0]'(by rw [hu0]; omega)).toNat : Int) = V.digB u0.toNat from rfl, HG.out]
      go_wp2
      go_ret2
     ·have HN : Hid (V.zq s.data.toList = none) := zpa (by
        rw [HPAR.out, hd, if_pos rfl, HT.out, hk, show V.dig ((u0 :: ur).getD 0 0) = V.digB u0.toNat from rfl, hg]; rfl)
      rw [HN.out]
      exact ⟨HB5.out, rfl⟩
     ·have HN : Hid (V.zq s.data.toList = some (E0, u0 :: ur, R)) := zpa (by
        rw [HPAR.out, hd, if_pos rfl, HT.out, hk, show V.dig ((u0 :: ur).getD 0 0) = V.digB u0.toNat from rfl, hg]; rfl)
      rw [HN.out]
      refine ⟨HB5.out.alloc HB5.out.size _, _, rfl, ?_⟩
      rw [HE.out]
      exact Strs.three _ _ _ _ _
end Go.Proofs.YtbikeahmldobkaaGreatDoor
