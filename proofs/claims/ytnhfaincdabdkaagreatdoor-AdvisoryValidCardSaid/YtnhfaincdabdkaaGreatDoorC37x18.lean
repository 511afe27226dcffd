/-
  Lemmas for the law.
-/
import Derived.Test.YtnhfaincdabdkaaGreatDoorC37x17
import Derived.Test.YtnhfaincdabdkaaGreatDoorC37x14
import Derived.Test.YtnhfaincdabdkaaGreatDoorC37x13
import Derived.Test.YtnhfaincdabdkaaGreatDoorC37x15
import Derived.Deep.DeepCutAuto
import Derived.BigRegion
import Derived.OwnWalk
import Derived.StillTailTactics
set_option linter.all false
set_option maxRecDepth 100000
set_option maxHeartbeats 3200000
namespace Go.Proofs.YtnhfaincdabdkaaGreatDoor
open Go.RowKit
def kz (e : V.Bs) : V.Bs := if e = [] then [48] else e
def RDeb (r : Option (V.Bs × V.Bs × V.Bs)) (w : World) (e : Ending) (w' : World) : Prop :=
 Below w.heap.size w w' /\ match r with
 | none => e = .returned (.tuple #[.slice none 0 0, .bool false])
 | some (E, U, R) => ∃ v, e = .returned (.tuple #[v, .bool true]) /\ Strs w' v [kz E, U, R]
theorem Strs.three (w : World) (x y z : V.Bs) (t : Nat) : Strs (w.alloc (.cells #[.string ⟨x.toArray⟩, .string ⟨y.toArray⟩, .string ⟨z.toArray⟩] t)) (.slice (some ⟨w.heap.size, 0, none⟩) 3 3) [x, y, z] :=
 Strs.split w [x, y, z] t
theorem zcl (s : ByteArray) (w : World) (hm : zk w) (hs : s.size ≤ 1000) :
  Calls Tryz.prog 157 #[.string s] w (RDeb (V.zn s.data.toList) w) := by
 obtain ⟨ep, re, H, hx1⟩ : ∃ a b c, V.cut1 58 s.data.toList = (a, b, c) := ⟨_, _, _, rfl⟩
 have HP : Hid (V.zn s.data.toList = if H then if V.numb ep false then V.ja ep re else none else V.ja [] s.data.toList) := zs8 (by
   unfold V.zn; rw [hx1])
 have hl1 : ep.length ≤ s.size /\ re.length ≤ s.size := by
  have := xz 58 s.data.toList
  rw [hx1, zf] at this
  exact this
 obtain ⟨hl1, hl2⟩ := hl1
 have HX1 := zs8 hx1
 have HM := zs8 hm
 clear hx1 hm
 go_enter Tryz.func157, Tryz.ntmps157
 go_wp2_with fail
 refine (zbl s 58 _ HM.out (by omega)).mono ?_
 rintro e w1 ⟨rfl, hb1⟩
 simp only [HX1.out]
 have HB1 := zs8 hb1
 clear hb1
 go_upto_if 17 with (fail)
 go_cut [4, 5] (fun v4 v5 wx => ∃ (E E0 : V.Bs) (V1 : ByteArray), v4 = .string ⟨E.toArray⟩ /\ v5 = .string V1 /\ E.length ≤ 1000 /\ V1.size ≤ s.size /\ Below w.heap.size w wx /\
   V.zn s.data.toList = (if V.digits E then V.ja E0 V1.data.toList else none) /\ (V.digits E = true -> kz E0 = E))
 case first =>
  cases H with
  | false =>
   go_wp2
   go_meet
   exact ⟨[48], [], s, rfl, rfl, by simp, zta _, HB1.out, by rw [HP.out]; rfl, fun _ => rfl⟩
  | true =>
   go_wp2
   go_meet
   exact ⟨ep, ep, ⟨re.toArray⟩, rfl, rfl, by omega, hl2, HB1.out, by
     rw [HP.out]
     have : V.numb ep false = V.digits ep := by unfold V.numb; simp
     rw [this]; rfl, fun hd => by
     unfold kz
     rw [if_neg]
     intro e0
     have := zdr hd
     rw [e0] at this
     simp at this⟩
 case rest =>
  obtain ⟨E, E0, V1, rfl, rfl, hel, hsz, hb2, hpar, hep⟩ := hcut
  have HB2 := zs8 hb2
  have HPAR := zs8 hpar
  have HEP := zs8 hep
  clear hb2 hpar hep HP HX1 HB1
  obtain ⟨wo, rfl⟩ : ∃ wo : World, wo = wc := ⟨_, rfl⟩
  go_wp2_with fail
  refine (Tryz.strings_LastIndex_one V1 ⟨#[45]⟩ rfl (by omega) _).mono ?_
  rintro e w3 ⟨rfl, rfl⟩
  have hld : Lib.lastIndexByte V1 (((ByteArray.mk #[45])[0]'(by decide)).toNat : Int) = V.qt V1.data.toList := by unfold V.qt; rw [zg1]; rfl
  rw [hld]
  clear hld
  obtain ⟨ld, hld⟩ : ∃ ld, V.qt V1.data.toList = ld := ⟨_, rfl⟩
  have HLD := zs8 hld
  rw [hld]
  clear hld
  have hsplit : (ld < 0) ∨ ∃ i : Nat, ld = i /\ i < V1.size := by
   exact zwa
  go_upto_if 23 with (fail)
  go_cut [7, 8] (fun v7 v8 wx => ∃ (U R : V.Bs), v7 = .string ⟨U.toArray⟩ /\ v8 = .string ⟨R.toArray⟩ /\ U.length ≤ s.size /\ Below w.heap.size w wx /\
    V.ja E0 V1.data.toList = if V.only (V.kind [46, 43, 126, 45]) U && V.dig (U.getD 0 0) then some (E0, U, R) else none)
  case first =>
   rcases hsplit with hneg | ⟨i, rfl, hlt⟩
   ·have HN : Hid (V.qt V1.data.toList < 0) := zs8 (by rw [HLD.out]; exact hneg)
    go_wp2
    go_meet
    exact ⟨V1.data.toList, [], by rw [zg1], rfl, by rw [zf]; exact hsz, HB2.out, zh8 HN.out⟩
   ·have hge : (0 : Int) ≤ (i : Int) := by omega
    have hex0 : V1.extract 0 i = ⟨(V1.data.toList.take i).toArray⟩ := jr (by rw [Lib.extract_data]; simp)
    have hex1 : V1.extract (i + 1) V1.size = ⟨(V1.data.toList.drop (i + 1)).toArray⟩ := jr (by rw [Lib.extract_to_end])
    have HE0 := zs8 hex0
    have HE1 := zs8 hex1
    have hrl : (V1.data.toList.drop (i + 1)).length ≤ maxLen := by rw [List.length_drop, zf]; unfold maxLen; omega
    have htl : (V1.data.toList.take i).length ≤ s.size := by rw [List.length_take, zf]; omega
    have HRL := zs8 hrl
    have HTL := zs8 htl
    clear hex0 hex1 hrl htl
    rcases hk : V.only (V.kind V.allow) (V1.data.toList.drop (i + 1)) with _ | _
    all_goals
     have HK := zs8 hk
     clear hk
     go_wp2
     go_region
     go_wp2_with fail
     rw [HE1.out]
     refine (ut ⟨(V1.data.toList.drop (i + 1)).toArray⟩ ⟨#[46, 43, 126]⟩ _ HRL.out).mono ?_
     rintro e w' ⟨rfl, rfl⟩
     have hkk : V.only (V.kind (ByteArray.mk #[46, 43, 126]).data.toList) (ByteArray.mk (V1.data.toList.drop (i + 1)).toArray).data.toList = V.only (V.kind V.allow) (V1.data.toList.drop (i + 1)) := rfl
     rw [hkk, HK.out]
     go_wp2
    ·go_ret2
     have HN : Hid (V.zn s.data.toList = none) := zs8 (by rw [HPAR.out, zf8 HLD.out HK.out]; simp)
     rw [HN.out]
     exact ⟨HB2.out.drew, rfl⟩
    ·go_meet
     exact ⟨V1.data.toList.take i, V1.data.toList.drop (i + 1), by rw [HE0.out], rfl, HTL.out, HB2.out.drew, zf7 HLD.out HK.out⟩
  case rest =>
   obtain ⟨U, R, rfl, rfl, hul, hb5, htail⟩ := hcut
   have HB5 := zs8 hb5
   have HT := zs8 htail
   clear hb5 htail HLD HB2
   rcases hd : V.digits E with _ | _
   ·have HD := zs8 hd
    have HN : Hid (V.zn s.data.toList = none) := zs8 (by rw [HPAR.out, hd]; rfl)
    clear hd
    go_wp2_with fail
    refine (qd ⟨E.toArray⟩ _ (by show E.length ≤ _; unfold maxLen; omega)).mono ?_
    rintro e w' ⟨rfl, rfl⟩
    simp only [HD.out]
    go_wp2
    go_ret2
    rw [HN.out]
    exact ⟨HB5.out, rfl⟩
   ·have HD := zs8 hd
    have HE := zs8 (HEP.out hd)
    rcases hk : V.only (V.kind [46, 43, 126, 45]) U with _ | _
    ·have HK := zs8 hk
     have HN : Hid (V.zn s.data.toList = none) := zs8 (by rw [HPAR.out, hd, if_pos rfl, HT.out, hk]; rfl)
     clear hd hk
     go_wp2_with fail
     refine (qd ⟨E.toArray⟩ _ (by show E.length ≤ _; unfold maxLen; omega)).mono ?_
     rintro e w' ⟨rfl, rfl⟩
     simp only [HD.out]
     go_wp2_with fail
     refine (ut ⟨U.toArray⟩ ⟨#[46, 43, 126, 45]⟩ _ (by show U.length ≤ _; unfold maxLen; omega)).mono ?_
     rintro e w' ⟨rfl, rfl⟩
     simp only [HK.out]
     go_wp2
     go_ret2
     rw [HN.out]
     exact ⟨HB5.out, rfl⟩
    ·have HK := zs8 hk
     obtain ⟨u0, ur, rfl⟩ : ∃ u0 ur, U = u0 :: ur := by
      cases U with
      | nil => simp [V.only] at hk
      | cons u0 ur => exact ⟨u0, ur, rfl⟩
     have hu0 : (ByteArray.mk (u0 :: ur).toArray).size = ur.length + 1 := by simp [ByteArray.size]
     rcases hg : V.digB u0.toNat with _ | _
     all_goals
      have HG := zs8 hg
      go_wp2_with fail
      refine (qd ⟨E.toArray⟩ _ (by show E.length ≤ _; unfold maxLen; omega)).mono ?_
      rintro e w' ⟨rfl, rfl⟩
      simp only [HD.out]
      go_wp2_with fail
      refine (ut ⟨(u0 :: ur).toArray⟩ ⟨#[46, 43, 126, 45]⟩ _ (by rw [hu0]; unfold maxLen; simp at hul; omega)).mono ?_
      rintro e w' ⟨rfl, rfl⟩
      simp only [HK.out]
      go_wp2_with fail
      refine (zao _ _).mono ?_
      rintro e w' ⟨rfl, rfl⟩
      rw [show V.digB (((ByteArray.mk (u0 :: ur).toArray)[0]'(by rw [hu0]; omega)).toNat : Int) = V.digB u0.toNat from rfl, HG.out]
      go_wp2
      go_ret2
     ·have HN : Hid (V.zn s.data.toList = none) := zs8 (by
        rw [HPAR.out, hd, if_pos rfl, HT.out, hk, show V.dig ((u0 :: ur).getD 0 0) = V.digB u0.toNat from rfl, hg]; rfl)
      rw [HN.out]
      exact ⟨HB5.out, rfl⟩
     ·have HN : Hid (V.zn s.data.toList = some (E0, u0 :: ur, R)) := zs8 (by
        rw [HPAR.out, hd, if_pos rfl, HT.out, hk, show V.dig ((u0 :: ur).getD 0 0) = V.digB u0.toNat from rfl, hg]; rfl)
      rw [HN.out]
      refine ⟨HB5.out.alloc HB5.out.size _, _, rfl, ?_⟩
      rw [HE.out]
      exact Strs.three _ _ _ _ _
theorem zjn {r : Option (V.Bs × V.Bs × V.Bs)} {E U R : V.Bs} {w : World} {e : Ending} {w' : World} (h : RDeb r w e w') (hr : r = some (E, U, R)) :
  ∃ b off cap, e = .returned (.tuple #[.slice (some ⟨b, off, none⟩) 3 cap, .bool true]) /\ b < w'.heap.size /\ w'.cell? ⟨b, off, none⟩ = some (.string ⟨(kz E).toArray⟩) /\
   w'.cell? ⟨b, off + 1, none⟩ = some (.string ⟨U.toArray⟩) /\ w'.cell? ⟨b, off + 2, none⟩ = some (.string ⟨R.toArray⟩) /\ Below w.heap.size w w' := by
 subst hr
 obtain ⟨hb, v, rfl, hs⟩ := h
 obtain ⟨b, off, cap, rfl, hlt, hc⟩ := hs.head (by simp)
 exact ⟨b, off, cap, rfl, hlt, hc 0 (by simp), hc 1 (by simp), hc 2 (by simp), hb⟩
theorem zfz (e : V.Bs) : V.value (kz e) = V.value e := by
 unfold kz
 split
 ·rename_i h; subst h; rfl
 ·rfl
theorem zcd (x y : V.Bs) (w : World) (hx : x.length ≤ 1000) (hy : y.length ≤ 1000) :
  Calls Tryz.prog 189 #[.string ⟨x.toArray⟩, .string ⟨y.toArray⟩] w fun e w' => e = .returned (.int .i64 (V.numbers x y)) /\ w' = w := by
 have h := zdo ⟨x.toArray⟩ ⟨y.toArray⟩ w (by show x.length ≤ _; unfold maxLen; omega) (by show y.length ≤ _; unfold maxLen; omega)
 simp only  at h
 exact h.mono fun _ _ h => ⟨h.1, h.2.symm⟩
theorem zje (s t : ByteArray) (x0 x1 x2 y0 y1 y2 : V.Bs) (w : World) (hm : zk w) (hs : s.size ≤ 64) (ht : t.size ≤ 64)
  (hp : V.zn s.data.toList = some (x0, x1, x2)) (hq : V.zn t.data.toList = some (y0, y1, y2)) :
  Calls Tryz.prog 160 #[.string s, .string t] w fun e w' => e = .returned (.int .i64 (V.yx (x0, x1, x2) (y0, y1, y2))) /\ Below w.heap.size w w' := by
 have fa := V.ue hp
 have fb := V.ue hq
 rw [zf] at fa fb
 have ga := V.zcc hp
 have gb := V.zcc hq
 obtain ⟨fa0, fa1, fa2⟩ := fa
 obtain ⟨fb0, fb1, fb2⟩ := fb
 simp only at fa0 fa1 fa2 fb0 fb1 fb2
 have GA := zs8 ga
 have GB := zs8 gb
 have hex : (kz x0).length ≤ 65 := by unfold kz; split <;> (try simp) <;> omega
 have hey : (kz y0).length ≤ 65 := by unfold kz; split <;> (try simp) <;> omega
 have HF : Hid (V.yx (x0, x1, x2) (y0, y1, y2) = V.cor (V.numbers (kz x0) (kz y0)) (V.cor (V.qc x1 y1) (V.qc x2 y2))) := zs8 (by
   unfold V.yx
   rw [V.zjg (zfz x0) (zfz y0)]
   simp only [V.orI, V.zc1])
 obtain ⟨ex, hex'⟩ : ∃ x, kz x0 = x := ⟨_, rfl⟩
 obtain ⟨ey, hey'⟩ : ∃ x, kz y0 = x := ⟨_, rfl⟩
 rw [hex'] at hex HF
 rw [hey'] at hey HF
 have HEX := zs8 hex'
 have HEY := zs8 hey'
 have HP := zs8 hp
 have HQ := zs8 hq
 have HM := zs8 hm
 clear hp hq hm ga gb hex' hey'
 go_enter Tryz.func160, Tryz.ntmps160
 go_wp2_with fail
 refine (zcl s _ HM.out (by omega)).mono ?_
 rintro e w1 h
 obtain ⟨b, off, cap, rfl, hlt, c0, c1, c2, hb1⟩ := zjn h HP.out
 rw [HEX.out] at c0
 have hm1 := HM.out.below hb1
 have HB1 := zs8 hb1
 clear h hb1
 go_wp2_with fail
 refine (zcl t _ hm1 (by omega)).mono ?_
 rintro e w2 h
 obtain ⟨b', off', cap', rfl, hlt', d0, d1, d2, hb2⟩ := zjn h HQ.out
 rw [HEY.out] at d0
 have e0 := (hb2.cell (p := ⟨b, off, none⟩) hlt).trans c0
 have e1 := (hb2.cell (p := ⟨b, off + 1, none⟩) hlt).trans c1
 have e2 := (hb2.cell (p := ⟨b, off + 2, none⟩) hlt).trans c2
 have hlt2 : b < w2.heap.size := Nat.lt_of_lt_of_le hlt hb2.size
 have HB2 := zs9 HB1 hb2
 clear h hb2 c0 c1 c2 hlt
 go_wp2_with fail
 go_quiet ((go_at_call 189; exact Calls.quiet_of_same (zcd ex ey _ (by omega) (by omega))))
 rename_i nq
 have f1 : (w2.drewN nq).cell? ⟨b, off + 1, none⟩ = some (.string ⟨x1.toArray⟩) := by rw [World.cell?_drewN]; exact e1
 have f2 : (w2.drewN nq).cell? ⟨b, off + 2, none⟩ = some (.string ⟨x2.toArray⟩) := by rw [World.cell?_drewN]; exact e2
 have g1 : (w2.drewN nq).cell? ⟨b', off' + 1, none⟩ = some (.string ⟨y1.toArray⟩) := by rw [World.cell?_drewN]; exact d1
 have g2 : (w2.drewN nq).cell? ⟨b', off' + 2, none⟩ = some (.string ⟨y2.toArray⟩) := by rw [World.cell?_drewN]; exact d2
 have HBW := zs8 (below_drewN HB2.out nq)
 have lt1 : b < (w2.drewN nq).heap.size := Nat.lt_of_lt_of_le hlt2 (below_drewN (ztb w2.heap.size w2) nq).size
 have lt2 : b' < (w2.drewN nq).heap.size := Nat.lt_of_lt_of_le hlt' (below_drewN (ztb w2.heap.size w2) nq).size
 clear e0 e1 e2 d0 d1 d2 HB2 hlt2 hlt'
 generalize w2.drewN nq = W at *
 by_cases h0 : V.numbers ex ey = 0
 ·have HF2 : Hid (V.yx (x0, x1, x2) (y0, y1, y2) = V.cor (V.qc x1 y1) (V.qc x2 y2)) := zs8 (by rw [HF.out, h0]; rfl)
  rw [h0]
  clear h0
  go_wp2
  go_still_tail 6, (by kernel_rfl)
  change wpList _ _ _ _ _ W.drew
  have k2 : W.drew.cell? ⟨b, off + 2, none⟩ = some (.string ⟨x2.toArray⟩) := by rw [World.cell?_drew]; exact f2
  have l2 : W.drew.cell? ⟨b', off' + 2, none⟩ = some (.string ⟨y2.toArray⟩) := by rw [World.cell?_drew]; exact g2
  have HBV := zs8 HBW.out.drew
  have lt1' : b < W.drew.heap.size := lt1
  have lt2' : b' < W.drew.heap.size := lt2
  clear f1 f2 g1 g2 lt1 lt2 HBW
  generalize W.drew = W2 at *
  go_wp2_with fail
  refine (zoo x1 y1 _ (by omega) (by omega) GA.out.1 GB.out.1).mono ?_
  rintro e w3 ⟨rfl, hb3⟩
  have m2 := (hb3.cell (p := ⟨b, off + 2, none⟩) lt1').trans k2
  have n2 := (hb3.cell (p := ⟨b', off' + 2, none⟩) lt2').trans l2
  have HB3 := zs9 HBV hb3
  clear k2 l2 lt1' lt2' hb3 HBV
  by_cases h0 : V.qc x1 y1 = 0
  ·have HF3 : Hid (V.yx (x0, x1, x2) (y0, y1, y2) = V.qc x2 y2) := zs8 (by rw [HF2.out, h0]; rfl)
   rw [h0]
   clear h0
   go_wp2
   go_still_tail 6, (by kernel_rfl)
   change wpList _ _ _ _ _ w3.drew
   have HBV := zs8 HB3.out.drew
   clear m2 n2 HB3
   generalize w3.drew = W4 at *
   go_wp2_with fail
   refine (zoo x2 y2 _ (by omega) (by omega) GA.out.2 GB.out.2).mono ?_
   rintro e w5 ⟨rfl, hb5⟩
   have HB5 := zs9 HBV hb5
   clear hb5
   go_wp2
   go_ret
   exact ⟨zj HF3.out.symm, HB5.out⟩
  ·have HF3 : Hid (V.yx (x0, x1, x2) (y0, y1, y2) = V.qc x1 y1) := zs8 (by rw [HF2.out, V.js h0])
   have hb : (V.qc x1 y1 != 0) = true := by simpa using h0
   generalize V.qc x1 y1 = c at *
   clear h0
   go_wp2
   go_ret
   exact ⟨zj HF3.out.symm, HB3.out⟩
 ·have HF2 : Hid (V.yx (x0, x1, x2) (y0, y1, y2) = V.numbers ex ey) := zs8 (by rw [HF.out, V.js h0])
  have hb : (V.numbers ex ey != 0) = true := by simpa using h0
  generalize V.numbers ex ey = c at *
  clear h0
  go_wp2
  go_ret
  exact ⟨zj HF2.out.symm, HBW.out⟩
theorem zjk (s : ByteArray) (hs : s.size ≤ 64) : (V.ze 46 s.data.toList).length ≤ 65 /\ ∀ j, ((V.ze 46 s.data.toList).getD j [48]).length ≤ 65 := by
 have h1 := jh 46 s.data.toList
 have h2 := jx 46 s.data.toList
 rw [zf] at h1 h2
 refine ⟨by omega, fun j => ?_⟩
 rw [List.getD_eq_getElem?_getD]
 rcases hk : (V.ze 46 s.data.toList)[j]? with _ | x
 ·simp
 ·have := h2 x (List.mem_of_getElem? hk); simp; omega
theorem zum {P : Prop} (h : P := by
 have HN := zs8 (HNEXT.out h0)
 rw [h0]
 clear h0
 have hk2 := hkm.out
 go_wp2
 go_round
 case rel => exact ⟨k + 1, by omega, by go_num, HN.out⟩
 case measure => simp [intOf]; omega) : P := h
theorem zok (s t : ByteArray) (w : World) (hm : zk w) (hs : s.size ≤ 64) (ht : t.size ≤ 64) :
  Calls Tryz.prog 161 #[.string s, .string t] w fun e w' => e = .returned (.int .i64 (V.zaf s.data.toList t.data.toList)) /\ Below w.heap.size w w' := by
 have HF := zs8 (V.pad_dots s.data.toList t.data.toList)
 have hls := zjk s hs
 have hlt := zjk t ht
 obtain ⟨L, hL⟩ : ∃ L, V.ze 46 s.data.toList = L := ⟨_, rfl⟩
 obtain ⟨M, hM⟩ : ∃ M, V.ze 46 t.data.toList = M := ⟨_, rfl⟩
 rw [hL] at hls HF
 rw [hM] at hlt HF
 obtain ⟨l1, HL1⟩ := hls
 obtain ⟨m1, HM1⟩ := hlt
 have HL1 := zs8 HL1
 have HM1 := zs8 HM1
 have HMX := zs8 hm
 have HL := zs8 hL
 have HM := zs8 hM
 clear hm hL hM
 go_enter Tryz.func161, Tryz.ntmps161
 go_wp2_with fail
 refine (kd s 46 _ HMX.out (by omega)).mono ?_
 rintro e w1 ⟨rfl, hw1⟩
 rw [HL.out] at hw1 ⊢
 have hb1 : Below w.heap.size w w1 := by rw [hw1]; exact (ztb _ _).alloc (zta _) _
 have c1 := yr hw1
 have z1 : w.heap.size < w1.heap.size := by rw [hw1]; simp
 clear hw1
 go_wp2_with fail
 refine (kd t 46 _ (HMX.out.below hb1) (by omega)).mono ?_
 rintro e w2 ⟨rfl, hw2⟩
 rw [HM.out] at hw2 ⊢
 have hb2 : Below w1.heap.size w1 w2 := by rw [hw2]; exact (ztb _ _).alloc (zta _) _
 have HC1 : Hid (∀ (j : Nat) (_ : j < L.length), w2.cell? ⟨w.heap.size, j, none⟩ = some (.string ⟨(L.getD j [48]).toArray⟩)) := zs8 (fun j hj => by
   rw [hb2.cell (p := ⟨w.heap.size, j, none⟩) z1, c1 j hj, List.getD_eq_getElem?_getD, List.getElem?_eq_getElem hj]; rfl)
 have HC2 : Hid (∀ (j : Nat) (_ : j < M.length), w2.cell? ⟨w1.heap.size, j, none⟩ = some (.string ⟨(M.getD j [48]).toArray⟩)) := zs8 (fun j hj => by
   rw [yr hw2 j hj, List.getD_eq_getElem?_getD, List.getElem?_eq_getElem hj]; rfl)
 have HB2 := zs8 (hb1.trans (hb2.mono hb1.size))
 clear hb1 hb2 c1 z1 hw2
 go_wp2
 go_loop [7] (fun i => ∃ k : Nat, k ≤ max L.length M.length /\ i = .int .i64 k /\ ∀ j, j < k -> V.numbers (L.getD j [48]) (M.getD j [48]) = 0) (fun i => max L.length M.length - (intOf i).toNat)
 case atStart => exact ⟨0, Nat.zero_le _, rfl, fun j hj => by omega⟩
 case round =>
  obtain ⟨k, hk, rfl, hz⟩ := hrel
  have HZ := zs8 hz
  clear hz
  by_cases hor : k < L.length ∨ k < M.length
  ·have hsl := HL1.out k
   have hsm := HM1.out k
   have HHIT := zs8 (V.pad_hit k L M HZ.out hor)
   obtain ⟨x, hx⟩ : ∃ x, L.getD k [48] = x := ⟨_, rfl⟩
   obtain ⟨y, hy⟩ : ∃ y, M.getD k [48] = y := ⟨_, rfl⟩
   have HX := zs8 hx
   have HY := zs8 hy
   have hcx := HC1.out k
   have hcy := HC2.out k
   rw [hx] at hsl hcx HHIT
   rw [hy] at hsm hcy HHIT
   have hex : ¬ k < L.length -> x = [48] := fun h => by rw [← hx, List.getD_eq_getElem?_getD, List.getElem?_eq_none (by omega)]; rfl
   have hey : ¬ k < M.length -> y = [48] := fun h => by rw [← hy, List.getD_eq_getElem?_getD, List.getElem?_eq_none (by omega)]; rfl
   have HNEXT : Hid (V.numbers x y = 0 -> ∀ j, j < k + 1 -> V.numbers (L.getD j [48]) (M.getD j [48]) = 0) := zs8 (fun h0 j hj => by
     by_cases e : j = k
     · subst e; rw [HX.out, HY.out]; exact h0
     · exact HZ.out j (by omega))
   have hkm : Hid (k < max L.length M.length) := zs8 (by omega)
   clear hx hy
   have three : (k < L.length /\ k < M.length) ∨ (k < L.length /\ ¬ k < M.length) ∨ (¬ k < L.length /\ k < M.length) := by omega
   clear hor
   rcases three with ⟨a1, a2⟩ | ⟨a1, a2⟩ | ⟨a1, a2⟩
   ·have d1 := hcx a1
    have d2 := hcy a2
    clear hex hey hcx hcy
    go_wp2_with fail
    refine (zcd x y _ (by omega) (by omega)).mono ?_
    rintro e w' ⟨rfl, rfl⟩
    by_cases h0 : V.numbers x y = 0
    ·exact zum
    ·have HR : Hid (V.zaf s.data.toList t.data.toList = V.numbers x y) := zs8 (by rw [← HF.out]; exact HHIT.out h0)
     have hb : (V.numbers x y != 0) = true := by simpa using h0
     generalize V.numbers x y = c at *
     clear h0
     exact zv3
   ·have d1 := hcx a1
    obtain rfl := hey a2
    clear hex hey hcx hcy
    go_wp2_with fail
    refine (zcd x [48] _ (by omega) (by simp)).mono ?_
    rintro e w' ⟨rfl, rfl⟩
    by_cases h0 : V.numbers x [48] = 0
    ·exact zum
    ·have HR : Hid (V.zaf s.data.toList t.data.toList = V.numbers x [48]) := zs8 (by rw [← HF.out]; exact HHIT.out h0)
     have hb : (V.numbers x [48] != 0) = true := by simpa using h0
     generalize V.numbers x [48] = c at *
     clear h0
     exact zv3
   ·have d2 := hcy a2
    obtain rfl := hex a1
    clear hex hey hcx hcy
    go_wp2_with fail
    refine (zcd [48] y _ (by simp) (by omega)).mono ?_
    rintro e w' ⟨rfl, rfl⟩
    by_cases h0 : V.numbers [48] y = 0
    ·exact zum
    ·have HR : Hid (V.zaf s.data.toList t.data.toList = V.numbers [48] y) := zs8 (by rw [← HF.out]; exact HHIT.out h0)
     have hb : (V.numbers [48] y != 0) = true := by simpa using h0
     generalize V.numbers [48] y = c at *
     clear h0
     exact zv3
  ·have HE : Hid (V.zaf s.data.toList t.data.toList = 0) := zs8 (by rw [← HF.out]; exact V.pad_end k L M HZ.out hor)
   have a1 : ¬ k < L.length := by omega
   have a2 : ¬ k < M.length := by omega
   clear hor
   go_wp2
   go_ret
   exact ⟨zj HE.out.symm, HB2.out⟩
open Go.RowKit
theorem zf2 {s : ByteArray} (h : 1 ≤ s.size) : s.toList.isEmpty = false := by
 rw [Lib.toList_data]
 have : 0 < s.data.toList.length := by rw [zf]; omega
 cases hl : s.data.toList with
 | nil => rw [hl] at this; simp at this
 | cons => rfl
theorem zwe {P : Prop} (h : P := by
 go_enter Tryz.func126, Tryz.ntmps126
 go_wp2
 go_ret
 exact ⟨zc HF.out.symm, ztb _ _⟩) : P := h
theorem zw2 {P : Prop} (h : P := by
 go_wp2
 go_ret
 exact ⟨zc (by rw [HF.out, HS.out]; rfl), hb⟩) : P := h
theorem zqq (n : Int) (s : ByteArray) (w : World) (hm : zk w) (hs : s.size ≤ maxLen) :
  Calls Tryz.prog 126 #[.int .i64 n, .string s] w fun e w' => e = .returned (.bool (V.valid n s.data.toList)) /\ Below w.heap.size w w' := by
 unfold maxLen at hs
 have HM := zs8 hm
 clear hm
 by_cases hbad : s.size = 0 ∨ 64 < s.size
 ·have HF : Hid (V.valid n s.data.toList = false) := zs8 (by
    unfold V.valid
    rw [zf]
    rcases hbad with h | h
    · rw [h]; rfl
    · have : decide (s.size ≤ 64) = false := by simp; omega
      rw [this]; simp)
  rcases hbad with h0 | h64
  ·have he : s = ⟨#[]⟩ := jr (by
     have : s.data.toList = [] := List.eq_nil_of_length_eq_zero (by rw [zf]; exact h0)
     rw [this])
   subst he
   exact zwe
  ·have hne : s.toList.isEmpty = false := zf2 (by omega)
   have hne' : ¬ s.toList = [] := by simpa using hne
   exact zwe
 ·have h1 : 1 ≤ s.size := by omega
  have h2 : s.size ≤ 64 := by omega
  have HF : Hid (V.valid n s.data.toList = V.xq n s.data.toList) := zs8 (by
    unfold V.valid
    rw [zf]
    simp [h1, h2])
  have hne : s.toList.isEmpty = false := zf2 h1
  have hne' : ¬ s.toList = [] := by simpa using hne
  have hle64 : (s.size : Int) ≤ 64 := by omega
  clear hbad
  by_cases n1 : n = 1
  ·subst n1
   have HS : Hid (V.xq 1 s.data.toList = (V.zi s.data.toList).isSome) := zs8 rfl
   go_enter Tryz.func126, Tryz.ntmps126
   go_wp2_with fail
   refine (zb6 s _ HM.out (by omega)).mono ?_
   rintro e w1 ⟨hb, he⟩
   rcases hp : V.zi s.data.toList with _ | ⟨l, ids⟩
   ·rw [hp] at he HS
    subst he
    exact zw2
   ·rw [hp] at he HS
    obtain ⟨v, u, rfl, _, _⟩ := he
    exact zw2
  ·by_cases n2 : n = 2
   ·subst n2
    have HS : Hid (V.xq 2 s.data.toList = (V.zn s.data.toList).isSome) := zs8 rfl
    go_enter Tryz.func126, Tryz.ntmps126
    go_wp2_with fail
    refine (zcl s _ HM.out (by omega)).mono ?_
    rintro e w1 ⟨hb, he⟩
    rcases hp : V.zn s.data.toList with _ | ⟨E, U, R⟩
    ·rw [hp] at he HS
     subst he
     exact zw2
    ·rw [hp] at he HS
     obtain ⟨v, rfl, _⟩ := he
     exact zw2
   ·by_cases n3 : n = 3
    ·subst n3
     have HS : Hid (V.xq 3 s.data.toList = (V.ze 46 s.data.toList).all fun x => V.numb x false) := zs8 rfl
     go_enter Tryz.func126, Tryz.ntmps126
     go_wp2_with fail
     refine (kd s 46 _ HM.out (by omega)).mono ?_
     rintro e w4 ⟨rfl, hw4⟩
     have hle := jh 46 s.data.toList
     have hmem := zs8 (jx 46 s.data.toList)
     rw [zf] at hle hmem
     obtain ⟨L0, hL0⟩ : ∃ L0, V.ze 46 s.data.toList = L0 := ⟨_, rfl⟩
     rw [hL0] at hw4 hle hmem HS ⊢
     have hcs := zs8 (yr hw4)
     have HB4 : Hid (Below w.heap.size w w4) := zs8 (by rw [hw4]; exact (ztb _ _).alloc (zta _) _)
     clear hw4 hL0
     have hnd : ∀ x : V.Bs, V.numb x false = V.digits x := fun x => by unfold V.numb; simp
     have HND := zs8 hnd
     clear hnd
     go_wp2
     go_loop [11] (fun i => ∃ k : Nat, k ≤ L0.length /\ i = .int .i64 k /\ (L0.take k).all (fun x => V.numb x false) = true) (fun i => L0.length - (intOf i).toNat)
     case atStart => exact ⟨0, Nat.zero_le _, rfl, rfl⟩
     case round =>
      obtain ⟨k, hk, rfl, hp⟩ := hrel
      have HQ := zs8 hp
      clear hp
      by_cases hlt : k < L0.length
      ·have hc := hcs.out k hlt
       have hsz : L0[k].length ≤ s.size := hmem.out _ (List.getElem_mem hlt)
       have HT := zs8 (zco (p := fun x => V.numb x false) hlt)
       rcases hpk : V.digits L0[k] with _ | _
       all_goals
        have HPK := zs8 hpk
        clear hpk
        go_wp2_with fail
        refine (qd ⟨L0[k].toArray⟩ _ (by show L0[k].length ≤ _; unfold maxLen; omega)).mono ?_
        rintro e w' ⟨rfl, rfl⟩
        simp only [HPK.out]
        go_wp2
       ·go_ret
        exact ⟨zc (by rw [HF.out, HS.out, zmi (k := k) hlt (by show V.numb _ false = false; rw [HND.out]; exact HPK.out)]), HB4.out⟩
       ·go_round
        case rel => exact ⟨k + 1, by omega, by go_num, by rw [HT.out, HQ.out, HND.out]; exact HPK.out⟩
        case measure => simp [intOf]; omega
      ·have ht : L0.take k = L0 := List.take_of_length_le (by omega)
       rw [ht] at HQ
       clear ht
       go_wp2
       go_ret
       exact ⟨zc (by rw [HF.out, HS.out]; exact HQ.out.symm), HB4.out⟩
    ·have HS : Hid (V.xq n s.data.toList = false) := zs8 (by unfold V.xq; simp [n1, n2, n3])
     have b1 : (n == 1) = false := by simpa using n1
     have b2 : (n == 2) = false := by simpa using n2
     have b3 : (n == 3) = false := by simpa using n3
     go_enter Tryz.func126, Tryz.ntmps126
     go_wp2
     go_ret
     exact ⟨zc (by rw [HF.out, HS.out]), ztb _ _⟩
end Go.Proofs.YtnhfaincdabdkaaGreatDoor
