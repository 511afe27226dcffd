import Derived.Test.YtcfbkcapbbhmpaaGreatDoorC39x06
import Derived.Test.YtcfbkcapbbhmpaaGreatDoorC39x05
import Derived.Test.YtcfbkcapbbhmpaaGreatDoorC39x04
import Derived.Test.YtcfbkcapbbhmpaaGreatDoorC39x01
import Derived.Test.YtcfbkcapbbhmpaaGreatDoorC39x02
import Derived.Deep.DeepCutAuto
import Derived.BigRegion
import Derived.OwnWalk
import Derived.StillTailTactics
import Derived.Maps.AppendAt
import Derived.Maps.RangeWalk
set_option linter.all false
set_option maxRecDepth 100000
set_option maxHeartbeats 3200000
namespace Go.Proofs.YtcfbkcapbbhmpaaGreatDoor
open Go.RowKit
def yl (e : V.Bs) : V.Bs := if e = [] then [48] else e
def RDeb (r : Option (V.Bs × V.Bs × V.Bs)) (w : World) (e : Ending) (w' : World) : Prop :=
 Below w.heap.size w w' /\ match r with
 | none => e = .returned (.tuple #[.slice none 0 0, .bool false])
 | some (E, U, R) => ∃ v, e = .returned (.tuple #[v, .bool true]) /\ Strs w' v [yl E, U, R]
theorem Strs.three (w : World) (x y z : V.Bs) (t : Nat) : Strs (w.alloc (.cells #[.string ⟨x.toArray⟩, .string ⟨y.toArray⟩, .string ⟨z.toArray⟩] t)) (.slice (some ⟨w.heap.size, 0, none⟩) 3 3) [x, y, z] :=
 Strs.split w [x, y, z] t
theorem zeo (s : ByteArray) (w : World) (hm : zg w) (hs : s.size ≤ 1000) :
  Calls Tryz.prog 127 #[.string s] w (RDeb (V.zu s.data.toList) w) := by
 obtain ⟨ep, re, H, hx1⟩ : ∃ a b c, V.cut1 58 s.data.toList = (a, b, c) := ⟨_, _, _, rfl⟩
 have HP : Hid (V.zu s.data.toList = if H then if V.numb ep false then V.jq ep re else none else V.jq [] s.data.toList) := zwe (by
   unfold V.zu; rw [hx1])
 have hl1 : ep.length ≤ s.size /\ re.length ≤ s.size := by
  have := uo 58 s.data.toList
  rw [hx1, zf] at this
  exact this
 obtain ⟨hl1, hl2⟩ := hl1
 have HX1 := zwe hx1
 have HM := zwe hm
 clear hx1 hm
 go_enter Tryz.func127, Tryz.ntmps127
 go_wp2_with fail
 refine (zdm s 58 _ HM.out (by omega)).mono ?_
 rintro e w1 ⟨rfl, hb1⟩
 simp only [HX1.out]
 have HB1 := zwe hb1
 clear hb1
 go_upto_if 17 with (fail)
 go_cut [4, 5] (fun v4 v5 wx => ∃ (E E0 : V.Bs) (V1 : ByteArray), v4 = .string ⟨E.toArray⟩ /\ v5 = .string V1 /\ E.length ≤ 1000 /\ V1.size ≤ s.size /\ Below w.heap.size w wx /\
   V.zu s.data.toList = (if V.digits E then V.jq E0 V1.data.toList else none) /\ (V.digits E = true -> yl E0 = E))
 case first =>
  cases H with
  | false =>
   go_wp2
   go_meet
   exact ⟨[48], [], s, rfl, rfl, by simp, zwg _, HB1.out, by rw [HP.out]; rfl, fun _ => rfl⟩
  | true =>
   go_wp2
   go_meet
   exact ⟨ep, ep, ⟨re.toArray⟩, rfl, rfl, by omega, hl2, HB1.out, by
     rw [HP.out]
     have : V.numb ep false = V.digits ep := by unfold V.numb; simp
     rw [this]; rfl, fun hd => by
     unfold yl
     rw [if_neg]
     intro e0
     have := zf7 hd
     rw [e0] at this
     simp at this⟩
 case rest =>
  obtain ⟨E, E0, V1, rfl, rfl, hel, hsz, hb2, hpar, hep⟩ := hcut
  have HB2 := zwe hb2
  have HPAR := zwe hpar
  have HEP := zwe hep
  clear hb2 hpar hep HP HX1 HB1
  obtain ⟨wo, rfl⟩ : ∃ wo : World, wo = wc := ⟨_, rfl⟩
  go_wp2_with fail
  refine (Tryz.strings_LastIndex_one V1 ⟨#[45]⟩ rfl (by omega) _).mono ?_
  rintro e w3 ⟨rfl, rfl⟩
  have hld : Lib.lastIndexByte V1 (((ByteArray.mk #[45])[0]'(by decide)).toNat : Int) = V.jg V1.data.toList := by unfold V.jg; rw [zj9]; rfl
  rw [hld]
  clear hld
  obtain ⟨ld, hld⟩ : ∃ ld, V.jg V1.data.toList = ld := ⟨_, rfl⟩
  have HLD := zwe hld
  rw [hld]
  clear hld
  have hsplit : (ld < 0) ∨ ∃ i : Nat, ld = i /\ i < V1.size := by
   exact z0m
  go_upto_if 23 with (fail)
  go_cut [7, 8] (fun v7 v8 wx => ∃ (U R : V.Bs), v7 = .string ⟨U.toArray⟩ /\ v8 = .string ⟨R.toArray⟩ /\ U.length ≤ s.size /\ Below w.heap.size w wx /\
    V.jq E0 V1.data.toList = if V.only (V.kind [46, 43, 126, 45]) U && V.dig (U.getD 0 0) then some (E0, U, R) else none)
  case first =>
   rcases hsplit with hneg | ⟨i, rfl, hlt⟩
   ·have HN : Hid (V.jg V1.data.toList < 0) := zwe (by rw [HLD.out]; exact hneg)
    go_wp2
    go_meet
    exact ⟨V1.data.toList, [], by rw [zj9], rfl, by rw [zf]; exact hsz, HB2.out, zly HN.out⟩
   ·have hge : (0 : Int) ≤ (i : Int) := by omega
    have hex0 : V1.extract 0 i = ⟨(V1.data.toList.take i).toArray⟩ := jk (by rw [Lib.extract_data]; simp)
    have hex1 : V1.extract (i + 1) V1.size = ⟨(V1.data.toList.drop (i + 1)).toArray⟩ := jk (by rw [Lib.extract_to_end])
    have HE0 := zwe hex0
    have HE1 := zwe hex1
    have hrl : (V1.data.toList.drop (i + 1)).length ≤ maxLen := by rw [List.length_drop, zf]; unfold maxLen; omega
    have htl : (V1.data.toList.take i).length ≤ s.size := by rw [List.length_take, zf]; omega
    have HRL := zwe hrl
    have HTL := zwe htl
    clear hex0 hex1 hrl htl
    rcases hk : V.only (V.kind V.allow) (V1.data.toList.drop (i + 1)) with _ | _
    all_goals
     have HK := zwe hk
     clear hk
     go_wp2
     go_region
     go_wp2_with fail
     rw [HE1.out]
     refine (zae ⟨(V1.data.toList.drop (i + 1)).toArray⟩ ⟨#[46, 43, 126]⟩ _ HRL.out).mono ?_
     rintro e w' ⟨rfl, rfl⟩
     have hkk : V.only (V.kind (ByteArray.mk #[46, 43, 126]).data.toList) (ByteArray.mk (V1.data.toList.drop (i + 1)).toArray).data.toList = V.only (V.kind V.allow) (V1.data.toList.drop (i + 1)) := rfl
     rw [hkk, HK.out]
     go_wp2
    ·go_ret2
     have HN : Hid (V.zu s.data.toList = none) := zwe (by rw [HPAR.out, zi8 HLD.out HK.out]; simp)
     rw [HN.out]
     exact ⟨HB2.out.drew, rfl⟩
    ·go_meet
     exact ⟨V1.data.toList.take i, V1.data.toList.drop (i + 1), by rw [HE0.out], rfl, HTL.out, HB2.out.drew, zi6 HLD.out HK.out⟩
  case rest =>
   obtain ⟨U, R, rfl, rfl, hul, hb5, htail⟩ := hcut
   have HB5 := zwe hb5
   have HT := zwe htail
   clear hb5 htail HLD HB2
   rcases hd : V.digits E with _ | _
   ·have HD := zwe hd
    have HN : Hid (V.zu s.data.toList = none) := zwe (by rw [HPAR.out, hd]; rfl)
    clear hd
    go_wp2_with fail
    refine (qm ⟨E.toArray⟩ _ (by show E.length ≤ _; unfold maxLen; omega)).mono ?_
    rintro e w' ⟨rfl, rfl⟩
    simp only [HD.out]
    go_wp2
    go_ret2
    rw [HN.out]
    exact ⟨HB5.out, rfl⟩
   ·have HD := zwe hd
    have HE := zwe (HEP.out hd)
    rcases hk : V.only (V.kind [46, 43, 126, 45]) U with _ | _
    ·have HK := zwe hk
     have HN : Hid (V.zu s.data.toList = none) := zwe (by rw [HPAR.out, hd, if_pos rfl, HT.out, hk]; rfl)
     clear hd hk
     go_wp2_with fail
     refine (qm ⟨E.toArray⟩ _ (by show E.length ≤ _; unfold maxLen; omega)).mono ?_
     rintro e w' ⟨rfl, rfl⟩
     simp only [HD.out]
     go_wp2_with fail
     refine (zae ⟨U.toArray⟩ ⟨#[46, 43, 126, 45]⟩ _ (by show U.length ≤ _; unfold maxLen; omega)).mono ?_
     rintro e w' ⟨rfl, rfl⟩
     simp only [HK.out]
     go_wp2
     go_ret2
     rw [HN.out]
     exact ⟨HB5.out, rfl⟩
    ·have HK := zwe hk
     obtain ⟨u0, ur, rfl⟩ : ∃ u0 ur, U = u0 :: ur := by
      cases U with
      | nil => simp [V.only] at hk
      | cons u0 ur => exact ⟨u0, ur, rfl⟩
     have hu0 : (ByteArray.mk (u0 :: ur).toArray).size = ur.length + 1 := by simp [ByteArray.size]
     rcases hg : V.digB u0.toNat with _ | _
     all_goals
      have HG := zwe hg
      go_wp2_with fail
      refine (qm ⟨E.toArray⟩ _ (by show E.length ≤ _; unfold maxLen; omega)).mono ?_
      rintro e w' ⟨rfl, rfl⟩
      simp only [HD.out]
      go_wp2_with fail
      refine (zae ⟨(u0 :: ur).toArray⟩ ⟨#[46, 43, 126, 45]⟩ _ (by rw [hu0]; unfold maxLen; simp at hul; omega)).mono ?_
      rintro e w' ⟨rfl, rfl⟩
      simp only [HK.out]
      go_wp2_with fail
      refine (zb7 _ _).mono ?_
      rintro e w' ⟨rfl, rfl⟩
      rw [show V.digB (((ByteArray.mk (u0 :: ur).toArray)[0]'(by rw [hu0]; omega)).toNat : Int) = V.digB u0.toNat from rfl, HG.out]
      go_wp2
      go_ret2
     ·have HN : Hid (V.zu s.data.toList = none) := zwe (by
        rw [HPAR.out, hd, if_pos rfl, HT.out, hk, show V.dig ((u0 :: ur).getD 0 0) = V.digB u0.toNat from rfl, hg]; rfl)
      rw [HN.out]
      exact ⟨HB5.out, rfl⟩
     ·have HN : Hid (V.zu s.data.toList = some (E0, u0 :: ur, R)) := zwe (by
        rw [HPAR.out, hd, if_pos rfl, HT.out, hk, show V.dig ((u0 :: ur).getD 0 0) = V.digB u0.toNat from rfl, hg]; rfl)
      rw [HN.out]
      refine ⟨HB5.out.alloc HB5.out.size _, _, rfl, ?_⟩
      rw [HE.out]
      exact Strs.three _ _ _ _ _
theorem znc {r : Option (V.Bs × V.Bs × V.Bs)} {E U R : V.Bs} {w : World} {e : Ending} {w' : World} (h : RDeb r w e w') (hr : r = some (E, U, R)) :
  ∃ b off cap, e = .returned (.tuple #[.slice (some ⟨b, off, none⟩) 3 cap, .bool true]) /\ b < w'.heap.size /\ w'.cell? ⟨b, off, none⟩ = some (.string ⟨(yl E).toArray⟩) /\
   w'.cell? ⟨b, off + 1, none⟩ = some (.string ⟨U.toArray⟩) /\ w'.cell? ⟨b, off + 2, none⟩ = some (.string ⟨R.toArray⟩) /\ Below w.heap.size w w' := by
 subst hr
 obtain ⟨hb, v, rfl, hs⟩ := h
 obtain ⟨b, off, cap, rfl, hlt, hc⟩ := hs.head (by simp)
 exact ⟨b, off, cap, rfl, hlt, hc 0 (by simp), hc 1 (by simp), hc 2 (by simp), hb⟩
theorem zir (e : V.Bs) : V.value (yl e) = V.value e := by
 unfold yl
 split
 ·rename_i h; subst h; rfl
 ·rfl
theorem zeg (x y : V.Bs) (w : World) (hx : x.length ≤ 1000) (hy : y.length ≤ 1000) :
  Calls Tryz.prog 162 #[.string ⟨x.toArray⟩, .string ⟨y.toArray⟩] w fun e w' => e = .returned (.int .i64 (V.numbers x y)) /\ w' = w := by
 have h := zf3 ⟨x.toArray⟩ ⟨y.toArray⟩ w (by show x.length ≤ _; unfold maxLen; omega) (by show y.length ≤ _; unfold maxLen; omega)
 simp only  at h
 exact h.mono fun _ _ h => ⟨h.1, h.2.symm⟩
theorem zm0 (s t : ByteArray) (x0 x1 x2 y0 y1 y2 : V.Bs) (w : World) (hm : zg w) (hs : s.size ≤ 64) (ht : t.size ≤ 64)
  (hp : V.zu s.data.toList = some (x0, x1, x2)) (hq : V.zu t.data.toList = some (y0, y1, y2)) :
  Calls Tryz.prog 130 #[.string s, .string t] w fun e w' => e = .returned (.int .i64 (V.vv (x0, x1, x2) (y0, y1, y2))) /\ Below w.heap.size w w' := by
 have fa := V.wg hp
 have fb := V.wg hq
 rw [zf] at fa fb
 have ga := V.zef hp
 have gb := V.zef hq
 obtain ⟨fa0, fa1, fa2⟩ := fa
 obtain ⟨fb0, fb1, fb2⟩ := fb
 simp only at fa0 fa1 fa2 fb0 fb1 fb2
 have GA := zwe ga
 have GB := zwe gb
 have hex : (yl x0).length ≤ 65 := by unfold yl; split <;> (try simp) <;> omega
 have hey : (yl y0).length ≤ 65 := by unfold yl; split <;> (try simp) <;> omega
 have HF : Hid (V.vv (x0, x1, x2) (y0, y1, y2) = V.cor (V.numbers (yl x0) (yl y0)) (V.cor (V.ql x1 y1) (V.ql x2 y2))) := zwe (by
   unfold V.vv
   rw [V.zm2 (zir x0) (zir y0)]
   simp only [V.orI, V.zcz])
 obtain ⟨ex, hex'⟩ : ∃ x, yl x0 = x := ⟨_, rfl⟩
 obtain ⟨ey, hey'⟩ : ∃ x, yl y0 = x := ⟨_, rfl⟩
 rw [hex'] at hex HF
 rw [hey'] at hey HF
 have HEX := zwe hex'
 have HEY := zwe hey'
 have HP := zwe hp
 have HQ := zwe hq
 have HM := zwe hm
 clear hp hq hm ga gb hex' hey'
 go_enter Tryz.func130, Tryz.ntmps130
 go_wp2_with fail
 refine (zeo s _ HM.out (by omega)).mono ?_
 rintro e w1 h
 obtain ⟨b, off, cap, rfl, hlt, c0, c1, c2, hb1⟩ := znc h HP.out
 rw [HEX.out] at c0
 have hm1 := HM.out.below hb1
 have HB1 := zwe hb1
 clear h hb1
 go_wp2_with fail
 refine (zeo t _ hm1 (by omega)).mono ?_
 rintro e w2 h
 obtain ⟨b', off', cap', rfl, hlt', d0, d1, d2, hb2⟩ := znc h HQ.out
 rw [HEY.out] at d0
 have e0 := (hb2.cell (p := ⟨b, off, none⟩) hlt).trans c0
 have e1 := (hb2.cell (p := ⟨b, off + 1, none⟩) hlt).trans c1
 have e2 := (hb2.cell (p := ⟨b, off + 2, none⟩) hlt).trans c2
 have hlt2 : b < w2.heap.size := Nat.lt_of_lt_of_le hlt hb2.size
 have HB2 := zwf HB1 hb2
 clear h hb2 c0 c1 c2 hlt
 go_wp2_with fail
 go_quiet ((go_at_call 162; exact Calls.quiet_of_same (zeg ex ey _ (by omega) (by omega))))
 rename_i nq
 have f1 : (w2.drewN nq).cell? ⟨b, off + 1, none⟩ = some (.string ⟨x1.toArray⟩) := by rw [World.cell?_drewN]; exact e1
 have f2 : (w2.drewN nq).cell? ⟨b, off + 2, none⟩ = some (.string ⟨x2.toArray⟩) := by rw [World.cell?_drewN]; exact e2
 have g1 : (w2.drewN nq).cell? ⟨b', off' + 1, none⟩ = some (.string ⟨y1.toArray⟩) := by rw [World.cell?_drewN]; exact d1
 have g2 : (w2.drewN nq).cell? ⟨b', off' + 2, none⟩ = some (.string ⟨y2.toArray⟩) := by rw [World.cell?_drewN]; exact d2
 have HBW := zwe (below_drewN HB2.out nq)
 have lt1 : b < (w2.drewN nq).heap.size := Nat.lt_of_lt_of_le hlt2 (below_drewN (zwh w2.heap.size w2) nq).size
 have lt2 : b' < (w2.drewN nq).heap.size := Nat.lt_of_lt_of_le hlt' (below_drewN (zwh w2.heap.size w2) nq).size
 clear e0 e1 e2 d0 d1 d2 HB2 hlt2 hlt'
 generalize w2.drewN nq = W at *
 by_cases h0 : V.numbers ex ey = 0
 ·have HF2 : Hid (V.vv (x0, x1, x2) (y0, y1, y2) = V.cor (V.ql x1 y1) (V.ql x2 y2)) := zwe (by rw [HF.out, h0]; rfl)
  rw [h0]
  clear h0
  go_wp2
  go_still_tail 6, (by kernel_rfl)
  change wpList _ _ _ _ _ W.drew
  have k2 : W.drew.cell? ⟨b, off + 2, none⟩ = some (.string ⟨x2.toArray⟩) := by rw [World.cell?_drew]; exact f2
  have l2 : W.drew.cell? ⟨b', off' + 2, none⟩ = some (.string ⟨y2.toArray⟩) := by rw [World.cell?_drew]; exact g2
  have HBV := zwe HBW.out.drew
  have lt1' : b < W.drew.heap.size := lt1
  have lt2' : b' < W.drew.heap.size := lt2
  clear f1 f2 g1 g2 lt1 lt2 HBW
  generalize W.drew = W2 at *
  go_wp2_with fail
  refine (zsd x1 y1 _ (by omega) (by omega) GA.out.1 GB.out.1).mono ?_
  rintro e w3 ⟨rfl, hb3⟩
  have m2 := (hb3.cell (p := ⟨b, off + 2, none⟩) lt1').trans k2
  have n2 := (hb3.cell (p := ⟨b', off' + 2, none⟩) lt2').trans l2
  have HB3 := zwf HBV hb3
  clear k2 l2 lt1' lt2' hb3 HBV
  by_cases h0 : V.ql x1 y1 = 0
  ·have HF3 : Hid (V.vv (x0, x1, x2) (y0, y1, y2) = V.ql x2 y2) := zwe (by rw [HF2.out, h0]; rfl)
   rw [h0]
   clear h0
   go_wp2
   go_still_tail 6, (by kernel_rfl)
   change wpList _ _ _ _ _ w3.drew
   have HBV := zwe HB3.out.drew
   clear m2 n2 HB3
   generalize w3.drew = W4 at *
   go_wp2_with fail
   refine (zsd x2 y2 _ (by omega) (by omega) GA.out.2 GB.out.2).mono ?_
   rintro e w5 ⟨rfl, hb5⟩
   have HB5 := zwf HBV hb5
   clear hb5
   go_wp2
   go_ret
   exact ⟨zp HF3.out.symm, HB5.out⟩
  ·have HF3 : Hid (V.vv (x0, x1, x2) (y0, y1, y2) = V.ql x1 y1) := zwe (by rw [HF2.out, V.kk h0])
   have hb : (V.ql x1 y1 != 0) = true := by simpa using h0
   generalize V.ql x1 y1 = c at *
   clear h0
   go_wp2
   go_ret
   exact ⟨zp HF3.out.symm, HB3.out⟩
 ·have HF2 : Hid (V.vv (x0, x1, x2) (y0, y1, y2) = V.numbers ex ey) := zwe (by rw [HF.out, V.kk h0])
  have hb : (V.numbers ex ey != 0) = true := by simpa using h0
  generalize V.numbers ex ey = c at *
  clear h0
  go_wp2
  go_ret
  exact ⟨zp HF2.out.symm, HBW.out⟩
theorem zm7 (s : ByteArray) (hs : s.size ≤ 64) : (V.zd 46 s.data.toList).length ≤ 65 /\ ∀ j, ((V.zd 46 s.data.toList).getD j [48]).length ≤ 65 := by
 have h1 := jn 46 s.data.toList
 have h2 := kd 46 s.data.toList
 rw [zf] at h1 h2
 refine ⟨by omega, fun j => ?_⟩
 rw [List.getD_eq_getElem?_getD]
 rcases hk : (V.zd 46 s.data.toList)[j]? with _ | x
 ·simp
 ·have := h2 x (List.mem_of_getElem? hk); simp; omega
theorem zyt {P : Prop} (h : P := by
 have HN := zwe (HNEXT.out h0)
 rw [h0]
 clear h0
 have hk2 := hkm.out
 go_wp2
 go_round
 case rel => exact ⟨k + 1, by omega, by go_num, HN.out⟩
 case measure => simp [intOf]; omega) : P := h
theorem zr7 (s t : ByteArray) (w : World) (hm : zg w) (hs : s.size ≤ 64) (ht : t.size ≤ 64) :
  Calls Tryz.prog 131 #[.string s, .string t] w fun e w' => e = .returned (.int .i64 (V.zbz s.data.toList t.data.toList)) /\ Below w.heap.size w w' := by
 have HF := zwe (V.pad_dots s.data.toList t.data.toList)
 have hls := zm7 s hs
 have hlt := zm7 t ht
 obtain ⟨L, hL⟩ : ∃ L, V.zd 46 s.data.toList = L := ⟨_, rfl⟩
 obtain ⟨M, hM⟩ : ∃ M, V.zd 46 t.data.toList = M := ⟨_, rfl⟩
 rw [hL] at hls HF
 rw [hM] at hlt HF
 obtain ⟨l1, HL1⟩ := hls
 obtain ⟨m1, HM1⟩ := hlt
 have HL1 := zwe HL1
 have HM1 := zwe HM1
 have HMX := zwe hm
 have HL := zwe hL
 have HM := zwe hM
 clear hm hL hM
 go_enter Tryz.func131, Tryz.ntmps131
 go_wp2_with fail
 refine (kp s 46 _ HMX.out (by omega)).mono ?_
 rintro e w1 ⟨rfl, hw1⟩
 rw [HL.out] at hw1 ⊢
 have hb1 : Below w.heap.size w w1 := by rw [hw1]; exact (zwh _ _).alloc (zwg _) _
 have c1 := vm hw1
 have z1 : w.heap.size < w1.heap.size := by rw [hw1]; simp
 clear hw1
 go_wp2_with fail
 refine (kp t 46 _ (HMX.out.below hb1) (by omega)).mono ?_
 rintro e w2 ⟨rfl, hw2⟩
 rw [HM.out] at hw2 ⊢
 have hb2 : Below w1.heap.size w1 w2 := by rw [hw2]; exact (zwh _ _).alloc (zwg _) _
 have HC1 : Hid (∀ (j : Nat) (_ : j < L.length), w2.cell? ⟨w.heap.size, j, none⟩ = some (.string ⟨(L.getD j [48]).toArray⟩)) := zwe (fun j hj => by
   rw [hb2.cell (p := ⟨w.heap.size, j, none⟩) z1, c1 j hj, List.getD_eq_getElem?_getD, List.getElem?_eq_getElem hj]; rfl)
 have HC2 : Hid (∀ (j : Nat) (_ : j < M.length), w2.cell? ⟨w1.heap.size, j, none⟩ = some (.string ⟨(M.getD j [48]).toArray⟩)) := zwe (fun j hj => by
   rw [vm hw2 j hj, List.getD_eq_getElem?_getD, List.getElem?_eq_getElem hj]; rfl)
 have HB2 := zwe (hb1.trans (hb2.mono hb1.size))
 clear hb1 hb2 c1 z1 hw2
 go_wp2
 go_loop [7] (fun i => ∃ k : Nat, k ≤ max L.length M.length /\ i = .int .i64 k /\ ∀ j, j < k -> V.numbers (L.getD j [48]) (M.getD j [48]) = 0) (fun i => max L.length M.length - (intOf i).toNat)
 case atStart => exact ⟨0, Nat.zero_le _, rfl, fun j hj => by omega⟩
 case round =>
  obtain ⟨k, hk, rfl, hz⟩ := hrel
  have HZ := zwe hz
  clear hz
  by_cases hor : k < L.length ∨ k < M.length
  ·have hsl := HL1.out k
   have hsm := HM1.out k
   have HHIT := zwe (V.pad_hit k L M HZ.out hor)
   obtain ⟨x, hx⟩ : ∃ x, L.getD k [48] = x := ⟨_, rfl⟩
   obtain ⟨y, hy⟩ : ∃ y, M.getD k [48] = y := ⟨_, rfl⟩
   have HX := zwe hx
   have HY := zwe hy
   have hcx := HC1.out k
   have hcy := HC2.out k
   rw [hx] at hsl hcx HHIT
   rw [hy] at hsm hcy HHIT
   have hex : ¬ k < L.length -> x = [48] := fun h => by rw [← hx, List.getD_eq_getElem?_getD, List.getElem?_eq_none (by omega)]; rfl
   have hey : ¬ k < M.length -> y = [48] := fun h => by rw [← hy, List.getD_eq_getElem?_getD, List.getElem?_eq_none (by omega)]; rfl
   have HNEXT : Hid (V.numbers x y = 0 -> ∀ j, j < k + 1 -> V.numbers (L.getD j [48]) (M.getD j [48]) = 0) := zwe (fun h0 j hj => by
     by_cases e : j = k
     · subst e; rw [HX.out, HY.out]; exact h0
     · exact HZ.out j (by omega))
   have hkm : Hid (k < max L.length M.length) := zwe (by omega)
   clear hx hy
   have three : (k < L.length /\ k < M.length) ∨ (k < L.length /\ ¬ k < M.length) ∨ (¬ k < L.length /\ k < M.length) := by omega
   clear hor
   rcases three with ⟨a1, a2⟩ | ⟨a1, a2⟩ | ⟨a1, a2⟩
   ·have d1 := hcx a1
    have d2 := hcy a2
    clear hex hey hcx hcy
    go_wp2_with fail
    refine (zeg x y _ (by omega) (by omega)).mono ?_
    rintro e w' ⟨rfl, rfl⟩
    by_cases h0 : V.numbers x y = 0
    ·exact zyt
    ·have HR : Hid (V.zbz s.data.toList t.data.toList = V.numbers x y) := zwe (by rw [← HF.out]; exact HHIT.out h0)
     have hb : (V.numbers x y != 0) = true := by simpa using h0
     generalize V.numbers x y = c at *
     clear h0
     exact z0f
   ·have d1 := hcx a1
    obtain rfl := hey a2
    clear hex hey hcx hcy
    go_wp2_with fail
    refine (zeg x [48] _ (by omega) (by simp)).mono ?_
    rintro e w' ⟨rfl, rfl⟩
    by_cases h0 : V.numbers x [48] = 0
    ·exact zyt
    ·have HR : Hid (V.zbz s.data.toList t.data.toList = V.numbers x [48]) := zwe (by rw [← HF.out]; exact HHIT.out h0)
     have hb : (V.numbers x [48] != 0) = true := by simpa using h0
     generalize V.numbers x [48] = c at *
     clear h0
     exact z0f
   ·have d2 := hcy a2
    obtain rfl := hex a1
    clear hex hey hcx hcy
    go_wp2_with fail
    refine (zeg [48] y _ (by simp) (by omega)).mono ?_
    rintro e w' ⟨rfl, rfl⟩
    by_cases h0 : V.numbers [48] y = 0
    ·exact zyt
    ·have HR : Hid (V.zbz s.data.toList t.data.toList = V.numbers [48] y) := zwe (by rw [← HF.out]; exact HHIT.out h0)
     have hb : (V.numbers [48] y != 0) = true := by simpa using h0
     generalize V.numbers [48] y = c at *
     clear h0
     exact z0f
  ·have HE : Hid (V.zbz s.data.toList t.data.toList = 0) := zwe (by rw [← HF.out]; exact V.pad_end k L M HZ.out hor)
   have a1 : ¬ k < L.length := by omega
   have a2 : ¬ k < M.length := by omega
   clear hor
   go_wp2
   go_ret
   exact ⟨zp HE.out.symm, HB2.out⟩
open Go.RowKit
theorem ziw {s : ByteArray} (h : 1 ≤ s.size) : s.toList.isEmpty = false := by
 rw [Lib.toList_data]
 have : 0 < s.data.toList.length := by rw [zf]; omega
 cases hl : s.data.toList with
 | nil => rw [hl] at this; simp at this
 | cons => rfl
theorem z0r {P : Prop} (h : P := by
 go_enter Tryz.func99, Tryz.ntmps99
 go_wp2
 go_ret
 exact ⟨zc HF.out.symm, zwh _ _⟩) : P := h
theorem z1g {P : Prop} (h : P := by
 go_wp2
 go_ret
 exact ⟨zc (by rw [HF.out, HS.out]; rfl), hb⟩) : P := h
theorem zb8 (n : Int) (s : ByteArray) (w : World) (hm : zg w) (hs : s.size ≤ maxLen) :
  Calls Tryz.prog 99 #[.int .i64 n, .string s] w fun e w' => e = .returned (.bool (V.valid n s.data.toList)) /\ Below w.heap.size w w' := by
 unfold maxLen at hs
 have HM := zwe hm
 clear hm
 by_cases hbad : s.size = 0 ∨ 64 < s.size
 ·have HF : Hid (V.valid n s.data.toList = false) := zwe (by
    unfold V.valid
    rw [zf]
    rcases hbad with h | h
    · rw [h]; rfl
    · have : decide (s.size ≤ 64) = false := by simp; omega
      rw [this]; simp)
  rcases hbad with h0 | h64
  ·have he : s = ⟨#[]⟩ := jk (by
     have : s.data.toList = [] := List.eq_nil_of_length_eq_zero (by rw [zf]; exact h0)
     rw [this])
   subst he
   exact z0r
  ·have hne : s.toList.isEmpty = false := ziw (by omega)
   have hne' : ¬ s.toList = [] := by simpa using hne
   exact z0r
 ·have h1 : 1 ≤ s.size := by omega
  have h2 : s.size ≤ 64 := by omega
  have HF : Hid (V.valid n s.data.toList = V.uh n s.data.toList) := zwe (by
    unfold V.valid
    rw [zf]
    simp [h1, h2])
  have hne : s.toList.isEmpty = false := ziw h1
  have hne' : ¬ s.toList = [] := by simpa using hne
  have hle64 : (s.size : Int) ≤ 64 := by omega
  clear hbad
  by_cases n1 : n = 1
  ·subst n1
   have HS : Hid (V.uh 1 s.data.toList = (V.zq s.data.toList).isSome) := zwe rfl
   go_enter Tryz.func99, Tryz.ntmps99
   go_wp2_with fail
   refine (zd8 s _ HM.out (by omega)).mono ?_
   rintro e w1 ⟨hb, he⟩
   rcases hp : V.zq s.data.toList with _ | ⟨l, ids⟩
   ·rw [hp] at he HS
    subst he
    exact z1g
   ·rw [hp] at he HS
    obtain ⟨v, u, rfl, _, _⟩ := he
    exact z1g
  ·by_cases n2 : n = 2
   ·subst n2
    have HS : Hid (V.uh 2 s.data.toList = (V.zu s.data.toList).isSome) := zwe rfl
    go_enter Tryz.func99, Tryz.ntmps99
    go_wp2_with fail
    refine (zeo s _ HM.out (by omega)).mono ?_
    rintro e w1 ⟨hb, he⟩
    rcases hp : V.zu s.data.toList with _ | ⟨E, U, R⟩
    ·rw [hp] at he HS
     subst he
     exact z1g
    ·rw [hp] at he HS
     obtain ⟨v, rfl, _⟩ := he
     exact z1g
   ·by_cases n3 : n = 3
    ·subst n3
     have HS : Hid (V.uh 3 s.data.toList = (V.zd 46 s.data.toList).all fun x => V.numb x false) := zwe rfl
     go_enter Tryz.func99, Tryz.ntmps99
     go_wp2_with fail
     refine (kp s 46 _ HM.out (by omega)).mono ?_
     rintro e w4 ⟨rfl, hw4⟩
     have hle := jn 46 s.data.toList
     have hmem := zwe (kd 46 s.data.toList)
     rw [zf] at hle hmem
     obtain ⟨L0, hL0⟩ : ∃ L0, V.zd 46 s.data.toList = L0 := ⟨_, rfl⟩
     rw [hL0] at hw4 hle hmem HS ⊢
     have hcs := zwe (vm hw4)
     have HB4 : Hid (Below w.heap.size w w4) := zwe (by rw [hw4]; exact (zwh _ _).alloc (zwg _) _)
     clear hw4 hL0
     have hnd : ∀ x : V.Bs, V.numb x false = V.digits x := fun x => by unfold V.numb; simp
     have HND := zwe hnd
     clear hnd
     go_wp2
     go_loop [11] (fun i => ∃ k : Nat, k ≤ L0.length /\ i = .int .i64 k /\ (L0.take k).all (fun x => V.numb x false) = true) (fun i => L0.length - (intOf i).toNat)
     case atStart => exact ⟨0, Nat.zero_le _, rfl, rfl⟩
     case round =>
      obtain ⟨k, hk, rfl, hp⟩ := hrel
      have HQ := zwe hp
      clear hp
      by_cases hlt : k < L0.length
      ·have hc := hcs.out k hlt
       have hsz : L0[k].length ≤ s.size := hmem.out _ (List.getElem_mem hlt)
       have HT := zwe (zer (p := fun x => V.numb x false) hlt)
       rcases hpk : V.digits L0[k] with _ | _
       all_goals
        have HPK := zwe hpk
        clear hpk
        go_wp2_with fail
        refine (qm ⟨L0[k].toArray⟩ _ (by show L0[k].length ≤ _; unfold maxLen; omega)).mono ?_
        rintro e w' ⟨rfl, rfl⟩
        simp only [HPK.out]
        go_wp2
       ·go_ret
        exact ⟨zc (by rw [HF.out, HS.out, zqd (k := k) hlt (by show V.numb _ false = false; rw [HND.out]; exact HPK.out)]), HB4.out⟩
       ·go_round
        case rel => exact ⟨k + 1, by omega, by go_num, by rw [HT.out, HQ.out, HND.out]; exact HPK.out⟩
        case measure => simp [intOf]; omega
      ·have ht : L0.take k = L0 := List.take_of_length_le (by omega)
       rw [ht] at HQ
       clear ht
       go_wp2
       go_ret
       exact ⟨zc (by rw [HF.out, HS.out]; exact HQ.out.symm), HB4.out⟩
    ·have HS : Hid (V.uh n s.data.toList = false) := zwe (by unfold V.uh; simp [n1, n2, n3])
     have b1 : (n == 1) = false := by simpa using n1
     have b2 : (n == 2) = false := by simpa using n2
     have b3 : (n == 3) = false := by simpa using n3
     go_enter Tryz.func99, Tryz.ntmps99
     go_wp2
     go_ret
     exact ⟨zc (by rw [HF.out, HS.out]), zwh _ _⟩
theorem zmr (x y : V.Bs) (w : World) (hx : x.length ≤ 1000) (hy : y.length ≤ 1000) :
  Calls Tryz.prog 163 #[.string ⟨x.toArray⟩, .string ⟨y.toArray⟩] w fun e w' => e = .returned (.int .i64 (V.kl x y)) /\ w' = w := by
 have h := zjd ⟨x.toArray⟩ ⟨y.toArray⟩ w (by show x.length ≤ _; unfold maxLen; omega) (by show y.length ≤ _; unfold maxLen; omega)
 simp only  at h
 exact h.mono fun _ _ h => ⟨h.1, h.2.symm⟩
theorem zoo {s : V.Bs} {l pre : List V.Bs} (h : V.zq s = some (l, pre)) : l.length = 3 := by
 unfold V.zq at h
 split at h
 ·cases h
 ·rename_i hn
  split at h
  ·simp only [Option.some.injEq, Prod.mk.injEq] at h
   obtain ⟨rfl, _⟩ := h
   simp only [Bool.or_eq_true, not_or] at hn
   simpa using hn.2
  ·cases h
theorem zug {s : V.Bs} {l pre : List V.Bs} (h : V.zq s = some (l, pre)) : pre.length ≤ s.length + 1 := by
 unfold V.zq at h
 split at h
 ·cases h
 ·split at h
  ·simp only [Option.some.injEq, Prod.mk.injEq] at h
   obtain ⟨_, h⟩ := h
   have h1 := V.zgx 43 s
   have h2 := V.zgx 45 (V.cut1 43 s).1
   have h3 := jn 46 (V.cut1 45 (V.cut1 43 s).1).2.1
   split at h
   ·subst h; omega
   ·subst h; simp
  ·cases h
theorem sem_hit (x y : List V.Bs × List V.Bs) (k : Nat) (hk : k < 3) (h : ∀ j, j < k -> V.numbers (x.1.getD j []) (y.1.getD j []) = 0) (h0 : V.numbers (x.1.getD k []) (y.1.getD k []) ≠ 0) :
  V.js x y = V.numbers (x.1.getD k []) (y.1.getD k []) := by
 have h3 : k = 0 ∨ k = 1 ∨ k = 2 := by omega
 unfold V.js
 rcases h3 with rfl | rfl | rfl
 ·simp only [V.orI, V.kk h0]
 ·simp only [V.orI, h 0 (by omega), V.wj, V.kk h0]
 ·simp only [V.orI, h 0 (by omega), h 1 (by omega), V.wj, V.kk h0]
theorem sem_zero (x y : List V.Bs × List V.Bs) (h : ∀ j, j < 3 -> V.numbers (x.1.getD j []) (y.1.getD j []) = 0) : V.js x y = V.zdo x.2 y.2 := by
 unfold V.js
 simp only [V.orI, h 0 (by omega), h 1 (by omega), h 2 (by omega), V.wj]
theorem zoq {r : Option (List V.Bs × List V.Bs)} {l pre : List V.Bs} {w : World} {e : Ending} {w' : World} (h : RSem r w e w') (hr : r = some (l, pre)) (h3 : l.length = 3) :
  ∃ b off cap a c, e = .returned (.tuple #[.slice (some ⟨b, off, none⟩) 3 cap, .slice a pre.length c, .bool true]) /\ b < w'.heap.size /\ (∀ j, j < 3 -> w'.cell? ⟨b, off + j, none⟩ = some (.string ⟨(l.getD j []).toArray⟩)) /\
   Strs w' (.slice a pre.length c) pre /\ Below w.heap.size w w' := by
 subst hr
 obtain ⟨hb, v, u, rfl, hs, hu⟩ := h
 obtain ⟨b, off, cap, rfl, hlt, hc⟩ := hs.head (by omega)
 have hu' := hu
 obtain ⟨a, c, rfl⟩ := hu.slice
 rw [h3] at hc
 exact ⟨b, off, cap, a, c, by rw [h3], hlt, hc, hu', hb⟩
theorem z0n {P : Prop} (h : P := by
 go_wp2_with fail
 refine (zhz _ _).mono ?_
 rintro e w' ⟨rfl, rfl⟩
 go_wp2
 go_ret
 exact ⟨zp HR.out.symm, HB2.out.trans (HB.out.mono HB2.out.size)⟩) : P := h
theorem zmo (s t : ByteArray) (la pa lb pb : List V.Bs) (w : World) (hm : zg w) (hs : s.size ≤ 64) (ht : t.size ≤ 64)
  (hp : V.zq s.data.toList = some (la, pa)) (hq : V.zq t.data.toList = some (lb, pb)) :
  Calls Tryz.prog 129 #[.string s, .string t] w fun e w' => e = .returned (.int .i64 (V.js (la, pa) (lb, pb))) /\ Below w.heap.size w w' := by
 have fa := V.wh hp
 have fb := V.wh hq
 have na := zug hp
 have nb := zug hq
 rw [zf] at fa fb na nb
 have GA : Hid (∀ j, (la.getD j []).length ≤ 64) := zwe (fun j => by have := V.ze1 fa.1 j; omega)
 have GB : Hid (∀ j, (lb.getD j []).length ≤ 64) := zwe (fun j => by have := V.ze1 fb.1 j; omega)
 have IA : Hid (∀ j, (pa.getD j []).length ≤ 64) := zwe (fun j => by have := V.ze1 (fun x hx => (fa.2 x hx).1) j; omega)
 have IB : Hid (∀ j, (pb.getD j []).length ≤ 64) := zwe (fun j => by have := V.ze1 (fun x hx => (fb.2 x hx).1) j; omega)
 have hpa : pa.length ≤ 65 := by omega
 have hpb : pb.length ≤ 65 := by omega
 have T1 := zwe (zoo hp)
 have T2 := zwe (zoo hq)
 have HP := zwe hp
 have HQ := zwe hq
 have HM := zwe hm
 clear hp hq hm fa fb na nb
 go_enter Tryz.func129, Tryz.ntmps129
 go_wp2_with fail
 refine (zd8 s _ HM.out (by omega)).mono ?_
 rintro e w1 h
 obtain ⟨b1, o1, cap1, a3, c3, rfl, lt1, hc1, hs1, hb1⟩ := zoq h HP.out T1.out
 have hm1 := HM.out.below hb1
 have HB1 := zwe hb1
 have HC1 := zwe hc1
 have HS1 := zwe hs1
 clear h hb1 hc1 hs1
 go_wp2_with fail
 refine (zd8 t _ hm1 (by omega)).mono ?_
 rintro e w2 h
 obtain ⟨b2, o2, cap2, a4, c4, rfl, lt2, hc2, hs2, hb2⟩ := zoq h HQ.out T2.out
 have lt1' : b1 < w2.heap.size := Nat.lt_of_lt_of_le lt1 hb2.size
 have HC1' : Hid (∀ j, j < 3 -> w2.cell? ⟨b1, o1 + j, none⟩ = some (.string ⟨(la.getD j []).toArray⟩)) := zwe (fun j hj => (hb2.cell (p := ⟨b1, o1 + j, none⟩) lt1).trans (HC1.out j hj))
 have HC2 := zwe hc2
 have HS1' := zwe (HS1.out.below hb2)
 have HS2 := zwe hs2
 have HB2 := zwf HB1 hb2
 clear h hb2 hc2 hs2 HC1 HS1 hm1 lt1
 go_wp2
 go_loopw [11] (fun i wr => ∃ k : Nat, k ≤ 3 /\ i = .int .i64 k /\ (∀ j, j < k -> V.numbers (la.getD j []) (lb.getD j []) = 0) /\ Below w2.heap.size w2 wr) (fun i _ => 3 - (intOf i).toNat)
 case atStart => exact ⟨0, Nat.zero_le _, rfl, fun j hj => by omega, zwh _ _⟩
 case round =>
  obtain ⟨k, hk, rfl, hz, hB⟩ := hrel
  have HZ := zwe hz
  have HB := zwe hB
  clear hz hB
  by_cases hlt : k < 3
  ·have hx := (HB.out.cell (p := ⟨b1, o1 + k, none⟩) lt1').trans (HC1'.out k hlt)
   have hy := (HB.out.cell (p := ⟨b2, o2 + k, none⟩) lt2).trans (HC2.out k hlt)
   have hlx := GA.out k
   have hly := GB.out k
   have HHIT := zwe (sem_hit (la, pa) (lb, pb) k hlt HZ.out)
   have HNEXT : Hid (V.numbers (la.getD k []) (lb.getD k []) = 0 -> ∀ j, j < k + 1 -> V.numbers (la.getD j []) (lb.getD j []) = 0) := zwe (fun h0 j hj => by
     by_cases e : j = k
     · subst e; exact h0
     · exact HZ.out j (by omega))
   simp only at HHIT
   generalize la.getD k [] = x at *
   generalize lb.getD k [] = y at *
   go_wp2
   go_quiet ((go_at_call 162; exact Calls.quiet_of_same (zeg x y _ (by omega) (by omega))))
   rename_i nq
   have HB5 := zwe (below_drewN HB.out nq)
   clear hx hy
   generalize wr.drewN nq = W at *
   by_cases h0 : V.numbers x y = 0
   ·have HN := zwe (HNEXT.out h0)
    rw [h0]
    clear h0
    go_wp2
    go_roundw
    case rel => exact ⟨k + 1, by omega, by go_num, HN.out, HB5.out⟩
    case measure => simp [intOf]; omega
   ·have HR : Hid (V.js (la, pa) (lb, pb) = V.numbers x y) := zwe (HHIT.out h0)
    have hb : (V.numbers x y != 0) = true := by simpa using h0
    generalize V.numbers x y = c at *
    clear h0
    go_wp2
    go_ret
    exact ⟨zp HR.out.symm, HB2.out.trans (HB5.out.mono HB2.out.size)⟩
  ·obtain rfl : k = 3 := by omega
   have HF : Hid (V.js (la, pa) (lb, pb) = V.zdo pa pb) := zwe (sem_zero _ _ HZ.out)
   have hP : Hid (V.zdo pa pb = if pa.isEmpty || pb.isEmpty then Lib.compareInt pb.length pa.length else V.ji V.kl pa pb) := rfl
   have HBE := zwe (HB2.out.trans (HB.out.mono HB2.out.size))
   clear hlt
   by_cases h1 : pa.length = 0
   ·have b1e : ((pa.length : Int) == 0) = true := by rw [h1]; rfl
    have b1g : ¬ (0 < pa.length) := by omega
    have HF3 : Hid (V.js (la, pa) (lb, pb) = Lib.compareInt pb.length 0) := zwe (by
      rw [HF.out, hP.out, if_pos (by rw [List.eq_nil_of_length_eq_zero h1]; rfl), h1]; rfl)
    clear h1
    by_cases h2 : 0 < pb.length
    ·have HF4 : Hid (V.js (la, pa) (lb, pb) = 1) := zwe (by
       rw [HF3.out]; unfold Lib.compareInt; rw [if_neg (by omega), if_pos (by omega)])
     go_wp2
     go_ret
     exact ⟨zp HF4.out.symm, HBE.out⟩
    ·have HF4 : Hid (V.js (la, pa) (lb, pb) = 0) := zwe (by
       rw [HF3.out]; unfold Lib.compareInt; rw [if_neg (by omega), if_neg (by omega)])
     go_wp2
     go_ret
     exact ⟨zp HF4.out.symm, HBE.out⟩
   ·have b1e : ((pa.length : Int) == 0) = false := by rw [zwi]; omega
    have b1g : 0 < pa.length := by omega
    by_cases h2 : pb.length = 0
    ·have b2e : ((pb.length : Int) == 0) = true := by rw [h2]; rfl
     have HF4 : Hid (V.js (la, pa) (lb, pb) = -1) := zwe (by
       rw [HF.out, hP.out, if_pos (by rw [List.eq_nil_of_length_eq_zero h2]; simp), h2]; unfold Lib.compareInt; rw [if_pos (by simp; omega)])
     clear h1 h2
     go_wp2
     go_ret
     exact ⟨zp HF4.out.symm, HBE.out⟩
    ·have b2e : ((pb.length : Int) == 0) = false := by rw [zwi]; omega
     have b2g : 0 < pb.length := by omega
     have HF3 : Hid (V.js (la, pa) (lb, pb) = V.ji V.kl pa pb) := zwe (by
       rw [HF.out, hP.out, if_neg]
       cases pa <;> cases pb <;> simp at h1 h2 ⊢)
     clear h1 h2
     obtain ⟨b5, o5, e5, lt5, _⟩ := HS1'.out.at 0 b1g
     obtain ⟨b6, o6, e6, lt6, _⟩ := HS2.out.at 0 b2g
     have HD1 : Hid (∀ j, j < pa.length -> w2.cell? ⟨b5, o5 + j, none⟩ = some (.string ⟨(pa.getD j []).toArray⟩)) := zwe (fun j hj => by
       obtain ⟨b', o', e', _, h⟩ := HS1'.out.at j hj
       rw [e5] at e'; cases e'; exact h)
     have HD2 : Hid (∀ j, j < pb.length -> w2.cell? ⟨b6, o6 + j, none⟩ = some (.string ⟨(pb.getD j []).toArray⟩)) := zwe (fun j hj => by
       obtain ⟨b', o', e', _, h⟩ := HS2.out.at j hj
       rw [e6] at e'; cases e'; exact h)
     subst e5 e6
     clear HS1' HS2
     obtain ⟨wo, hwo⟩ : ∃ wo : World, wo = wr := ⟨_, rfl⟩
     subst hwo
     go_wp2
     go_loopw [13] (fun i wr => ∃ k : Nat, k ≤ pa.length /\ k ≤ pb.length /\ i = .int .i64 k /\ (∀ j, j < k -> V.kl (pa.getD j []) (pb.getD j []) = 0) /\ Below w2.heap.size w2 wr) (fun i _ => pa.length - (intOf i).toNat)
     case atStart => exact ⟨0, Nat.zero_le _, Nat.zero_le _, rfl, fun j hj => by omega, HB.out⟩
     case round =>
      obtain ⟨k, hk1, hk2, rfl, hz, hB⟩ := hrel
      have HZ := zwe hz
      have HB := zwe hB
      clear hz hB
      by_cases hlt1 : k < pa.length
      ·by_cases hlt2 : k < pb.length
       ·have hx := (HB.out.cell (p := ⟨b5, o5 + k, none⟩) lt5).trans (HD1.out k hlt1)
        have hy := (HB.out.cell (p := ⟨b6, o6 + k, none⟩) lt6).trans (HD2.out k hlt2)
        have hlx := IA.out k
        have hly := IB.out k
        have HHIT := zwe (zi3 k pa pb hlt1 hlt2 HZ.out)
        have HNEXT : Hid (V.kl (pa.getD k []) (pb.getD k []) = 0 -> ∀ j, j < k + 1 -> V.kl (pa.getD j []) (pb.getD j []) = 0) := zwe (fun h0 j hj => by
          by_cases e : j = k
          · subst e; exact h0
          · exact HZ.out j (by omega))
        generalize pa.getD k [] = x at *
        generalize pb.getD k [] = y at *
        go_wp2
        go_quiet ((go_at_call 163; exact Calls.quiet_of_same (zmr x y _ (by omega) (by omega))))
        rename_i nq
        have HB5 := zwe (below_drewN HB.out nq)
        clear hx hy
        generalize wr.drewN nq = W at *
        by_cases h0 : V.kl x y = 0
        ·have HN := zwe (HNEXT.out h0)
         rw [h0]
         clear h0
         go_wp2
         go_roundw
         case rel => exact ⟨k + 1, by omega, by omega, by go_num, HN.out, HB5.out⟩
         case measure => simp [intOf]; omega
        ·have HR : Hid (V.js (la, pa) (lb, pb) = V.kl x y) := zwe (by rw [HF3.out]; exact HHIT.out h0)
         have hb : (V.kl x y != 0) = true := by simpa using h0
         generalize V.kl x y = c at *
         clear h0
         go_wp2
         go_ret
         exact ⟨zp HR.out.symm, HB2.out.trans (HB5.out.mono HB2.out.size)⟩
       ·have HR : Hid (V.js (la, pa) (lb, pb) = V.sgn ((pa.length : Int) - pb.length)) := zwe (by
          rw [HF3.out, zgk k pa pb hlt1 (by omega) HZ.out]; unfold V.sgn; rw [if_neg (by omega), if_pos (by omega)])
        exact z0n
      ·have HR : Hid (V.js (la, pa) (lb, pb) = V.sgn ((pa.length : Int) - pb.length)) := zwe (by
         rw [HF3.out, zfs k pa pb (by omega) hk2 HZ.out]; unfold V.sgn
         by_cases hl : k < pb.length
         · rw [if_pos hl, if_pos (by omega)]
         · rw [if_neg hl, if_neg (by omega), if_neg (by omega)])
       exact z0n
theorem zcg (n : Int) (w : World) :
  Calls Tryz.prog 56 #[.int .i64 n] w fun e w' => e = .returned (.bool (V.scheme n)) /\ w = w' := by
 have hs : V.scheme n = (decide (1 ≤ n) && decide (n ≤ 3)) := by
  rw [Bool.eq_iff_iff]; unfold V.scheme; simp; omega
 have HS := zwe hs
 clear hs
 go_enter Tryz.func56, Tryz.ntmps56
 go_wp2
 all_goals go_ret
 all_goals exact ⟨zc (by rw [HS.out]; simp_all; try omega), rfl⟩
theorem zz9 {P : Prop} (h : P := by
 rintro e w1 ⟨rfl, hb⟩
 have HB := zwe hb
 clear hb
 go_wp2
 go_ret
 exact ⟨zp HC.out.symm, HB.out⟩) : P := h
theorem zts (n : Int) (s t : ByteArray) (w : World) (hm : zg w) (hn : V.scheme n = true) (hs : V.valid n s.data.toList = true) (ht : V.valid n t.data.toList = true) :
  Calls Tryz.prog 100 #[.int .i64 n, .string s, .string t] w fun e w' => e = .returned (.int .i64 (V.cmpV n s.data.toList t.data.toList)) /\ Below w.heap.size w w' := by
 have l1 := V.vr hs
 have l2 := V.vr ht
 rw [zf] at l1 l2
 have HM := zwe hm
 have h3 : n = 1 ∨ n = 2 ∨ n = 3 := by unfold V.scheme at hn; simpa [or_assoc] using hn
 rcases h3 with rfl | rfl | rfl
 ·obtain ⟨⟨la, pa⟩, e1⟩ := Option.isSome_iff_exists.1 (show (V.zq s.data.toList).isSome = true by unfold V.valid V.uh at hs; simp at hs; exact hs.2)
  obtain ⟨⟨lb, pb⟩, e2⟩ := Option.isSome_iff_exists.1 (show (V.zq t.data.toList).isSome = true by unfold V.valid V.uh at ht; simp at ht; exact ht.2)
  have HC : Hid (V.cmpV 1 s.data.toList t.data.toList = V.js (la, pa) (lb, pb)) := zwe (by unfold V.cmpV; rw [if_pos rfl, e1, e2])
  have E1 := zwe e1
  have E2 := zwe e2
  clear e1 e2 hs ht hm hn
  go_enter Tryz.func100, Tryz.ntmps100
  go_wp2_with fail
  refine (zmo s t la pa lb pb _ HM.out l1 l2 E1.out E2.out).mono ?_
  exact zz9
 ·obtain ⟨⟨x0, x1, x2⟩, e1⟩ := Option.isSome_iff_exists.1 (show (V.zu s.data.toList).isSome = true by unfold V.valid V.uh at hs; simp at hs; exact hs.2)
  obtain ⟨⟨y0, y1, y2⟩, e2⟩ := Option.isSome_iff_exists.1 (show (V.zu t.data.toList).isSome = true by unfold V.valid V.uh at ht; simp at ht; exact ht.2)
  have HC : Hid (V.cmpV 2 s.data.toList t.data.toList = V.vv (x0, x1, x2) (y0, y1, y2)) := zwe (by unfold V.cmpV; rw [if_neg (by decide), if_pos rfl, e1, e2])
  have E1 := zwe e1
  have E2 := zwe e2
  clear e1 e2 hs ht hm hn
  go_enter Tryz.func100, Tryz.ntmps100
  go_wp2_with fail
  refine (zm0 s t x0 x1 x2 y0 y1 y2 _ HM.out l1 l2 E1.out E2.out).mono ?_
  exact zz9
 ·have HC : Hid (V.cmpV 3 s.data.toList t.data.toList = V.zbz s.data.toList t.data.toList) := zwe (by unfold V.cmpV; rw [if_neg (by decide), if_neg (by decide)])
  clear hs ht hm hn
  go_enter Tryz.func100, Tryz.ntmps100
  go_wp2_with fail
  refine (zr7 s t _ HM.out l1 l2).mono ?_
  exact zz9
open Go.RowKit
theorem ztb (n : Int) (s t : ByteArray) (c k : Int) (h : V.qt n s.data.toList t.data.toList = (c, k)) (w : World) (hm : zg w) (hs : s.size ≤ maxLen) (ht : t.size ≤ maxLen) :
  Calls Tryz.prog 125 #[.int .i64 n, .string s, .string t] w fun e w' => e = .returned (.tuple #[.int .i64 c, .int .i64 k]) /\ Below w.heap.size w w' := by
 have := zsi n s t w hm hs ht
 rw [h] at this
 exact this
open Go.RowKit
def Tape (w : World) (b k : Nat) : Prop :=
 ∃ (a : Option Addr) (m cap p : Nat), w.cell? ⟨b, 0, none⟩ = some (.slice a m cap) /\ w.cell? ⟨b, 1, none⟩ = some (.int .i64 p) /\ p ≤ k /\ m ≤ maxLen /\
  w.frozen? ⟨b, 1, none⟩ = false /\
  ∀ j, j < m -> ∃ b' off x, a = some ⟨b', off, none⟩ /\ b' < w.heap.size /\ b' < b /\ w.cell? ⟨b', off + j, none⟩ = some (.int .i64 x) /\ (Lit.int .i64 x).wf = true
theorem Tape.lt {w : World} {b k : Nat} (h : Tape w b k) : b < w.heap.size := by
 obtain ⟨a, m, cap, p, c0, _⟩ := h
 exact World.block_lt_of_cell? _ _ c0
theorem Tape.grown {w w' : World} {b k : Nat} {row : Option Nat} (h : Tape w b k) (hg : w.grownBy w' row) (hb : row ≠ some b) (hr : ∀ b', row = some b' -> b < b') : Tape w' b k := by
 obtain ⟨a, m, cap, p, c0, c1, hp, hm, hf, hx⟩ := h
 have hlt := World.block_lt_of_cell? _ _ c0
 refine ⟨a, m, cap, p, hg.cell c0 (fun e => hb e.symm), hg.cell c1 (fun e => hb e.symm), hp, hm, ?_, fun j hj => ?_⟩
 ·rw [World.frozen?_of_block (w := w) (hg.block b hlt (fun e => hb e.symm))]; exact hf
 ·obtain ⟨b', off, x, rfl, h1, h2, h3, h4⟩ := hx j hj
  exact ⟨b', off, x, rfl, Nat.lt_of_lt_of_le h1 hg.size, h2, hg.cell h3 (fun e => by have := hr b' e.symm; omega), h4⟩
theorem Tape.below {w w' : World} {b k : Nat} (h : Tape w b k) (hb : Below w.heap.size w w') : Tape w' b k := by
 obtain ⟨a, m, cap, p, c0, c1, hp, hm, hf, hx⟩ := h
 have hlt := World.block_lt_of_cell? _ _ c0
 refine ⟨a, m, cap, p, (hb.cell (p := ⟨b, 0, none⟩) hlt).trans c0, (hb.cell (p := ⟨b, 1, none⟩) hlt).trans c1, hp, hm, (hb.frozen (p := ⟨b, 1, none⟩) hlt).trans hf, fun j hj => ?_⟩
 obtain ⟨b', off, x, rfl, h1, h2, h3, h4⟩ := hx j hj
 exact ⟨b', off, x, rfl, Nat.lt_of_lt_of_le h1 hb.size, h2, (hb.cell (p := ⟨b', off + j, none⟩) h1).trans h3, h4⟩
theorem Tape.le {w : World} {b k k' : Nat} (h : Tape w b k) (hk : k ≤ k') : Tape w b k' := by
 obtain ⟨a, m, cap, p, c0, c1, hp, rest⟩ := h
 exact ⟨a, m, cap, p, c0, c1, Nat.le_trans hp hk, rest⟩
theorem zqu (w : World) (n : Nat) (row : Option Nat) : w.grownBy (w.drewN n) row :=
 have h := below_drewN (zwh w.heap.size w) n
 ⟨h.os, h.tape, h.output, h.size, fun k hk _ => h.block k hk⟩
theorem yd (w : World) (b o : Nat) (u : Value) : w.grownBy (w.setCell ⟨b, o, none⟩ u) (some b) :=
 ⟨rfl, rfl, rfl, by simp [World.setCell], fun k _ hk => Below.heap_setCell _ _ _ _ (fun e => hk (by rw [e]))⟩
theorem qw {w w' : World} (h : Below w.heap.size w w') (row : Option Nat) : w.grownBy w' row := ⟨h.os, h.tape, h.output, h.size, fun k hk _ => h.block k hk⟩
theorem zil {w w' : World} {b B : Nat} (h : w.grownBy w' (some b)) (hb : B ≤ b) (hB : B ≤ w.heap.size) : Below B w w' :=
 ⟨h.os, h.tape, h.output, h.size, fun k hk => h.block k (by omega) (fun e => by cases e; omega)⟩
theorem Tape.step {w : World} {b k : Nat} {a : Option Addr} {m cap p : Nat} {u : Nat} (c0 : w.cell? ⟨b, 0, none⟩ = some (.slice a m cap)) (c1 : w.cell? ⟨b, 1, none⟩ = some (.int .i64 p)) (hp : p ≤ k) (hm : m ≤ maxLen) (hf : w.frozen? ⟨b, 1, none⟩ = false)
  (hx : ∀ j, j < m -> ∃ b' off x, a = some ⟨b', off, none⟩ /\ b' < w.heap.size /\ b' < b /\ w.cell? ⟨b', off + j, none⟩ = some (.int .i64 x) /\ (Lit.int .i64 x).wf = true) (hu : u = p + 1) :
  Tape (w.setCell ⟨b, 1, none⟩ (.int .i64 (u : Int))) b (k + 1) := by
 subst hu
 have e : ∀ (b' o : Nat), b' ≠ b -> (w.setCell ⟨b, 1, none⟩ (.int .i64 ((p + 1 : Nat) : Int))).cell? ⟨b', o, none⟩ = w.cell? ⟨b', o, none⟩ := fun b' o hne =>
  World.cell?_setCell_other _ _ _ _ (by intro e; injection e with e; exact hne e.symm)
 refine ⟨a, m, cap, p + 1, ?_, ?_, by omega, hm, ?_, fun j hj => ?_⟩
 ·rw [World.cell?_setCell_other _ _ _ _ (by intro e; injection e with _ e; exact absurd e (by decide))]; exact c0
 ·rw [World.cell?_setCell_same _ _ _ c1]
 ·simp only [World.frozen?_setCell]; exact hf
 ·obtain ⟨b', off, x, rfl, h1, h2, h3, h4⟩ := hx j hj
  exact ⟨b', off, x, rfl, by simpa [World.setCell] using h1, h2, by rw [e _ _ (Nat.ne_of_lt h2)]; exact h3, h4⟩
def zrj (b k : Nat) (n : Int) (w : World) (e : Ending) (w' : World) : Prop :=
 ∃ r : Nat, (r : Int) < n /\ e = .returned (.int .i64 r) /\ Tape w' b (k + 1) /\ w.grownBy w' (some b)
theorem zka (x n : Int) (h : 1 ≤ n) : -n < x.tmod n /\ x.tmod n < n /\ 0 ≤ x.tmod n + n /\ 0 ≤ (x.tmod n + n) % n /\ (x.tmod n + n) % n < n := by
 have h1 := Int.lt_tmod_of_pos x (show (0 : Int) < n by omega)
 have h2 := Int.tmod_lt_of_pos x (show (0 : Int) < n by omega)
 exact ⟨by omega, h2, by omega, Int.emod_nonneg _ (by omega), Int.emod_lt_of_pos _ (by omega)⟩
theorem zrk {w W : World} {b k : Nat} {n v : Int} {a : Option Addr} {m cap p : Nat} (hW : ∃ i, W = w.drewN i) (c0 : w.cell? ⟨b, 0, none⟩ = some (.slice a m cap)) (c1 : w.cell? ⟨b, 1, none⟩ = some (.int .i64 p)) (hp : p ≤ k) (hm : m ≤ maxLen) (hf : w.frozen? ⟨b, 1, none⟩ = false)
  (hx : ∀ j, j < m -> ∃ b' off x, a = some ⟨b', off, none⟩ /\ b' < w.heap.size /\ b' < b /\ w.cell? ⟨b', off + j, none⟩ = some (.int .i64 x) /\ (Lit.int .i64 x).wf = true) (h0 : 0 ≤ v) (hv : v < n) :
  zrj b k n w (.returned (.int .i64 v)) (W.setCell ⟨b, 1, none⟩ (.int .i64 ((p : Int) + 1))) := by
 obtain ⟨i, rfl⟩ := hW
 have hg : w.grownBy (w.drewN i) none := zqu w i none
 have hlt := World.block_lt_of_cell? _ _ c0
 refine ⟨v.toNat, by omega, by rw [Int.toNat_of_nonneg h0], ?_, World.grownBy.trans (World.grownBy.but hg _) (yd _ _ _ _)⟩
 refine Tape.step (w := w.drewN i) (hg.cell c0 (by simp)) (hg.cell c1 (by simp)) hp hm ?_ (fun l hl => ?_) rfl
 ·rw [World.frozen?_of_block (w := w) (hg.block b hlt (by simp))]; exact hf
 ·obtain ⟨b', off, x, e, h1, h2, h3, h4⟩ := hx l hl
  exact ⟨b', off, x, e, Nat.lt_of_lt_of_le h1 hg.size, h2, hg.cell h3 (by simp), h4⟩
theorem zd3 (b k : Nat) (n : Int) (w : World) (h : Tape w b k) (hk : k ≤ 1000000000) (h1 : 1 ≤ n) (h2 : n ≤ 1000000000) :
  Calls Tryz.prog 20 #[.pointer (some ⟨b, 0, none⟩), .int .i64 n] w (zrj b k n w) := by
 obtain ⟨a, m, cap, p, c0, c1, hp, hm, hf, hx⟩ := h
 have HX := zwe hx
 have hz := World.block_lt_of_cell? _ _ c0
 unfold maxLen at hm
 clear hx
 by_cases hlt : p < m
 ·obtain ⟨b', off, x, rfl, hb', hne, hc, hwf⟩ := HX.out p hlt
  have hzb : -9223372036854775808 ≤ x /\ x ≤ 9223372036854775807 := by simpa [Lit.wf, IntKind.min, IntKind.max, IntKind.signed, IntKind.bits] using hwf
  obtain ⟨hz1, hz2⟩ := hzb
  obtain ⟨t1, t2, t3, t4, t5⟩ := zka x n h1
  clear hwf
  go_enter Tryz.func20, Tryz.ntmps20
  go_wp2
  go_quiet (fail)
  go_wp2
  go_quiet (fail)
  go_wp2
  go_ret
  exact zrk ⟨_, rfl⟩ c0 c1 hp hm hf HX.out t4 t5
 ·obtain ⟨t1, t2, t3, t4, t5⟩ := zka ((p : Int) * 7 + 3) n h1
  have t6 : 0 ≤ ((p : Int) * 7 + 3) % n := Int.emod_nonneg _ (by omega)
  have t7 : ((p : Int) * 7 + 3) % n < n := Int.emod_lt_of_pos _ (by omega)
  go_enter Tryz.func20, Tryz.ntmps20
  go_wp2
  go_quiet (fail)
  go_wp2
  go_ret
  exact zrk ⟨_, rfl⟩ c0 c1 hp hm hf HX.out (Int.emod_nonneg _ (by omega)) (Int.emod_lt_of_pos _ (by omega))
open Go.RowKit
def PickPost (b k : Nat) (l : List V.Bs) (w : World) (e : Ending) (w' : World) : Prop :=
 ∃ x, x ∈ l /\ e = .returned (.string ⟨x.toArray⟩) /\ Tape w' b (k + 1) /\ w.grownBy w' (some b)
theorem zcp (b k : Nat) (w : World) (a : Addr) (cap : Nat) (l : List V.Bs) (h : Tape w b k) (hk : k ≤ 1000000) (hl : 0 < l.length) (hl2 : l.length ≤ 1000) (hab : a.block ≠ b) (hs : a.spot = none)
  (hc : ∀ j, j < l.length -> w.cell? ⟨a.block, a.off + j, none⟩ = some (.string ⟨(l.getD j []).toArray⟩)) :
  Calls Tryz.prog 18 #[.pointer (some ⟨b, 0, none⟩), .slice (some a) l.length cap] w (PickPost b k l w) := by
 have HC := zwe hc
 have HT := zwe h
 have HAB := zwe hab
 obtain ⟨ab, ao, asp⟩ := a
 simp only at hs
 subst hs
 clear hc h hab
 go_enter Tryz.func18, Tryz.ntmps18
 go_wp2_with fail
 refine (zd3 b k l.length _ HT.out (by omega) (by omega) (by omega)).mono ?_
 rintro e w1 ⟨r, hr, rfl, ht1, hg1⟩
 have hrl : r < l.length := by omega
 have hcell := hg1.cell (HC.out r hrl) (by intro e; cases e; exact HAB.out rfl)
 have HT1 := zwe ht1
 have HG1 := zwe hg1
 have HMem : Hid (l.getD r [] ∈ l) := zwe (by rw [List.getD_eq_getElem?_getD, List.getElem?_eq_getElem hrl]; exact List.getElem_mem _)
 clear ht1 hg1 hr
 generalize l.getD r [] = x at *
 go_wp2
 go_ret
 exact ⟨x, HMem.out, rfl, HT1.out, HG1.out⟩
def zo8 : List V.Bs := [[49, 46, 48, 46, 48], [49, 46, 50, 46, 48], [49, 46, 50, 46, 51], [50, 46, 48, 46, 48, 45, 114, 99, 46, 49], [50, 46, 48, 46, 48], [50, 46, 48, 46, 48, 43, 98], [48, 46, 57, 46, 48], [49, 46, 49, 48, 46, 48], [49, 46, 48, 46, 48, 45, 97, 108, 112, 104, 97]]
def zpi : List V.Bs := [[49, 46, 48], [49, 46, 48, 45, 49], [49, 46, 48, 126, 114, 99, 49], [49, 58, 48, 46, 53], [49, 46, 48, 48], [50, 46, 48], [49, 46, 48, 45, 49, 46, 49], [49, 46, 48, 43, 98], [48, 58, 49, 46, 48]]
def zpd : List V.Bs := [[49], [49, 46, 48], [49, 46, 50], [49, 46, 49, 48], [50], [48, 49], [48, 46, 57], [49, 46, 48, 46, 49]]
def VerPost (b k : Nat) (n : Int) (w : World) (e : Ending) (w' : World) : Prop :=
 ∃ x : V.Bs, V.valid n x = true /\ e = .returned (.string ⟨x.toArray⟩) /\ Tape w' b (k + 1) /\ w.grownBy w' (some b)
theorem zyd {P : Prop} (h : P := by
 rintro e w1 ⟨x, hx, rfl, ht1, hg1⟩
 have HX := zwe (HL.out x hx)
 have HT1 := zwe ht1
 have HG1 := zwe (World.grownBy.trans (World.grownBy_alloc w _ (some b)) hg1)
 clear hx ht1 hg1
 go_wp2
 go_ret
 exact ⟨x, HX.out, rfl, HT1.out, HG1.out⟩) : P := h
theorem zzr {P : Prop} (h : P := by
 intro j; rcases j with ⟨j, hj⟩
 have h9 : j = 0 ∨ j = 1 ∨ j = 2 ∨ j = 3 ∨ j = 4 ∨ j = 5 ∨ j = 6 ∨ j = 7 ∨ j = 8 := by omega
 rcases h9 with rfl | rfl | rfl | rfl | rfl | rfl | rfl | rfl | rfl <;> rfl) : P := h
theorem ziu (b k : Nat) (n : Int) (w : World) (h : Tape w b k) (hk : k ≤ 1000000) (hn : V.scheme n = true) :
  Calls Tryz.prog 47 #[.pointer (some ⟨b, 0, none⟩), .int .i64 n] w (VerPost b k n w) := by
 have HT := zwe h
 have hs : n = 1 ∨ n = 2 ∨ n = 3 := by unfold V.scheme at hn; simpa [or_assoc] using hn
 clear h hn
 rcases hs with rfl | rfl | rfl
 ·have HL : Hid (∀ x ∈ zo8, V.valid 1 x = true) := zwe (by decide +kernel)
  go_enter Tryz.func47, Tryz.ntmps47
  go_wp2_with fail
  refine (zcp b k _ ⟨w.heap.size, 0, none⟩ 9 zo8 ((HT.out.below ((zwh _ w).alloc (zwg _) _))) (by omega) (by decide) (by decide) (by have := HT.out.lt; simp; omega) rfl (fun j hj => by
    rw [World.cell?_alloc_new, Nat.zero_add]
    have : ∀ j : Fin 9, (#[Value.string ⟨#[49, 46, 48, 46, 48]⟩, Value.string ⟨#[49, 46, 50, 46, 48]⟩, Value.string ⟨#[49, 46, 50, 46, 51]⟩, Value.string ⟨#[50, 46, 48, 46, 48, 45, 114, 99, 46, 49]⟩, Value.string ⟨#[50, 46, 48, 46, 48]⟩, Value.string ⟨#[50, 46, 48, 46, 48, 43, 98]⟩, Value.string ⟨#[48, 46, 57, 46, 48]⟩, Value.string ⟨#[49, 46, 49, 48, 46, 48]⟩, Value.string ⟨#[49, 46, 48, 46, 48, 45, 97, 108, 112, 104, 97]⟩])[j.val]? = some (Value.string ⟨(zo8.getD j.val []).toArray⟩) := by
      exact zzr
    exact this ⟨j, hj⟩)).mono ?_
  exact zyd
 ·have HL : Hid (∀ x ∈ zpi, V.valid 2 x = true) := zwe (by decide +kernel)
  go_enter Tryz.func47, Tryz.ntmps47
  go_wp2_with fail
  refine (zcp b k _ ⟨w.heap.size, 0, none⟩ 9 zpi ((HT.out.below ((zwh _ w).alloc (zwg _) _))) (by omega) (by decide) (by decide) (by have := HT.out.lt; simp; omega) rfl (fun j hj => by
    rw [World.cell?_alloc_new, Nat.zero_add]
    have : ∀ j : Fin 9, (#[Value.string ⟨#[49, 46, 48]⟩, Value.string ⟨#[49, 46, 48, 45, 49]⟩, Value.string ⟨#[49, 46, 48, 126, 114, 99, 49]⟩, Value.string ⟨#[49, 58, 48, 46, 53]⟩, Value.string ⟨#[49, 46, 48, 48]⟩, Value.string ⟨#[50, 46, 48]⟩, Value.string ⟨#[49, 46, 48, 45, 49, 46, 49]⟩, Value.string ⟨#[49, 46, 48, 43, 98]⟩, Value.string ⟨#[48, 58, 49, 46, 48]⟩])[j.val]? = some (Value.string ⟨(zpi.getD j.val []).toArray⟩) := by
      exact zzr
    exact this ⟨j, hj⟩)).mono ?_
  exact zyd
 ·have HL : Hid (∀ x ∈ zpd, V.valid 3 x = true) := zwe (by decide +kernel)
  go_enter Tryz.func47, Tryz.ntmps47
  go_wp2_with fail
  refine (zcp b k _ ⟨w.heap.size, 0, none⟩ 8 zpd ((HT.out.below ((zwh _ w).alloc (zwg _) _))) (by omega) (by decide) (by decide) (by have := HT.out.lt; simp; omega) rfl (fun j hj => by
    rw [World.cell?_alloc_new, Nat.zero_add]
    have : ∀ j : Fin 8, (#[Value.string ⟨#[49]⟩, Value.string ⟨#[49, 46, 48]⟩, Value.string ⟨#[49, 46, 50]⟩, Value.string ⟨#[49, 46, 49, 48]⟩, Value.string ⟨#[50]⟩, Value.string ⟨#[48, 49]⟩, Value.string ⟨#[48, 46, 57]⟩, Value.string ⟨#[49, 46, 48, 46, 49]⟩])[j.val]? = some (Value.string ⟨(zpd.getD j.val []).toArray⟩) := by
      intro j; rcases j with ⟨j, hj⟩
      have h9 : j = 0 ∨ j = 1 ∨ j = 2 ∨ j = 3 ∨ j = 4 ∨ j = 5 ∨ j = 6 ∨ j = 7 := by omega
      rcases h9 with rfl | rfl | rfl | rfl | rfl | rfl | rfl | rfl <;> rfl
    exact this ⟨j, hj⟩)).mono ?_
  exact zyd
def Nums (w : World) (a : Option Addr) (m : Nat) : Prop :=
 m ≤ maxLen /\ ∀ j, j < m -> ∃ b' off x, a = some ⟨b', off, none⟩ /\ b' < w.heap.size /\ w.cell? ⟨b', off + j, none⟩ = some (.int .i64 x) /\ (Lit.int .i64 x).wf = true
theorem Tape.made {w w' : World} {a : Option Addr} {m cap b : Nat} (h : Nums w a m) (hb : Below w.heap.size w w') (hlt : w.heap.size ≤ b) (c0 : w'.cell? ⟨b, 0, none⟩ = some (.slice a m cap)) (c1 : w'.cell? ⟨b, 1, none⟩ = some (.int .i64 0)) (hf : w'.frozen? ⟨b, 1, none⟩ = false) : Tape w' b 0 := by
 obtain ⟨hm, hx⟩ := h
 refine ⟨a, m, cap, 0, c0, c1, zwg _, hm, hf, fun j hj => ?_⟩
 obtain ⟨b', off, x, rfl, h1, h2, h3⟩ := hx j hj
 exact ⟨b', off, x, rfl, Nat.lt_of_lt_of_le h1 hb.size, by omega, (hb.cell (p := ⟨b', off + j, none⟩) h1).trans h2, h3⟩
theorem cell_set (w : World) (b o b' o' : Nat) (u : Value) (h : ∃ v, w.cell? ⟨b, o, none⟩ = some v) : (w.setCell ⟨b, o, none⟩ u).cell? ⟨b', o', none⟩ = if b' = b /\ o' = o then some u else w.cell? ⟨b', o', none⟩ := by
 obtain ⟨v, hv⟩ := h
 split
 ·rename_i h; obtain ⟨rfl, rfl⟩ := h; exact World.cell?_setCell_same _ _ _ hv
 ·rename_i h
  exact World.cell?_setCell_other _ _ _ _ (by intro e; injection e with e1 e2; exact h ⟨e1.symm, e2.symm⟩)
open Go.RowKit
structure ThreeInv (w : World) (n : Int) (k : Nat) (wr : World) : Prop where
 below : Below w.heap.size w wr
 size : w.heap.size + 2 < wr.heap.size
 tape : Tape wr (w.heap.size + 1) k
 out : ∃ xs : Nat -> V.Bs, (∀ j, j < 3 -> wr.cell? ⟨w.heap.size + 2, j, none⟩ = some (.string ⟨(xs j).toArray⟩)) /\ ∀ j, j < k -> V.valid n (xs j) = true
 free : ∀ j, wr.frozen? ⟨w.heap.size + 2, j, none⟩ = false
 res : ∀ j, j < 3 -> wr.cell? ⟨w.heap.size, j, none⟩ = some (.string ⟨#[]⟩)
 resfree : ∀ j, wr.frozen? ⟨w.heap.size, j, none⟩ = false
theorem ThreeInv.later {w W W1 : World} {n : Int} {k : Nat} (h : ThreeInv w n k W) (hb : Below W.heap.size W W1) : ThreeInv w n k W1 := by
 obtain ⟨h1, h2, h3, ⟨xs, h4, h5⟩, h6, h7, h8⟩ := h
 have c := fun o v (g : W.cell? ⟨w.heap.size + 2, o, none⟩ = some v) => (hb.cell (p := ⟨w.heap.size + 2, o, none⟩) h2).trans g
 exact ⟨h1.trans (hb.mono h1.size), Nat.lt_of_lt_of_le h2 hb.size, h3.below hb, ⟨xs, fun j hj => c j _ (h4 j hj), h5⟩, fun j => (hb.frozen (p := ⟨w.heap.size + 2, j, none⟩) h2).trans (h6 j),
   fun j hj => (hb.cell (p := ⟨w.heap.size, j, none⟩) (by simp; omega)).trans (h7 j hj), fun j => (hb.frozen (p := ⟨w.heap.size, j, none⟩) (by simp; omega)).trans (h8 j)⟩
theorem z0d {P : Prop} (h : P := by
 have h1 : ¬ x < y := fun g => by rw [UInt8.lt_iff_toNat_lt] at h g; omega
 have h2 : (x == y) = false := by
  rw [zwi]; intro g; subst g; simp at h
 rw [e, h2]; simp [h1]) : P := h
theorem wv : ∀ a b : V.Bs, Op.bytesLess a b = decide (V.cb a b < 0)
 | [], [] => rfl
 | [], _ :: _ => rfl
 | _ :: _, [] => rfl
 | x :: a, y :: b => by
  unfold Op.bytesLess
  rcases V.zjn x y a b with ⟨h, e⟩ | ⟨h, e⟩ | ⟨h, e⟩
  ·rw [e]; simp [h]
  ·subst h
   have : ¬ x < x := by simp
   rw [e, ← wv a b]; simp [this]
  ·exact z0d
end Go.Proofs.YtcfbkcapbbhmpaaGreatDoor
