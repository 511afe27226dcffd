/-
  Lemmas for the law.
-/
import Derived.Test.YtbikeahmldobkaaGreatDoorC51x14
import Derived.Test.YtbikeahmldobkaaGreatDoorC51x07
import Derived.Test.YtbikeahmldobkaaGreatDoorC51x10
import Derived.Test.YtbikeahmldobkaaGreatDoorC51x11
import Derived.Deep.DeepCutAuto
import Derived.BigRegion
import Derived.OwnWalk
import Derived.StillTailTactics
set_option linter.all false
set_option maxRecDepth 100000
set_option maxHeartbeats 3200000
namespace Go.Proofs.YtbikeahmldobkaaGreatDoor
open Go.RowKit
def xj (e : V.Bs) : V.Bs := if e = [] then [48] else e
def RDeb (r : Option (V.Bs × V.Bs × V.Bs)) (w : World) (e : Ending) (w' : World) : Prop :=
 Below w.heap.size w w' /\ match r with
 | none => e = .returned (.tuple #[.slice none 0 0, .bool false])
 | some (E, U, R) => ∃ v, e = .returned (.tuple #[v, .bool true]) /\ Strs w' v [xj E, U, R]
theorem Strs.three (w : World) (x y z : V.Bs) (t : Nat) : Strs (w.alloc (.cells #[.string ⟨x.toArray⟩, .string ⟨y.toArray⟩, .string ⟨z.toArray⟩] t)) (.slice (some ⟨w.heap.size, 0, none⟩) 3 3) [x, y, z] :=
 Strs.split w [x, y, z] t
theorem zdm (s : ByteArray) (w : World) (hm : zj w) (hs : s.size ≤ 1000) :
  Calls Tryz.prog 89 #[.string s] w (RDeb (V.zw s.data.toList) w) := by
 obtain ⟨ep, re, H, g2⟩ : ∃ a b c, V.cut1 58 s.data.toList = (a, b, c) := ⟨_, _, _, rfl⟩
 have HP : Hid (V.zw s.data.toList = if H then if V.numb ep false then V.jc ep re else none else V.jc [] s.data.toList) := zu8 (by
   unfold V.zw; rw [g2])
 have hl1 : ep.length ≤ s.size /\ re.length ≤ s.size := by
  have := yg 58 s.data.toList
  rw [g2, zh] at this
  exact this
 obtain ⟨hl1, h3⟩ := hl1
 have HX1 := zu8 g2
 have HM := zu8 hm
 clear g2 hm
 go_enter Tryz.func89, Tryz.ntmps89
 go_wp2_with fail
 refine (zcn s 58 _ HM.out (by omega)).mono ?_
 rintro e w1 ⟨rfl, hb1⟩
 simp only [HX1.out]
 have HB1 := zu8 hb1
 clear hb1
 go_upto_if 17 with (fail)
 go_cut [4, 5] (fun v4 v5 wx => ∃ (E E0 : V.Bs) (V1 : ByteArray), v4 = .string ⟨E.toArray⟩ /\ v5 = .string V1 /\ E.length ≤ 1000 /\ V1.size ≤ s.size /\ Below w.heap.size w wx /\
   V.zw s.data.toList = (if V.digits E then V.jc E0 V1.data.toList else none) /\ (V.digits E = true -> xj E0 = E))
 case first =>
  cases H with
  | false =>
   go_wp2
   go_meet
   exact ⟨[48], [], s, rfl, rfl, by simp, zva _, HB1.out, by rw [HP.out]; rfl, fun _ => rfl⟩
  | true =>
   go_wp2
   go_meet
   exact ⟨ep, ep, ⟨re.toArray⟩, rfl, rfl, by omega, h3, HB1.out, by
     rw [HP.out]
     have : V.numb ep false = V.digits ep := by unfold V.numb; simp
     rw [this]; rfl, fun hd => by
     unfold xj
     rw [if_neg]
     intro e0
     have := zey hd
     rw [e0] at this
     simp at this⟩
 case rest =>
  obtain ⟨E, E0, V1, rfl, rfl, j2, h4, hb2, g4, g8⟩ := hcut
  have HB2 := zu8 hb2
  have g0 := zu8 g4
  have h5 := zu8 g8
  clear hb2 g4 g8 HP HX1 HB1
  obtain ⟨wo, rfl⟩ : ∃ wo : World, wo = wc := ⟨_, rfl⟩
  go_wp2_with fail
  refine (Tryz.strings_LastIndex_one V1 ⟨#[45]⟩ rfl (by omega) _).mono ?_
  rintro e w3 ⟨rfl, rfl⟩
  have g1 : Lib.lastIndexByte V1 (((ByteArray.mk #[45])[0]'(by decide)).toNat : Int) = V.ja V1.data.toList := by unfold V.ja; rw [zk4]; rfl
  rw [g1]
  clear g1
  obtain ⟨ld, g1⟩ : ∃ ld, V.ja V1.data.toList = ld := ⟨_, rfl⟩
  have HLD := zu8 g1
  rw [g1]
  clear g1
  have g5 : (ld < 0) ∨ ∃ i : Nat, ld = i /\ i < V1.size := by
   exact zxp
  go_upto_if 23 with (fail)
  go_cut [7, 8] (fun v7 v8 wx => ∃ (U R : V.Bs), v7 = .string ⟨U.toArray⟩ /\ v8 = .string ⟨R.toArray⟩ /\ U.length ≤ s.size /\ Below w.heap.size w wx /\
    V.jc E0 V1.data.toList = if V.only (V.kind [46, 43, 126, 45]) U && V.dig (U.getD 0 0) then some (E0, U, R) else none)
  case first =>
   rcases g5 with h2 | ⟨i, rfl, hlt⟩
   ·have HN : Hid (V.ja V1.data.toList < 0) := zu8 (by rw [HLD.out]; exact h2)
    go_wp2
    go_meet
    exact ⟨V1.data.toList, [], by rw [zk4], rfl, by rw [zh]; exact h4, HB2.out, zjn HN.out⟩
   ·have j3 : (0 : Int) ≤ (i : Int) := by omega
    have g6 : V1.extract 0 i = ⟨(V1.data.toList.take i).toArray⟩ := yc (by rw [Lib.extract_data]; simp)
    have g7 : V1.extract (i + 1) V1.size = ⟨(V1.data.toList.drop (i + 1)).toArray⟩ := yc (by rw [Lib.extract_to_end])
    have h6 := zu8 g6
    have h7 := zu8 g7
    have g9 : (V1.data.toList.drop (i + 1)).length ≤ maxLen := by rw [List.length_drop, zh]; unfold maxLen; omega
    have h0 : (V1.data.toList.take i).length ≤ s.size := by rw [List.length_take, zh]; omega
    have h8 := zu8 g9
    have h9 := zu8 h0
    clear g6 g7 g9 h0
    rcases hk : V.only (V.kind V.allow) (V1.data.toList.drop (i + 1)) with _ | _
    all_goals
     have HK := zu8 hk
     clear hk
     go_wp2
     go_region
     go_wp2_with fail
     rw [h7.out]
     refine (uw ⟨(V1.data.toList.drop (i + 1)).toArray⟩ ⟨#[46, 43, 126]⟩ _ h8.out).mono ?_
     rintro e w' ⟨rfl, rfl⟩
     have j0 : V.only (V.kind (ByteArray.mk #[46, 43, 126]).data.toList) (ByteArray.mk (V1.data.toList.drop (i + 1)).toArray).data.toList = V.only (V.kind V.allow) (V1.data.toList.drop (i + 1)) := rfl
     rw [j0, HK.out]
     go_wp2
    ·go_ret2
     have HN : Hid (V.zw s.data.toList = none) := zu8 (by rw [g0.out, zhg HLD.out HK.out]; simp)
     rw [HN.out]
     exact ⟨HB2.out.drew, rfl⟩
    ·go_meet
     exact ⟨V1.data.toList.take i, V1.data.toList.drop (i + 1), by rw [h6.out], rfl, h9.out, HB2.out.drew, zhe HLD.out HK.out⟩
  case rest =>
   obtain ⟨U, R, rfl, rfl, j1, hb5, g3⟩ := hcut
   have HB5 := zu8 hb5
   have HT := zu8 g3
   clear hb5 g3 HLD HB2
   rcases hd : V.digits E with _ | _
   ·have HD := zu8 hd
    have HN : Hid (V.zw s.data.toList = none) := zu8 (by rw [g0.out, hd]; rfl)
    clear hd
    go_wp2_with fail
    refine (qk ⟨E.toArray⟩ _ (by show E.length ≤ _; unfold maxLen; omega)).mono ?_
    rintro e w' ⟨rfl, rfl⟩
    simp only [HD.out]
    go_wp2
    go_ret2
    rw [HN.out]
    exact ⟨HB5.out, rfl⟩
   ·have HD := zu8 hd
    have HE := zu8 (h5.out hd)
    rcases hk : V.only (V.kind [46, 43, 126, 45]) U with _ | _
    ·have HK := zu8 hk
     have HN : Hid (V.zw s.data.toList = none) := zu8 (by rw [g0.out, hd, if_pos rfl, HT.out, hk]; rfl)
     clear hd hk
     go_wp2_with fail
     refine (qk ⟨E.toArray⟩ _ (by show E.length ≤ _; unfold maxLen; omega)).mono ?_
     rintro e w' ⟨rfl, rfl⟩
     simp only [HD.out]
     go_wp2_with fail
     refine (uw ⟨U.toArray⟩ ⟨#[46, 43, 126, 45]⟩ _ (by show U.length ≤ _; unfold maxLen; omega)).mono ?_
     rintro e w' ⟨rfl, rfl⟩
     simp only [HK.out]
     go_wp2
     go_ret2
     rw [HN.out]
     exact ⟨HB5.out, rfl⟩
    ·have HK := zu8 hk
     obtain ⟨u0, ur, rfl⟩ : ∃ u0 ur, U = u0 :: ur := by
      cases U with
      | nil => simp [V.only] at hk
      | cons u0 ur => exact ⟨u0, ur, rfl⟩
     have h1 : (ByteArray.mk (u0 :: ur).toArray).size = ur.length + 1 := by simp [ByteArray.size]
     rcases hg : V.digB u0.toNat with _ | _
     all_goals
      have HG := zu8 hg
      go_wp2_with fail
      refine (qk ⟨E.toArray⟩ _ (by show E.length ≤ _; unfold maxLen; omega)).mono ?_
      rintro e w' ⟨rfl, rfl⟩
      simp only [HD.out]
      go_wp2_with fail
      refine (uw ⟨(u0 :: ur).toArray⟩ ⟨#[46, 43, 126, 45]⟩ _ (by rw [h1]; unfold maxLen; simp at j1; omega)).mono ?_
      rintro e w' ⟨rfl, rfl⟩
      simp only [HK.out]
      go_wp2_with fail
      refine (za1 _ _).mono ?_
      rintro e w' ⟨rfl, rfl⟩
      rw [show V.digB (((ByteArray.mk (u0 :: ur).toArray)[0]'(by rw [h1]; omega)).toNat : Int) = V.digB u0.toNat from rfl, HG.out]
      go_wp2
      go_ret2
     ·have HN : Hid (V.zw s.data.toList = none) := zu8 (by
        rw [g0.out, hd, if_pos rfl, HT.out, hk, show V.dig ((u0 :: ur).getD 0 0) = V.digB u0.toNat from rfl, hg]; rfl)
      rw [HN.out]
      exact ⟨HB5.out, rfl⟩
     ·have HN : Hid (V.zw s.data.toList = some (E0, u0 :: ur, R)) := zu8 (by
        rw [g0.out, hd, if_pos rfl, HT.out, hk, show V.dig ((u0 :: ur).getD 0 0) = V.digB u0.toNat from rfl, hg]; rfl)
      rw [HN.out]
      refine ⟨HB5.out.alloc HB5.out.size _, _, rfl, ?_⟩
      rw [HE.out]
      exact Strs.three _ _ _ _ _
theorem zkz {r : Option (V.Bs × V.Bs × V.Bs)} {E U R : V.Bs} {w : World} {e : Ending} {w' : World} (h : RDeb r w e w') (hr : r = some (E, U, R)) :
  ∃ b off cap, e = .returned (.tuple #[.slice (some ⟨b, off, none⟩) 3 cap, .bool true]) /\ b < w'.heap.size /\ w'.cell? ⟨b, off, none⟩ = some (.string ⟨(xj E).toArray⟩) /\
   w'.cell? ⟨b, off + 1, none⟩ = some (.string ⟨U.toArray⟩) /\ w'.cell? ⟨b, off + 2, none⟩ = some (.string ⟨R.toArray⟩) /\ Below w.heap.size w w' := by
 subst hr
 obtain ⟨hb, v, rfl, hs⟩ := h
 obtain ⟨b, off, cap, rfl, hlt, hc⟩ := hs.head (by simp)
 exact ⟨b, off, cap, rfl, hlt, hc 0 (by simp), hc 1 (by simp), hc 2 (by simp), hb⟩
theorem zg0 (e : V.Bs) : V.value (xj e) = V.value e := by
 unfold xj
 split
 ·rename_i h; subst h; rfl
 ·rfl
theorem zdj (x y : V.Bs) (w : World) (hx : x.length ≤ 1000) (hy : y.length ≤ 1000) :
  Calls Tryz.prog 86 #[.string ⟨x.toArray⟩, .string ⟨y.toArray⟩] w fun e w' => e = .returned (.int .i64 (V.numbers x y)) /\ w' = w := by
 have h := zet ⟨x.toArray⟩ ⟨y.toArray⟩ w (by show x.length ≤ _; unfold maxLen; omega) (by show y.length ≤ _; unfold maxLen; omega)
 simp only  at h
 exact h.mono fun _ _ h => ⟨h.1, h.2.symm⟩
theorem zkp (s t : ByteArray) (x0 x1 x2 y0 y1 y2 : V.Bs) (w : World) (hm : zj w) (hs : s.size ≤ 64) (ht : t.size ≤ 64)
  (hp : V.zw s.data.toList = some (x0, x1, x2)) (hq : V.zw t.data.toList = some (y0, y1, y2)) :
  Calls Tryz.prog 53 #[.string s, .string t] w fun e w' => e = .returned (.int .i64 (V.yv (x0, x1, x2) (y0, y1, y2))) /\ Below w.heap.size w w' := by
 have fa := V.yy hp
 have fb := V.yy hq
 rw [zh] at fa fb
 have ga := V.zdi hp
 have gb := V.zdi hq
 obtain ⟨fa0, fa1, fa2⟩ := fa
 obtain ⟨fb0, fb1, fb2⟩ := fb
 simp only at fa0 fa1 fa2 fb0 fb1 fb2
 have GA := zu8 ga
 have GB := zu8 gb
 have g7 : (xj x0).length ≤ 65 := by unfold xj; split <;> (try simp) <;> omega
 have g8 : (xj y0).length ≤ 65 := by unfold xj; split <;> (try simp) <;> omega
 have HF : Hid (V.yv (x0, x1, x2) (y0, y1, y2) = V.cor (V.numbers (xj x0) (xj y0)) (V.cor (V.qi x1 y1) (V.qi x2 y2))) := zu8 (by
   unfold V.yv
   rw [V.zks (zg0 x0) (zg0 y0)]
   simp only [V.orI, V.zbv])
 obtain ⟨ex, g0⟩ : ∃ x, xj x0 = x := ⟨_, rfl⟩
 obtain ⟨ey, g3⟩ : ∃ x, xj y0 = x := ⟨_, rfl⟩
 rw [g0] at g7 HF
 rw [g3] at g8 HF
 have g9 := zu8 g0
 have h1 := zu8 g3
 have HP := zu8 hp
 have HQ := zu8 hq
 have HM := zu8 hm
 clear hp hq hm ga gb g0 g3
 go_enter Tryz.func53, Tryz.ntmps53
 go_wp2_with fail
 refine (zdm s _ HM.out (by omega)).mono ?_
 rintro e w1 h
 obtain ⟨b, off, cap, rfl, hlt, c0, c1, c2, hb1⟩ := zkz h HP.out
 rw [g9.out] at c0
 have h2 := HM.out.below hb1
 have HB1 := zu8 hb1
 clear h hb1
 go_wp2_with fail
 refine (zdm t _ h2 (by omega)).mono ?_
 rintro e w2 h
 obtain ⟨b', off', cap', rfl, g4, d0, d1, d2, hb2⟩ := zkz h HQ.out
 rw [h1.out] at d0
 have e0 := (hb2.cell (p := ⟨b, off, none⟩) hlt).trans c0
 have e1 := (hb2.cell (p := ⟨b, off + 1, none⟩) hlt).trans c1
 have e2 := (hb2.cell (p := ⟨b, off + 2, none⟩) hlt).trans c2
 have g5 : b < w2.heap.size := Nat.lt_of_lt_of_le hlt hb2.size
 have HB2 := zu9 HB1 hb2
 clear h hb2 c0 c1 c2 hlt
 go_wp2_with fail
 go_quiet ((go_at_call 86; exact Calls.quiet_of_same (zdj ex ey _ (by omega) (by omega))))
 rename_i nq
 have f1 : (w2.drewN nq).cell? ⟨b, off + 1, none⟩ = some (.string ⟨x1.toArray⟩) := by rw [World.cell?_drewN]; exact e1
 have f2 : (w2.drewN nq).cell? ⟨b, off + 2, none⟩ = some (.string ⟨x2.toArray⟩) := by rw [World.cell?_drewN]; exact e2
 have g1 : (w2.drewN nq).cell? ⟨b', off' + 1, none⟩ = some (.string ⟨y1.toArray⟩) := by rw [World.cell?_drewN]; exact d1
 have g2 : (w2.drewN nq).cell? ⟨b', off' + 2, none⟩ = some (.string ⟨y2.toArray⟩) := by rw [World.cell?_drewN]; exact d2
 have g6 := zu8 (below_drewN HB2.out nq)
 have lt1 : b < (w2.drewN nq).heap.size := Nat.lt_of_lt_of_le g5 (below_drewN (zvb w2.heap.size w2) nq).size
 have lt2 : b' < (w2.drewN nq).heap.size := Nat.lt_of_lt_of_le g4 (below_drewN (zvb w2.heap.size w2) nq).size
 clear e0 e1 e2 d0 d1 d2 HB2 g5 g4
 generalize w2.drewN nq = W at *
 by_cases h0 : V.numbers ex ey = 0
 ·have HF2 : Hid (V.yv (x0, x1, x2) (y0, y1, y2) = V.cor (V.qi x1 y1) (V.qi x2 y2)) := zu8 (by rw [HF.out, h0]; rfl)
  rw [h0]
  clear h0
  go_wp2
  go_still_tail 6, (by kernel_rfl)
  change wpList _ _ _ _ _ W.drew
  have k2 : W.drew.cell? ⟨b, off + 2, none⟩ = some (.string ⟨x2.toArray⟩) := by rw [World.cell?_drew]; exact f2
  have l2 : W.drew.cell? ⟨b', off' + 2, none⟩ = some (.string ⟨y2.toArray⟩) := by rw [World.cell?_drew]; exact g2
  have HBV := zu8 g6.out.drew
  have lt1' : b < W.drew.heap.size := lt1
  have lt2' : b' < W.drew.heap.size := lt2
  clear f1 f2 g1 g2 lt1 lt2 g6
  generalize W.drew = W2 at *
  go_wp2_with fail
  refine (zpx x1 y1 _ (by omega) (by omega) GA.out.1 GB.out.1).mono ?_
  rintro e w3 ⟨rfl, hb3⟩
  have m2 := (hb3.cell (p := ⟨b, off + 2, none⟩) lt1').trans k2
  have n2 := (hb3.cell (p := ⟨b', off' + 2, none⟩) lt2').trans l2
  have HB3 := zu9 HBV hb3
  clear k2 l2 lt1' lt2' hb3 HBV
  by_cases h0 : V.qi x1 y1 = 0
  ·have HF3 : Hid (V.yv (x0, x1, x2) (y0, y1, y2) = V.qi x2 y2) := zu8 (by rw [HF2.out, h0]; rfl)
   rw [h0]
   clear h0
   go_wp2
   go_still_tail 6, (by kernel_rfl)
   change wpList _ _ _ _ _ w3.drew
   have HBV := zu8 HB3.out.drew
   clear m2 n2 HB3
   generalize w3.drew = W4 at *
   go_wp2_with fail
   refine (zpx x2 y2 _ (by omega) (by omega) GA.out.2 GB.out.2).mono ?_
   rintro e w5 ⟨rfl, hb5⟩
   have HB5 := zu9 HBV hb5
   clear hb5
   go_wp2
   go_ret
   exact ⟨zu HF3.out.symm, HB5.out⟩
  ·have HF3 : Hid (V.yv (x0, x1, x2) (y0, y1, y2) = V.qi x1 y1) := zu8 (by rw [HF2.out, V.js h0])
   have hb : (V.qi x1 y1 != 0) = true := by simpa using h0
   generalize V.qi x1 y1 = c at *
   clear h0
   go_wp2
   go_ret
   exact ⟨zu HF3.out.symm, HB3.out⟩
 ·have HF2 : Hid (V.yv (x0, x1, x2) (y0, y1, y2) = V.numbers ex ey) := zu8 (by rw [HF.out, V.js h0])
  have hb : (V.numbers ex ey != 0) = true := by simpa using h0
  generalize V.numbers ex ey = c at *
  clear h0
  go_wp2
  go_ret
  exact ⟨zu HF2.out.symm, g6.out⟩
theorem zkw (s : ByteArray) (hs : s.size ≤ 64) : (V.zl 46 s.data.toList).length ≤ 65 /\ ∀ j, ((V.zl 46 s.data.toList).getD j [48]).length ≤ 65 := by
 have h1 := jf 46 s.data.toList
 have h2 := jx 46 s.data.toList
 rw [zh] at h1 h2
 refine ⟨by omega, fun j => ?_⟩
 rw [List.getD_eq_getElem?_getD]
 rcases hk : (V.zl 46 s.data.toList)[j]? with _ | x
 ·simp
 ·have := h2 x (List.mem_of_getElem? hk); simp; omega
theorem zwb {P : Prop} (h : P := by
 have HN := zu8 (HNEXT.out h0)
 rw [h0]
 clear h0
 have hk2 := hkm.out
 go_wp2
 go_round
 case rel => exact ⟨k + 1, by omega, by go_num, HN.out⟩
 case measure => simp [intOf]; omega) : P := h
theorem zpv (s t : ByteArray) (w : World) (hm : zj w) (hs : s.size ≤ 64) (ht : t.size ≤ 64) :
  Calls Tryz.prog 54 #[.string s, .string t] w fun e w' => e = .returned (.int .i64 (V.zaw s.data.toList t.data.toList)) /\ Below w.heap.size w w' := by
 have HF := zu8 (V.pad_dots s.data.toList t.data.toList)
 have g9 := zkw s hs
 have hlt := zkw t ht
 obtain ⟨L, hL⟩ : ∃ L, V.zl 46 s.data.toList = L := ⟨_, rfl⟩
 obtain ⟨M, hM⟩ : ∃ M, V.zl 46 t.data.toList = M := ⟨_, rfl⟩
 rw [hL] at g9 HF
 rw [hM] at hlt HF
 obtain ⟨l1, g7⟩ := g9
 obtain ⟨m1, g8⟩ := hlt
 have g7 := zu8 g7
 have g8 := zu8 g8
 have h1 := zu8 hm
 have HL := zu8 hL
 have HM := zu8 hM
 clear hm hL hM
 go_enter Tryz.func54, Tryz.ntmps54
 go_wp2_with fail
 refine (ki s 46 _ h1.out (by omega)).mono ?_
 rintro e w1 ⟨rfl, g3⟩
 rw [HL.out] at g3 ⊢
 have hb1 : Below w.heap.size w w1 := by rw [g3]; exact (zvb _ _).alloc (zva _) _
 have c1 := yt g3
 have z1 : w.heap.size < w1.heap.size := by rw [g3]; simp
 clear g3
 go_wp2_with fail
 refine (ki t 46 _ (h1.out.below hb1) (by omega)).mono ?_
 rintro e w2 ⟨rfl, g4⟩
 rw [HM.out] at g4 ⊢
 have hb2 : Below w1.heap.size w1 w2 := by rw [g4]; exact (zvb _ _).alloc (zva _) _
 have h2 : Hid (∀ (j : Nat) (_ : j < L.length), w2.cell? ⟨w.heap.size, j, none⟩ = some (.string ⟨(L.getD j [48]).toArray⟩)) := zu8 (fun j hj => by
   rw [hb2.cell (p := ⟨w.heap.size, j, none⟩) z1, c1 j hj, List.getD_eq_getElem?_getD, List.getElem?_eq_getElem hj]; rfl)
 have h3 : Hid (∀ (j : Nat) (_ : j < M.length), w2.cell? ⟨w1.heap.size, j, none⟩ = some (.string ⟨(M.getD j [48]).toArray⟩)) := zu8 (fun j hj => by
   rw [yt g4 j hj, List.getD_eq_getElem?_getD, List.getElem?_eq_getElem hj]; rfl)
 have HB2 := zu8 (hb1.trans (hb2.mono hb1.size))
 clear hb1 hb2 c1 z1 g4
 go_wp2
 go_loop [7] (fun i => ∃ k : Nat, k ≤ max L.length M.length /\ i = .int .i64 k /\ ∀ j, j < k -> V.numbers (L.getD j [48]) (M.getD j [48]) = 0) (fun i => max L.length M.length - (intOf i).toNat)
 case atStart => exact ⟨0, Nat.zero_le _, rfl, fun j hj => by omega⟩
 case round =>
  obtain ⟨k, hk, rfl, hz⟩ := hrel
  have HZ := zu8 hz
  clear hz
  by_cases hor : k < L.length ∨ k < M.length
  ·have h4 := g7.out k
   have h5 := g8.out k
   have g0 := zu8 (V.pad_hit k L M HZ.out hor)
   obtain ⟨x, hx⟩ : ∃ x, L.getD k [48] = x := ⟨_, rfl⟩
   obtain ⟨y, hy⟩ : ∃ y, M.getD k [48] = y := ⟨_, rfl⟩
   have HX := zu8 hx
   have HY := zu8 hy
   have g1 := h2.out k
   have g2 := h3.out k
   rw [hx] at h4 g1 g0
   rw [hy] at h5 g2 g0
   have g5 : ¬ k < L.length -> x = [48] := fun h => by rw [← hx, List.getD_eq_getElem?_getD, List.getElem?_eq_none (by omega)]; rfl
   have g6 : ¬ k < M.length -> y = [48] := fun h => by rw [← hy, List.getD_eq_getElem?_getD, List.getElem?_eq_none (by omega)]; rfl
   have HNEXT : Hid (V.numbers x y = 0 -> ∀ j, j < k + 1 -> V.numbers (L.getD j [48]) (M.getD j [48]) = 0) := zu8 (fun h0 j hj => by
     by_cases e : j = k
     · subst e; rw [HX.out, HY.out]; exact h0
     · exact HZ.out j (by omega))
   have hkm : Hid (k < max L.length M.length) := zu8 (by omega)
   clear hx hy
   have three : (k < L.length /\ k < M.length) ∨ (k < L.length /\ ¬ k < M.length) ∨ (¬ k < L.length /\ k < M.length) := by omega
   clear hor
   rcases three with ⟨a1, a2⟩ | ⟨a1, a2⟩ | ⟨a1, a2⟩
   ·have d1 := g1 a1
    have d2 := g2 a2
    clear g5 g6 g1 g2
    go_wp2_with fail
    refine (zdj x y _ (by omega) (by omega)).mono ?_
    rintro e w' ⟨rfl, rfl⟩
    by_cases h0 : V.numbers x y = 0
    ·exact zwb
    ·have HR : Hid (V.zaw s.data.toList t.data.toList = V.numbers x y) := zu8 (by rw [← HF.out]; exact g0.out h0)
     have hb : (V.numbers x y != 0) = true := by simpa using h0
     generalize V.numbers x y = c at *
     exact zyp
   ·have d1 := g1 a1
    obtain rfl := g6 a2
    clear g5 g6 g1 g2
    go_wp2_with fail
    refine (zdj x [48] _ (by omega) (by simp)).mono ?_
    rintro e w' ⟨rfl, rfl⟩
    by_cases h0 : V.numbers x [48] = 0
    ·exact zwb
    ·have HR : Hid (V.zaw s.data.toList t.data.toList = V.numbers x [48]) := zu8 (by rw [← HF.out]; exact g0.out h0)
     have hb : (V.numbers x [48] != 0) = true := by simpa using h0
     generalize V.numbers x [48] = c at *
     exact zyp
   ·have d2 := g2 a2
    obtain rfl := g5 a1
    clear g5 g6 g1 g2
    go_wp2_with fail
    refine (zdj [48] y _ (by simp) (by omega)).mono ?_
    rintro e w' ⟨rfl, rfl⟩
    by_cases h0 : V.numbers [48] y = 0
    ·exact zwb
    ·have HR : Hid (V.zaw s.data.toList t.data.toList = V.numbers [48] y) := zu8 (by rw [← HF.out]; exact g0.out h0)
     have hb : (V.numbers [48] y != 0) = true := by simpa using h0
     generalize V.numbers [48] y = c at *
     exact zyp
  ·have HE : Hid (V.zaw s.data.toList t.data.toList = 0) := zu8 (by rw [← HF.out]; exact V.pad_end k L M HZ.out hor)
   have a1 : ¬ k < L.length := by omega
   have a2 : ¬ k < M.length := by omega
   clear hor
   go_wp2
   go_ret
   exact ⟨zu HE.out.symm, HB2.out⟩
open Go.RowKit
theorem zg3 {s : ByteArray} (h : 1 ≤ s.size) : s.toList.isEmpty = false := by
 rw [Lib.toList_data]
 have : 0 < s.data.toList.length := by rw [zh]; omega
 cases hl : s.data.toList with
 | nil => rw [hl] at this; simp at this
 | cons => rfl
theorem zxs {P : Prop} (h : P := by
 go_enter Tryz.func84, Tryz.ntmps84
 go_wp2
 go_ret
 exact ⟨ze HF.out.symm, zvb _ _⟩) : P := h
theorem zya {P : Prop} (h : P := by
 go_wp2
 go_ret
 exact ⟨ze (by rw [HF.out, HS.out]; rfl), hb⟩) : P := h
theorem vl (n : Int) (s : ByteArray) (w : World) (hm : zj w) (hs : s.size ≤ maxLen) :
  Calls Tryz.prog 84 #[.int .i64 n, .string s] w fun e w' => e = .returned (.bool (V.valid n s.data.toList)) /\ Below w.heap.size w w' := by
 unfold maxLen at hs
 have HM := zu8 hm
 clear hm
 by_cases g0 : s.size = 0 ∨ 64 < s.size
 ·have HF : Hid (V.valid n s.data.toList = false) := zu8 (by
    unfold V.valid
    rw [zh]
    rcases g0 with h | h
    · rw [h]; rfl
    · have : decide (s.size ≤ 64) = false := by simp; omega
      rw [this]; simp)
  rcases g0 with h0 | h5
  ·have he : s = ⟨#[]⟩ := yc (by
     have : s.data.toList = [] := List.eq_nil_of_length_eq_zero (by rw [zh]; exact h0)
     rw [this])
   subst he
   exact zxs
  ·have g3 : s.toList.isEmpty = false := zg3 (by omega)
   have h3 : ¬ s.toList = [] := by simpa using g3
   exact zxs
 ·have h1 : 1 ≤ s.size := by omega
  have h2 : s.size ≤ 64 := by omega
  have HF : Hid (V.valid n s.data.toList = V.xl n s.data.toList) := zu8 (by
    unfold V.valid
    rw [zh]
    simp [h1, h2])
  have g3 : s.toList.isEmpty = false := zg3 h1
  have h3 : ¬ s.toList = [] := by simpa using g3
  have h4 : (s.size : Int) ≤ 64 := by omega
  clear g0
  by_cases n1 : n = 1
  ·subst n1
   have HS : Hid (V.xl 1 s.data.toList = (V.zo s.data.toList).isSome) := zu8 rfl
   go_enter Tryz.func84, Tryz.ntmps84
   go_wp2_with fail
   refine (zc7 s _ HM.out (by omega)).mono ?_
   rintro e w1 ⟨hb, he⟩
   rcases hp : V.zo s.data.toList with _ | ⟨l, ids⟩
   ·rw [hp] at he HS
    subst he
    exact zya
   ·rw [hp] at he HS
    obtain ⟨v, u, rfl, _, _⟩ := he
    exact zya
  ·by_cases n2 : n = 2
   ·subst n2
    have HS : Hid (V.xl 2 s.data.toList = (V.zw s.data.toList).isSome) := zu8 rfl
    go_enter Tryz.func84, Tryz.ntmps84
    go_wp2_with fail
    refine (zdm s _ HM.out (by omega)).mono ?_
    rintro e w1 ⟨hb, he⟩
    rcases hp : V.zw s.data.toList with _ | ⟨E, U, R⟩
    ·rw [hp] at he HS
     subst he
     exact zya
    ·rw [hp] at he HS
     obtain ⟨v, rfl, _⟩ := he
     exact zya
   ·by_cases n3 : n = 3
    ·subst n3
     have HS : Hid (V.xl 3 s.data.toList = (V.zl 46 s.data.toList).all fun x => V.numb x false) := zu8 rfl
     go_enter Tryz.func84, Tryz.ntmps84
     go_wp2_with fail
     refine (ki s 46 _ HM.out (by omega)).mono ?_
     rintro e w4 ⟨rfl, g2⟩
     have g5 := jf 46 s.data.toList
     have g1 := zu8 (jx 46 s.data.toList)
     rw [zh] at g5 g1
     obtain ⟨L0, g6⟩ : ∃ L0, V.zl 46 s.data.toList = L0 := ⟨_, rfl⟩
     rw [g6] at g2 g5 g1 HS ⊢
     have hcs := zu8 (yt g2)
     have HB4 : Hid (Below w.heap.size w w4) := zu8 (by rw [g2]; exact (zvb _ _).alloc (zva _) _)
     clear g2 g6
     have g7 : ∀ x : V.Bs, V.numb x false = V.digits x := fun x => by unfold V.numb; simp
     have g8 := zu8 g7
     clear g7
     go_wp2
     go_loop [11] (fun i => ∃ k : Nat, k ≤ L0.length /\ i = .int .i64 k /\ (L0.take k).all (fun x => V.numb x false) = true) (fun i => L0.length - (intOf i).toNat)
     case atStart => exact ⟨0, Nat.zero_le _, rfl, rfl⟩
     case round =>
      obtain ⟨k, hk, rfl, hp⟩ := hrel
      have HQ := zu8 hp
      clear hp
      by_cases hlt : k < L0.length
      ·have hc := hcs.out k hlt
       have h6 : L0[k].length ≤ s.size := g1.out _ (List.getElem_mem hlt)
       have HT := zu8 (zdp (p := fun x => V.numb x false) hlt)
       rcases g9 : V.digits L0[k] with _ | _
       all_goals
        have g4 := zu8 g9
        clear g9
        go_wp2_with fail
        refine (qk ⟨L0[k].toArray⟩ _ (by show L0[k].length ≤ _; unfold maxLen; omega)).mono ?_
        rintro e w' ⟨rfl, rfl⟩
        simp only [g4.out]
        go_wp2
       ·go_ret
        exact ⟨ze (by rw [HF.out, HS.out, znq (k := k) hlt (by show V.numb _ false = false; rw [g8.out]; exact g4.out)]), HB4.out⟩
       ·go_round
        case rel => exact ⟨k + 1, by omega, by go_num, by rw [HT.out, HQ.out, g8.out]; exact g4.out⟩
        case measure => simp [intOf]; omega
      ·have ht : L0.take k = L0 := List.take_of_length_le (by omega)
       rw [ht] at HQ
       clear ht
       go_wp2
       go_ret
       exact ⟨ze (by rw [HF.out, HS.out]; exact HQ.out.symm), HB4.out⟩
    ·have HS : Hid (V.xl n s.data.toList = false) := zu8 (by unfold V.xl; simp [n1, n2, n3])
     have b1 : (n == 1) = false := by simpa using n1
     have b2 : (n == 2) = false := by simpa using n2
     have b3 : (n == 3) = false := by simpa using n3
     go_enter Tryz.func84, Tryz.ntmps84
     go_wp2
     go_ret
     exact ⟨ze (by rw [HF.out, HS.out]), zvb _ _⟩
end Go.Proofs.YtbikeahmldobkaaGreatDoor
