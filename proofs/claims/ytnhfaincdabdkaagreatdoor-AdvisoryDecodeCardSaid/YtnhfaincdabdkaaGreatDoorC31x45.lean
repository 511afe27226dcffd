/-
  Lemmas for the law.
-/
import Derived.Test.YtnhfaincdabdkaaGreatDoorC31x23
import Derived.Test.YtnhfaincdabdkaaGreatDoorC31x19
import Derived.Test.YtnhfaincdabdkaaGreatDoorC31x41
import Derived.Test.YtnhfaincdabdkaaGreatDoorC31x24
set_option linter.all false
set_option maxRecDepth 100000
set_option maxHeartbeats 6400000
namespace Go.Proofs.YtnhfaincdabdkaaGreatDoor
open Go.RowKit
theorem zlx (x : V.Adv) (v : Value) (w : World) (hm : zg w) (hv : Affs w v x.aff) (hid : x.id.length ≤ maxLen) (hl : x.aff.length ≤ maxLen) :
  Calls Tryz.prog 26 #[advV x v] w fun e w' => e = .returned (.bool (V.qp x)) /\ Below w.heap.size w w' := by
 obtain ⟨pa, pc, rfl⟩ := hv.slice
 obtain ⟨hb, c0, c1, c2, c3⟩ := za2 x (.slice pa x.aff.length pc) w
 have HM := zuy (hm.below hb)
 have HV := zuy (hv.below hb)
 have HI : Hid ((⟨x.id.toArray⟩ : ByteArray).size ≤ maxLen) := zuy (by rw [yh]; exact hid)
 have HB := zuy hb
 have HBX : Hid (w.heap.size < (w.alloc (.cells #[.string ⟨x.id.toArray⟩, .int .i64 x.rev, .int .i64 x.sev, .slice pa x.aff.length pc] 41)).heap.size) := zuy (by simp)
 unfold maxLen at hl
 clear hm hv hid hb
 unfold advV
 go_enter Tryz.func26, Tryz.ntmps26
 go_wp2_with fail
 generalize w.alloc (.cells #[.string ⟨x.id.toArray⟩, .int .i64 x.rev, .int .i64 x.sev, .slice pa x.aff.length pc] 41) = w0 at *
 refine (zn5 ⟨x.id.toArray⟩ w0 HI.out).mono ?_
 rintro e w' ⟨rfl, hw'⟩
 obtain rfl := hw'.symm
 clear hw'
 rw [kk]
 by_cases g0 : V.xy x.id = true
 case neg =>
  exact zxp
 rw [g0]
 by_cases g1 : 1 ≤ x.rev
 case neg =>
  have HR : Hid (V.qp x = false) := zuy (by
    rcases h : V.qp x with _ | _
    · rfl
    · have hp := V.jg h
      exact absurd hp.rev0 g1)
  have f1 : x.rev < 1 := by omega
  clear g1
  exact zxy
 have f1 : ¬ x.rev < 1 := by omega
 by_cases g2 : x.rev ≤ 1099511627776
 case neg =>
  exact zxt
 have f2 : ¬ (1099511627776 : Int) < x.rev := by omega
 by_cases g3 : 1 ≤ x.sev
 case neg =>
  have HR : Hid (V.qp x = false) := zuy (by
    rcases h : V.qp x with _ | _
    · rfl
    · have hp := V.jg h
      exact absurd hp.sev0 g3)
  have f3 : x.sev < 1 := by omega
  clear g3
  exact zxy
 have f3 : ¬ x.sev < 1 := by omega
 by_cases g4 : x.sev ≤ 10
 case neg =>
  exact zxx
 have f4 : ¬ (10 : Int) < x.sev := by omega
 by_cases g5 : x.aff.length ≤ 16
 case neg =>
  exact zxr
 have f5 : ¬ (16 : Int) < (x.aff.length : Int) := by omega
 have HOK : Hid (V.qp x = V.ym x.aff x.aff.length) := zuy (by
   unfold V.qp V.zgk
   rw [g0, decide_eq_true g1, decide_eq_true g2, decide_eq_true g3, decide_eq_true g4, decide_eq_true g5]
   rfl)
 clear g0 g1 g2 g3 g4
 go_wp2_with fail
 go_loopw [3] (fun iv W => ∃ k : Nat, k ≤ x.aff.length /\ iv = .int .i64 k /\ V.ym x.aff k = true /\ Below w0.heap.size w0 W) (fun iv _ => x.aff.length - (intOf iv).toNat)
 case atStart => exact ⟨0, Nat.zero_le _, rfl, rfl, zu1 _ _⟩
 case round =>
  obtain ⟨k, hk, rfl, hto, hbr⟩ := hrel
  have HTO := zuy hto
  have HBR := zuy hbr
  have HBW := zuz HB hbr
  have c3r := zb hbr c3
  clear hto hbr
  by_cases hlt : k < x.aff.length
  ·obtain ⟨hwf, b, off, ua, uc, rfl, hblt, ha⟩ := HV.out.at k hlt
   have HVK := zuy (HV.out.below HBR.out)
   have HW := zuy hwf
   have HA := zuy (ha.below HBR.out)
   have HST := zuy (V.zbj hlt)
   have HNO := zuy (V.zqh hlt)
   have HAT : Hid (V.zbr x.aff k x.aff[k] = ((decide (k = 0) || decide (V.affC (x.aff.getD (k - 1) V.zA) x.aff[k] < 0)) && V.kr x.aff[k])) := zuy rfl
   generalize x.aff[k] = a at *
   have HSD : Hid (V.kr a = (V.xg a.name && V.zdd a.sch a.rs a.its)) := zuy rfl
   have HAN : Hid ((⟨a.name.toArray⟩ : ByteArray).size ≤ maxLen) := zuy (by rw [yh]; exact HW.out.name)
   have e0 := HA.out.c0
   have e1 := HA.out.c1
   have e2 := HA.out.c2
   have e3 := HA.out.c3
   have i1 : (0 : Int) ≤ (k : Int) := by omega
   have i2 : (k : Int) < (x.aff.length : Int) := by omega
   have wr1 : IntKind.i64.wrap ((k : Int) + 1) = (k : Int) + 1 := IntWalk.i64_in _ (by omega)
   have hb2 : Below wr.heap.size wr (wr.alloc (.cells #[.int .i64 a.sch, .string ⟨a.name.toArray⟩, .int .i64 a.rs, .slice ua a.its.length uc] 50)) := (zu1 _ wr).alloc (zu0 _) _
   obtain ⟨_, d0, d1, d2, d3⟩ := zcu a (.slice ua a.its.length uc) wr
   have HA2 := zuy (HA.out.its.below hb2)
   have HB2 := zuz HBR hb2
   have HM2 := zuy (HM.out.below HB2.out)
   have HV2 := zuy (HVK.out.below hb2)
   clear hb2 hwf ha
   go_wp2_with fail
   generalize wr.alloc (.cells #[.int .i64 a.sch, .string ⟨a.name.toArray⟩, .int .i64 a.rs, .slice ua a.its.length uc] 50) = w2 at *
   generalize wr.heap.size = X at *
   clear e0 e1 e2 e3 c3r
   refine (zuj ⟨a.name.toArray⟩ w2 HM2.out HAN.out).mono ?_
   rintro e w3 ⟨rfl, hb3⟩
   rw [kk]
   have HB3 := zuz HB2 hb3
   have HM3 := zuy (HM2.out.below hb3)
   have HV3 := zuy (HV2.out.below hb3)
   have HA3 := zuy (HA2.out.below hb3)
   replace d0 := zb hb3 d0
   replace d1 := zb hb3 d1
   replace d2 := zb hb3 d2
   replace d3 := zb hb3 d3
   clear hb3 HA2 HV2 HM2 HB2 HA
   by_cases hp : V.xg a.name = true
   case neg =>
    have hp' : V.xg a.name = false := by simpa using hp
    have HR : Hid (V.qp x = false) := zuy (by rw [HOK.out]; exact HNO.out (by rw [HAT.out, HSD.out, hp']; simp))
    rw [hp']
    clear hp hp'
    go_wp2
    go_ret
    exact ⟨zc HR.out.symm, HB.out.trans (HB3.out.mono HB.out.size)⟩
   rw [hp]
   have HP := zuy hp
   clear hp
   go_wp2_with fail
   refine (zoj a.sch a.rs a.its ua uc w3 HM3.out HA3.out HW.out.lens HW.out.len).mono ?_
   rintro e w4 ⟨rfl, hb4⟩
   have HB4 := zuz HB3 hb4
   have HV4 := zuy (HV3.out.below hb4)
   replace d0 := zb hb4 d0
   replace d1 := zb hb4 d1
   clear hb4 HA3 HV3 HM3 HB3 d2 d3
   by_cases hg : V.zdd a.sch a.rs a.its = true
   case neg =>
    have hg' : V.zdd a.sch a.rs a.its = false := by simpa using hg
    have HR : Hid (V.qp x = false) := zuy (by rw [HOK.out]; exact HNO.out (by rw [HAT.out, HSD.out, hg']; simp))
    rw [hg']
    clear hg hg'
    go_wp2
    go_ret
    exact ⟨zc HR.out.symm, HB.out.trans (HB4.out.mono HB.out.size)⟩
   rw [hg]
   have HSO : Hid (V.kr a = true) := zuy (by rw [HSD.out, HP.out, hg]; rfl)
   rw [HSO.out] at HAT
   clear hg
   have hx3 := zb HB4.out c3
   rcases Nat.eq_zero_or_pos k with hk0 | hk0
   ·subst hk0
    have HY : Hid (V.ym x.aff (0 + 1) = true) := zuy (by rw [HST.out, HTO.out, HAT.out]; rfl)
    go_wp2_with fail
    refine wp_region_held_drew (S := (fun W' => Below w4.heap.size w4 W')) (by kernel_rfl) (by (try dsimp only); exact (zu1 _ _).drew) (fun hHeld => ?_)
    refine tk 0 ?_
    refine tk 1 ?_
    refine tk 2 ?_
    refine tu 3 ?_
    refine tu 4 ?_
    refine tu 5 ?_
    refine tu 6 ?_
    refine tu 7 ?_
    refine tu 8 ?_
    refine tu 9 ?_
    refine tu 10 ?_
    refine tu 11 ?_
    refine tu 12 ?_
    refine tu 13 ?_
    refine tu 14 ?_
    refine tu 15 ?_
    refine tu 16 ?_
    refine tu 17 ?_
    refine tu 18 ?_
    refine tu 19 ?_
    refine tu 20 ?_
    refine tu 21 ?_
    refine tu 22 ?_
    refine tu 23 ?_
    refine tu 24 ?_
    refine tk 25 ?_
    refine wpAnyH_done (by kernel_rfl) ?_ _
    have HBE := zuy (HB4.out.trans ((show Below w4.heap.size w4 w4.drew from hHeld).mono HB4.out.size))
    clear hHeld
    exact zz4
   ·obtain ⟨j, hj⟩ : ∃ j, k = j + 1 := ⟨k - 1, by omega⟩
    have hjl : j < x.aff.length := by omega
    obtain ⟨_, b', off', up, ucp, e', _, hp⟩ := HV4.out.at j hjl
    cases e'
    have HPV : Hid (x.aff.getD (k - 1) V.zA = x.aff[j]) := zuy (by rw [hj, Nat.add_sub_cancel, List.getD_eq_getElem?_getD, List.getElem?_eq_getElem hjl]; rfl)
    rw [HPV.out] at HAT
    clear HPV
    generalize x.aff[j] = p at *
    have q0 := hp.c0
    have q1 := hp.c1
    have wk : IntKind.i64.wrap ((k : Int) - 1) = (j : Int) := by rw [hj, IntWalk.i64_in _ (by omega)]; omega
    have j1 : (0 : Int) ≤ (j : Int) := by omega
    have j2 : (j : Int) < (x.aff.length : Int) := by omega
    have k0 : (0 : Int) < (k : Int) := by omega
    have k1 : decide ((0 : Int) < (k : Int)) = true := decide_eq_true k0
    have k2 : decide (0 < k) = true := decide_eq_true hk0
    have k3 : 0 < k := hk0
    have HK0 : Hid (decide (k = 0) = false) := zuy (decide_eq_false (by omega))
    rw [HK0.out, Bool.false_or, Bool.and_true] at HAT
    clear hp hj HK0 hk0
    obtain ⟨r, hr⟩ : ∃ r, decide (V.affC p a < 0) = r := ⟨_, rfl⟩
    have HCE : Hid (decide (V.orI [Lib.compareInt p.sch a.sch, Lib.compareBytes p.name a.name] < 0) = r) := zuy hr
    rw [hr] at HAT
    clear hr c3
    have c3 := hx3
    clear hx3
    go_wp2_with fail
    refine wp_region_held_drew (S := (fun W' => Below w4.heap.size w4 W' /\ W'.cell? ⟨w.heap.size, 3, none⟩ = some (.slice (some ⟨b, off, none⟩) x.aff.length pc) /\ W'.cell? ⟨b, off + j * 4, none⟩ = some (.int .i64 p.sch) /\ W'.cell? ⟨b, off + j * 4 + 1, none⟩ = some (.string ⟨p.name.toArray⟩) /\ W'.cell? ⟨X, 0, none⟩ = some (.int .i64 a.sch) /\ W'.cell? ⟨X, 1, none⟩ = some (.string ⟨a.name.toArray⟩))) (by kernel_rfl) (by (try dsimp only); exact ⟨(zu1 _ _).drew, zb (zu1 _ _).drew c3, zb (zu1 _ _).drew q0, zb (zu1 _ _).drew q1, zb (zu1 _ _).drew d0, zb (zu1 _ _).drew d1⟩) (fun hHeld => ?_)
    refine tk 0 ?_
    refine tk 1 ?_
    refine tk 2 ?_
    refine tk 3 ?_
    refine tk 4 ?_
    refine tk 5 ?_
    refine wpAnyH_take (i := 6) (v := (.int .i64 (j : Int))) rfl (by kernel_rfl) (by kernel_rfl) (by kernel_rfl) (fun _ _ _ h => h) (Or.inl ⟨by rfl, fun w' hSw => by go_simp; try rfl⟩) (by assumption) ?_
    try simp only [zut, zuu, zuv, Act.put, zuw, List.set_cons_succ, List.set_cons_zero]
    refine tk 7 ?_
    refine tk 8 ?_
    refine tk 9 ?_
    refine tk 10 ?_
    refine tk 11 ?_
    refine tk 12 ?_
    refine wpAnyH_take (i := 13) (v := (.int .i64 (j : Int))) rfl (by kernel_rfl) (by kernel_rfl) (by kernel_rfl) (fun _ _ _ h => h) (Or.inl ⟨by rfl, fun w' hSw => by go_simp; try rfl⟩) (by assumption) ?_
    try simp only [zut, zuu, zuv, Act.put, zuw, List.set_cons_succ, List.set_cons_zero]
    refine tk 14 ?_
    refine tk 15 ?_
    refine tk 16 ?_
    refine tk 17 ?_
    refine tk 18 ?_
    refine tk 19 ?_
    refine tk 20 ?_
    refine tk 21 ?_
    refine tk 22 ?_
    refine rd 23 fun K hK => ?_
    go_simp
    refine (zpu p.sch a.sch p.name a.name _).mono ?_
    rintro e wy23 ⟨rfl, hby23⟩
    try dsimp only
    rw [HCE.out]
    refine hK.out _ _ ?_ (fun hHeld => nx ?_)
    ·(try dsimp only); go_split_ands; exact ⟨Below.trans (by assumption) (hby23.mono (Below.size (by assumption))), zu4 hby23, zu4 hby23, zu4 hby23, zu4 hby23, zu4 hby23⟩
    clear hK K
    refine tk 24 ?_
    refine tk 25 ?_
    refine wpAnyH_done (by kernel_rfl) ?_ _
    have HBE := zuy (HB4.out.trans ((show Below w4.heap.size w4 wy23 from hHeld.1).mono HB4.out.size))
    clear hHeld
    rcases r with _ | _
    ·have HR : Hid (V.qp x = false) := zuy (by rw [HOK.out]; exact HNO.out HAT.out)
     exact zyk
    ·have HY : Hid (V.ym x.aff (k + 1) = true) := zuy (by rw [HST.out, HTO.out, HAT.out]; rfl)
     exact zz3
  ·exact zyv
theorem zll (x : V.Adv) (v : Value) (w : World) (hm : zg w) (hp : zc9 w) (hv : Affs w v x.aff) (hid : x.id.length ≤ maxLen) (hl : x.aff.length ≤ maxLen) :
  Calls Tryz.prog 24 #[advV x v] w (EncV x w) := by
 obtain ⟨pa, pc, rfl⟩ := hv.slice
 obtain ⟨hb, c0, c1, c2, c3⟩ := za2 x (.slice pa x.aff.length pc) w
 have HM1 := zuy (hm.below hb)
 have HP1 := zuy (hp.below hb)
 have HV1 := zuy (hv.below hb)
 have HB1 := zuy hb
 have HL := zuy (And.intro hid hl)
 have H3 := zuy c3
 have hsz1 : (w.alloc (.cells #[.string ⟨x.id.toArray⟩, .int .i64 x.rev, .int .i64 x.sev, .slice pa x.aff.length pc] 41)).heap.size = w.heap.size + 1 := by simp
 have HSZ := zuy hsz1
 clear hm hp hv hid hl hb hsz1
 unfold advV
 go_enter Tryz.func24, Tryz.ntmps24
 go_wp2_with fail
 generalize w.alloc (.cells #[.string ⟨x.id.toArray⟩, .int .i64 x.rev, .int .i64 x.sev, .slice pa x.aff.length pc] 41) = W1 at *
 refine (zlx x (.slice pa x.aff.length pc) W1 HM1.out HV1.out HL.out.1 HL.out.2).mono ?_
 rintro e w2 ⟨rfl, hb2⟩
 replace c0 := zb hb2 c0
 replace c1 := zb hb2 c1
 replace c2 := zb hb2 c2
 replace c3 := zb hb2 c3
 have HP2 := zuy (HP1.out.below hb2)
 have HB2 := zuy hb2
 have HBW := zuz HB1 hb2
 clear hb2
 rcases hok : V.qp x with _ | _
 ·exact zx2
 ·have HEV : Hid (V.encV x = if V.encE (V.qi x) = 0 then (V.doc (V.qi x), 0) else ([], V.encE (V.qi x))) := zuy (by unfold V.encV; rw [if_pos hok])
  have HOK := zuy hok
  have HWD : Hid (∀ l ∈ V.qi x, ∀ u ∈ l, u.length ≤ maxLen) := zuy (fun l hm u hu => by have := (V.adv_words hok l hm).2 u hu; unfold maxLen; omega)
  have hpt := V.jg hok
  have HT : Hid (1 ≤ x.rev /\ x.rev ≤ 1099511627776 /\ 1 ≤ x.sev /\ x.sev ≤ 10) := zuy ⟨hpt.rev0, hpt.rev1, hpt.sev0, hpt.sev1⟩
  have HSN : Hid (∀ a ∈ x.aff, V.kr a = true) := zuy (fun a ha => hpt.sound ha)
  have hl16 := hpt.len
  clear hok hpt
  go_wp2_with fail
  refine wp_region_held_drew (S := (fun W' => W'.cell? ⟨w.heap.size, 0, none⟩ = some (.string ⟨x.id.toArray⟩) /\ W'.cell? ⟨w.heap.size, 1, none⟩ = some (.int .i64 x.rev) /\ W'.cell? ⟨w.heap.size, 2, none⟩ = some (.int .i64 x.sev))) (by kernel_rfl) (by (try dsimp only); exact ⟨zb (zu1 _ w2).drew c0, zb (zu1 _ w2).drew c1, zb (zu1 _ w2).drew c2⟩) (fun hHeld => ?_)
  refine tk 0 ?_
  refine tk 1 ?_
  refine tk 2 ?_
  refine tk 3 ?_
  refine tk 5 ?_
  refine tk 6 ?_
  refine rd 4 fun K hK => ?_
  go_simp
  refine (zfu (by have := HT.out.1; omega) (by have := HT.out.2.1; omega) _).mono ?_
  rintro e wA ⟨rfl, hbA⟩
  try dsimp only
  have hbA2 := (zu1 w2.heap.size w2).drew.trans hbA
  refine hK.out _ _ ?_ (fun hHeld => nx ?_)
  ·(try dsimp only); exact ⟨zb hbA hHeld.1, zb hbA hHeld.2.1, zb hbA hHeld.2.2⟩
  clear hK K
  refine rd 7 fun K hK => ?_
  go_simp
  refine (zfu (by have := HT.out.2.2.1; omega) (by have := HT.out.2.2.2; omega) _).mono ?_
  rintro e wB ⟨rfl, hbB⟩
  try dsimp only
  have hbB2 := hbA2.trans (hbB.mono hbA2.size)
  refine hK.out _ _ ?_ (fun hHeld => nx ?_)
  ·(try dsimp only); exact ⟨zb hbB hHeld.1, zb hbB hHeld.2.1, zb hbB hHeld.2.2⟩
  clear hK K
  refine rd 8 fun K hK => ?_
  refine za1 rfl _ _ _ _ rfl V.advW x.id (Lib.decDigits x.rev.toNat) (Lib.decDigits x.sev.toNat) rfl rfl rfl rfl ?_
  refine hK.out _ _ ?_ (fun hHeld => nx ?_)
  ·exact zwn
  clear hK K
  refine rd 9 fun K hK => ?_
  have hbC : Below w2.heap.size w2 (wB.alloc (.cells (uf [V.advW, x.id, Lib.decDigits x.rev.toNat, Lib.decDigits x.sev.toNat]) 9)) := hbB2.alloc hbB2.size _
  refine zay rfl _ rfl ⟨some ⟨wB.heap.size, 0, none⟩, 4, 4⟩ rfl ?_
  refine hK.out _ _ ?_ (fun hHeld => nx ?_)
  ·exact zwn
  clear hK K
  refine tk 10 ?_
  refine wpAnyH_done (by kernel_rfl) ?_ _
  have hu0 := zb2 wB [V.advW, x.id, Lib.decDigits x.rev.toNat, Lib.decDigits x.sev.toNat]
  have hsC : (wB.alloc (.cells (uf [V.advW, x.id, Lib.decDigits x.rev.toNat, Lib.decDigits x.sev.toNat]) 9)).heap.size = wB.heap.size + 1 := by simp
  have hw2z : w.heap.size + 1 ≤ w2.heap.size := by rw [← HSZ.out]; exact HB2.out.size
  have hlr := LRow.one (N := w.heap.size + 1) (u := ⟨some ⟨wB.heap.size, 0, none⟩, 4, 4⟩) (by change _ ≤ (wB.alloc (.cells (uf [V.advW, x.id, Lib.decDigits x.rev.toNat, Lib.decDigits x.sev.toNat]) 9)).heap.size; rw [hsC]; have := hbB2.size; omega) hu0 (by simp)
  have hbD := hbC.alloc hbC.size (.cells #[(⟨some ⟨wB.heap.size, 0, none⟩, 4, 4⟩ : Lsl).v] 61)
  have hbE := HB2.out.trans (hbD.mono HB2.out.size)
  rw [HSZ.out] at hbE
  have y3 := zb hbD c3
  have HS0 : Hid (EncS (w.heap.size + 1) W1 (.slice (some ⟨wB.heap.size + 1, 0, none⟩) 1 1) (V.jt x 0) ((wB.alloc (.cells (uf [V.advW, x.id, Lib.decDigits x.rev.toNat, Lib.decDigits x.sev.toNat]) 9)).alloc (.cells #[(⟨some ⟨wB.heap.size, 0, none⟩, 4, 4⟩ : Lsl).v] 61))) := zuy ⟨⟨_, by rw [← hsC]; exact hlr⟩, hbE, by have := hbD.size; omega⟩
  change Exit.then _ _ _ _ ((wB.alloc (.cells (uf [V.advW, x.id, Lib.decDigits x.rev.toNat, Lib.decDigits x.sev.toNat]) 9)).alloc (.cells #[(⟨some ⟨wB.heap.size, 0, none⟩, 4, 4⟩ : Lsl).v] 61))
  try simp only [World.size_alloc]
  clear hu0 hlr hbE hHeld c0 c1 c2 hw2z hbA hbA2 hbB hbB2 hbC hbD c3
  generalize (wB.alloc (.cells (uf [V.advW, x.id, Lib.decDigits x.rev.toNat, Lib.decDigits x.sev.toNat]) 9)).alloc (.cells #[(⟨some ⟨wB.heap.size, 0, none⟩, 4, 4⟩ : Lsl).v] 61) = W4 at *
  clear hsC
  generalize wB.heap.size + 1 = b4 at *
  go_wp2
  go_loopw [4, 5] (fun ov iv wx => ∃ k : Nat, k ≤ x.aff.length /\ iv = .int .i64 k /\ EncS (w.heap.size + 1) W1 ov (V.jt x k) wx) (fun _ iv _ => x.aff.length - (intOf iv).toNat)
  case atStart => exact ⟨0, Nat.zero_le _, rfl, HS0.out⟩
  case round =>
   obtain ⟨k, hk, rfl, hes⟩ := hrel
   obtain ⟨us, hrow⟩ := hes.row
   obtain ⟨oa, oc, rfl⟩ := hrow.slice
   have HR := zuy hrow
   have HBR := zuy hes.below
   have hNs := hes.size
   clear hrow hes HS0 y3
   have c3r : wr.cell? ⟨w.heap.size, 3, none⟩ = some (.slice pa x.aff.length pc) := (HBR.out.cell (p := ⟨w.heap.size, 3, none⟩) (Nat.lt_succ_self _)).trans H3.out
   by_cases hlt : k < x.aff.length
   ·obtain ⟨hwf, b, off, ua, uc, rfl, hblt, ha⟩ := HV1.out.at k hlt
    have HBR1 : Hid (Below W1.heap.size W1 wr) := zuy (by rw [HSZ.out]; exact HBR.out)
    have HW := zuy hwf
    have HA := zuy (ha.below HBR1.out)
    have HST := zuy (V.ze3 hlt)
    have hso := HSN.out x.aff[k] (List.getElem_mem hlt)
    have HFM : Hid (V.yb x.aff[k].rs x.aff[k].its = (V.xi x.aff[k].its, 0)) := zuy (by
      obtain ⟨_, h2, _, h4⟩ := V.yj hso
      unfold V.yb
      rw [h2, if_pos h4])
    have HLA : Hid (V.ul x.aff[k] = [V.affW, V.qb x.aff[k].sch, x.aff[k].name, V.xi x.aff[k].its]) := zuy rfl
    rw [HLA.out] at HST
    have hi1 : (0 : Int) ≤ (k : Int) := by omega
    have hi2 : (k : Int) < (x.aff.length : Int) := by omega
    have wr1 : IntKind.i64.wrap ((k : Int) + 1) = (k : Int) + 1 := IntWalk.i64_in _ (by omega)
    clear hwf ha hso HLA
    generalize x.aff[k] = a at *
    have e0 := HA.out.c0
    have e1 := HA.out.c1
    have e2 := HA.out.c2
    have e3 := HA.out.c3
    obtain ⟨hbZ, x0, x1, x2, x3⟩ := zcu a (.slice ua a.its.length uc) wr
    have HIZ := zuy (HA.out.its.below hbZ)
    have HRZ := zuy (HR.out.later hbZ)
    have HBZ := zuy (HBR.out.trans (hbZ.mono hNs))
    have HMZ := zuy (HM1.out.below (HBR1.out.trans (hbZ.mono HBR1.out.size)))
    have hzZ := hbZ.size
    have HXB : Hid (some wr.heap.size = (Value.slice oa (V.jt x k).length oc).ownBlock -> False) := zuy (fun e => by
      have := HR.out.row.lt _ e.symm
      omega)
    clear hbZ HR HBR HBR1
    go_wp2_with fail
    generalize wr.alloc (.cells #[.int .i64 a.sch, .string ⟨a.name.toArray⟩, .int .i64 a.rs, .slice ua a.its.length uc] 50) = wz at *
    generalize wr.heap.size = X at *
    clear e0 e1 e2 e3
    refine (zn3 a.rs (.slice ua a.its.length uc) a.its wz HMZ.out HIZ.out HW.out.lens HW.out.len).mono ?_
    rintro e wF ⟨rfl, hbF⟩
    rw [HFM.out]
    replace x0 := zb hbF x0
    replace x1 := zb hbF x1
    replace HRZ := zuy (HRZ.out.later hbF)
    replace HBZ := zuy (HBZ.out.trans (hbF.mono (by omega)))
    have hzF := hbF.size
    have hNz : w.heap.size + 1 ≤ wF.heap.size := by omega
    clear hbF HIZ HMZ x2 x3
    go_wp2_with fail
    refine wp_region_held_drew (S := (fun W' => W'.cell? ⟨X, 0, none⟩ = some (.int .i64 a.sch) /\ W'.cell? ⟨X, 1, none⟩ = some (.string ⟨a.name.toArray⟩))) (by kernel_rfl) (by (try dsimp only); exact ⟨zb (zu1 _ wF).drew x0, zb (zu1 _ wF).drew x1⟩) (fun hHeld => ?_)
    refine tk 0 ?_
    refine tk 1 ?_
    refine tk 2 ?_
    refine tk 4 ?_
    refine tk 5 ?_
    refine tk 6 ?_
    refine rd 3 fun K hK => ?_
    go_simp
    refine (zhv a.sch wF.drew).mono ?_
    exact zvc
   ·obtain rfl : k = x.aff.length := by omega
    have HLN := zuy HR.out.lines
    go_wp2_with fail
    refine (zhp _ (V.qi x) wr HLN.out HWD.out (V.adv_sz HOK.out)).mono ?_
    exact zvz
end Go.Proofs.YtnhfaincdabdkaaGreatDoor
