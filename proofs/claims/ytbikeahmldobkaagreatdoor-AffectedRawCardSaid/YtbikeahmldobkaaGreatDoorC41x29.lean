/-
  Lemmas for the law.
-/
import Derived.Test.YtbikeahmldobkaaGreatDoorC41x28
import Derived.Test.YtbikeahmldobkaaGreatDoorC41x24
set_option linter.all false
set_option maxRecDepth 100000
set_option maxHeartbeats 6400000
namespace Go.Proofs.YtbikeahmldobkaaGreatDoor
open Go.RowKit
theorem zrw {P : Prop} (h : P := by
 go_wp2
 go_ret
 exact ⟨zf HR.out.symm, HB.out.trans (HB3.out.mono HB.out.size)⟩) : P := h
theorem zgp (x : V.Adv) (v : Value) (w : World) (hm : zm w) (hv : Affs w v x.aff) (hid : x.id.length ≤ maxLen) (hl : x.aff.length ≤ maxLen) :
  Calls Tryz.prog 55 #[advV x v] w fun e w' => e = .returned (.bool (V.qf x)) /\ Below w.heap.size w w' := by
 obtain ⟨pa, pc, rfl⟩ := hv.slice
 obtain ⟨hb, c0, c1, c2, c3⟩ := zen x (.slice pa x.aff.length pc) w
 have HM := zpa (hm.below hb)
 have HV := zpa (hv.below hb)
 have HI : Hid ((⟨x.id.toArray⟩ : ByteArray).size ≤ maxLen) := zpa (by rw [ziq]; exact hid)
 have HB := zpa hb
 have HBX : Hid (w.heap.size < (w.alloc (.cells #[.string ⟨x.id.toArray⟩, .int .i64 x.rev, .int .i64 x.sev, .slice pa x.aff.length pc] 54)).heap.size) := zpa (by simp)
 unfold maxLen at hl
 clear hm hv hid hb
 unfold advV
 go_enter Tryz.func55, Tryz.ntmps55
 go_wp2_with fail
 generalize w.alloc (.cells #[.string ⟨x.id.toArray⟩, .int .i64 x.rev, .int .i64 x.sev, .slice pa x.aff.length pc] 54) = w0 at *
 refine (zij ⟨x.id.toArray⟩ w0 HI.out).mono ?_
 rintro e w' ⟨rfl, hw'⟩
 obtain rfl := hw'.symm
 clear hw'
 rw [zaz]
 by_cases g0 : V.kh x.id = true
 case neg =>
  exact zqo
 rw [g0]
 by_cases g1 : 1 ≤ x.rev
 case neg =>
  have HR : Hid (V.qf x = false) := zpa (by
    rcases h : V.qf x with _ | _
    · rfl
    · have hp := V.qv h
      exact absurd hp.rev0 g1)
  have f1 : x.rev < 1 := by omega
  clear g1
  exact zqr
 have f1 : ¬ x.rev < 1 := by omega
 by_cases g2 : x.rev ≤ 1099511627776
 case neg =>
  have HR : Hid (V.qf x = false) := zpa (by
    rcases h : V.qf x with _ | _
    · rfl
    · have hp := V.qv h
      exact absurd hp.rev1 g2)
  have f2 : (1099511627776 : Int) < x.rev := by omega
  clear g2
  exact zqr
 have f2 : ¬ (1099511627776 : Int) < x.rev := by omega
 by_cases g3 : 1 ≤ x.sev
 case neg =>
  have HR : Hid (V.qf x = false) := zpa (by
    rcases h : V.qf x with _ | _
    · rfl
    · have hp := V.qv h
      exact absurd hp.sev0 g3)
  have f3 : x.sev < 1 := by omega
  clear g3
  exact zqr
 have f3 : ¬ x.sev < 1 := by omega
 by_cases g4 : x.sev ≤ 10
 case neg =>
  have HR : Hid (V.qf x = false) := zpa (by
    rcases h : V.qf x with _ | _
    · rfl
    · have hp := V.qv h
      exact absurd hp.sev1 g4)
  have f4 : (10 : Int) < x.sev := by omega
  clear g4
  exact zqr
 have f4 : ¬ (10 : Int) < x.sev := by omega
 by_cases g5 : x.aff.length ≤ 16
 case neg =>
  exact zqq
 have f5 : ¬ (16 : Int) < (x.aff.length : Int) := by omega
 have HOK : Hid (V.qf x = V.kp x.aff x.aff.length) := zpa (by
   unfold V.qf V.zem
   rw [g0, decide_eq_true g1, decide_eq_true g2, decide_eq_true g3, decide_eq_true g4, decide_eq_true g5]
   rfl)
 clear g0 g1 g2 g3 g4
 go_wp2_with fail
 go_loopw [3] (fun iv W => ∃ k : Nat, k ≤ x.aff.length /\ iv = .int .i64 k /\ V.kp x.aff k = true /\ Below w0.heap.size w0 W) (fun iv _ => x.aff.length - (intOf iv).toNat)
 case atStart => exact ⟨0, Nat.zero_le _, rfl, rfl, zpd _ _⟩
 case round =>
  obtain ⟨k, hk, rfl, hto, hbr⟩ := hrel
  have HTO := zpa hto
  have HBR := zpa hbr
  have HBW := zpb HB hbr
  have c3r := zg hbr c3
  clear hto hbr
  by_cases hlt : k < x.aff.length
  ·obtain ⟨hwf, b, off, ua, uc, rfl, hblt, ha⟩ := HV.out.at k hlt
   have HVK := zpa (HV.out.below HBR.out)
   have HW := zpa hwf
   have HA := zpa (ha.below HBR.out)
   have HST := zpa (V.wh hlt)
   have HNO := zpa (V.zky hlt)
   have HAT : Hid (V.zai x.aff k x.aff[k] = ((decide (k = 0) || decide (V.affC (x.aff.getD (k - 1) V.zA) x.aff[k] < 0)) && V.xo x.aff[k])) := zpa rfl
   generalize x.aff[k] = a at *
   have HSD : Hid (V.xo a = (V.jj a.name && V.zbi a.sch a.rs a.its)) := zpa rfl
   have HAN : Hid ((⟨a.name.toArray⟩ : ByteArray).size ≤ maxLen) := zpa (by rw [ziq]; exact HW.out.name)
   have e0 := HA.out.c0
   have e1 := HA.out.c1
   have e2 := HA.out.c2
   have e3 := HA.out.c3
   have i1 : (0 : Int) ≤ (k : Int) := by omega
   have i2 : (k : Int) < (x.aff.length : Int) := by omega
   have wr1 : IntKind.i64.wrap ((k : Int) + 1) = (k : Int) + 1 := IntWalk.i64_in _ (by omega)
   have hb2 : Below wr.heap.size wr (wr.alloc (.cells #[.int .i64 a.sch, .string ⟨a.name.toArray⟩, .int .i64 a.rs, .slice ua a.its.length uc] 70)) := (zpd _ wr).alloc (zpc _) _
   obtain ⟨_, d0, d1, d2, d3⟩ := zcg a (.slice ua a.its.length uc) wr
   have HA2 := zpa (HA.out.its.below hb2)
   have HB2 := zpb HBR hb2
   have HM2 := zpa (HM.out.below HB2.out)
   have HV2 := zpa (HVK.out.below hb2)
   clear hb2 hwf ha
   go_wp2_with fail
   generalize wr.alloc (.cells #[.int .i64 a.sch, .string ⟨a.name.toArray⟩, .int .i64 a.rs, .slice ua a.its.length uc] 70) = w2 at *
   generalize wr.heap.size = X at *
   clear e0 e1 e2 e3 c3r
   refine (zh1 ⟨a.name.toArray⟩ w2 HM2.out HAN.out).mono ?_
   rintro e w3 ⟨rfl, hb3⟩
   rw [zaz]
   have HB3 := zpb HB2 hb3
   have HM3 := zpa (HM2.out.below hb3)
   have HV3 := zpa (HV2.out.below hb3)
   have HA3 := zpa (HA2.out.below hb3)
   replace d0 := zg hb3 d0
   replace d1 := zg hb3 d1
   replace d2 := zg hb3 d2
   replace d3 := zg hb3 d3
   clear hb3 HA2 HV2 HM2 HB2 HA
   by_cases hp : V.jj a.name = true
   case neg =>
    have hp' : V.jj a.name = false := by simpa using hp
    have HR : Hid (V.qf x = false) := zpa (by rw [HOK.out]; exact HNO.out (by rw [HAT.out, HSD.out, hp']; simp))
    rw [hp']
    clear hp hp'
    exact zrw
   rw [hp]
   have HP := zpa hp
   clear hp
   go_wp2_with fail
   refine (zi1 a.sch a.rs a.its ua uc w3 HM3.out HA3.out HW.out.lens HW.out.len).mono ?_
   rintro e w4 ⟨rfl, hb4⟩
   have HB4 := zpb HB3 hb4
   have HV4 := zpa (HV3.out.below hb4)
   replace d0 := zg hb4 d0
   replace d1 := zg hb4 d1
   clear hb4 HA3 HV3 HM3 HB3 d2 d3
   by_cases hg : V.zbi a.sch a.rs a.its = true
   case neg =>
    have hg' : V.zbi a.sch a.rs a.its = false := by simpa using hg
    have HR : Hid (V.qf x = false) := zpa (by rw [HOK.out]; exact HNO.out (by rw [HAT.out, HSD.out, hg']; simp))
    rw [hg']
    clear hg hg'
    go_wp2
    go_ret
    exact ⟨zf HR.out.symm, HB.out.trans (HB4.out.mono HB.out.size)⟩
   rw [hg]
   have HSO : Hid (V.xo a = true) := zpa (by rw [HSD.out, HP.out, hg]; rfl)
   rw [HSO.out] at HAT
   clear hg
   have hx3 := zg HB4.out c3
   rcases Nat.eq_zero_or_pos k with hk0 | hk0
   ·subst hk0
    have HY : Hid (V.kp x.aff (0 + 1) = true) := zpa (by rw [HST.out, HTO.out, HAT.out]; rfl)
    go_wp2_with fail
    refine wp_region_held_drew (S := (fun W' => Below w4.heap.size w4 W')) (by kernel_rfl) (by (try dsimp only); exact (zpd _ _).drew) (fun hHeld => ?_)
    refine tk 0 ?_
    refine tk 1 ?_
    refine tk 2 ?_
    refine tu 3 ?_
    refine tu 4 ?_
    refine tu 5 ?_
    refine tu 6 ?_
    refine tu 7 ?_
    refine tu 8 ?_
    refine tu 9 ?_
    refine tu 10 ?_
    refine tu 11 ?_
    refine tu 12 ?_
    refine tu 13 ?_
    refine tu 14 ?_
    refine tu 15 ?_
    refine tu 16 ?_
    refine tu 17 ?_
    refine tu 18 ?_
    refine tu 19 ?_
    refine tu 20 ?_
    refine tu 21 ?_
    refine tu 22 ?_
    refine tu 23 ?_
    refine tu 24 ?_
    refine tk 25 ?_
    refine wpAnyH_done (by kernel_rfl) ?_ _
    have HBE := zpa (HB4.out.trans ((show Below w4.heap.size w4 w4.drew from hHeld).mono HB4.out.size))
    clear hHeld
    exact zr8
   ·obtain ⟨j, hj⟩ : ∃ j, k = j + 1 := ⟨k - 1, by omega⟩
    have hjl : j < x.aff.length := by omega
    obtain ⟨_, b', off', up, ucp, e', _, hp⟩ := HV4.out.at j hjl
    cases e'
    have HPV : Hid (x.aff.getD (k - 1) V.zA = x.aff[j]) := zpa (by rw [hj, Nat.add_sub_cancel, List.getD_eq_getElem?_getD, List.getElem?_eq_getElem hjl]; rfl)
    rw [HPV.out] at HAT
    clear HPV
    generalize x.aff[j] = p at *
    have q0 := hp.c0
    have q1 := hp.c1
    have wk : IntKind.i64.wrap ((k : Int) - 1) = (j : Int) := by rw [hj, IntWalk.i64_in _ (by omega)]; omega
    have j1 : (0 : Int) ≤ (j : Int) := by omega
    have j2 : (j : Int) < (x.aff.length : Int) := by omega
    have k0 : (0 : Int) < (k : Int) := by omega
    have k1 : decide ((0 : Int) < (k : Int)) = true := decide_eq_true k0
    have k2 : decide (0 < k) = true := decide_eq_true hk0
    have k3 : 0 < k := hk0
    have HK0 : Hid (decide (k = 0) = false) := zpa (decide_eq_false (by omega))
    rw [HK0.out, Bool.false_or, Bool.and_true] at HAT
    clear hp hj HK0 hk0
    obtain ⟨r, hr⟩ : ∃ r, decide (V.affC p a < 0) = r := ⟨_, rfl⟩
    have HCE : Hid (decide (V.orI [Lib.compareInt p.sch a.sch, Lib.compareBytes p.name a.name] < 0) = r) := zpa hr
    rw [hr] at HAT
    clear hr c3
    have c3 := hx3
    clear hx3
    go_wp2_with fail
    refine wp_region_held_drew (S := (fun W' => Below w4.heap.size w4 W' /\ W'.cell? ⟨w.heap.size, 3, none⟩ = some (.slice (some ⟨b, off, none⟩) x.aff.length pc) /\ W'.cell? ⟨b, off + j * 4, none⟩ = some (.int .i64 p.sch) /\ W'.cell? ⟨b, off + j * 4 + 1, none⟩ = some (.string ⟨p.name.toArray⟩) /\ W'.cell? ⟨X, 0, none⟩ = some (.int .i64 a.sch) /\ W'.cell? ⟨X, 1, none⟩ = some (.string ⟨a.name.toArray⟩))) (by kernel_rfl) (by (try dsimp only); exact ⟨(zpd _ _).drew, zg (zpd _ _).drew c3, zg (zpd _ _).drew q0, zg (zpd _ _).drew q1, zg (zpd _ _).drew d0, zg (zpd _ _).drew d1⟩) (fun hHeld => ?_)
    refine tk 0 ?_
    refine tk 1 ?_
    refine tk 2 ?_
    refine tk 3 ?_
    refine tk 4 ?_
    refine tk 5 ?_
    refine wpAnyH_take (i := 6) (v := (.int .i64 (j : Int))) rfl (by kernel_rfl) (by kernel_rfl) (by kernel_rfl) (fun _ _ _ h => h) (Or.inl ⟨by rfl, fun w' hSw => by go_simp; try rfl⟩) (by assumption) ?_
    try simp only [zo5, zo6, zo7, Act.put, zo8, List.set_cons_succ, List.set_cons_zero]
    refine tk 7 ?_
    refine tk 8 ?_
    refine tk 9 ?_
    refine tk 10 ?_
    refine tk 11 ?_
    refine tk 12 ?_
    refine wpAnyH_take (i := 13) (v := (.int .i64 (j : Int))) rfl (by kernel_rfl) (by kernel_rfl) (by kernel_rfl) (fun _ _ _ h => h) (Or.inl ⟨by rfl, fun w' hSw => by go_simp; try rfl⟩) (by assumption) ?_
    try simp only [zo5, zo6, zo7, Act.put, zo8, List.set_cons_succ, List.set_cons_zero]
    refine tk 14 ?_
    refine tk 15 ?_
    refine tk 16 ?_
    refine tk 17 ?_
    refine tk 18 ?_
    refine tk 19 ?_
    refine tk 20 ?_
    refine tk 21 ?_
    refine tk 22 ?_
    refine rd 23 fun K hK => ?_
    go_simp
    refine (zj5 p.sch a.sch p.name a.name _).mono ?_
    rintro e wy23 ⟨rfl, hby23⟩
    try dsimp only
    rw [HCE.out]
    refine hK.out _ _ ?_ (fun hHeld => nx ?_)
    ·(try dsimp only); go_split_ands; exact ⟨Below.trans (by assumption) (hby23.mono (Below.size (by assumption))), zpg hby23, zpg hby23, zpg hby23, zpg hby23, zpg hby23⟩
    clear hK K
    refine tk 24 ?_
    refine tk 25 ?_
    refine wpAnyH_done (by kernel_rfl) ?_ _
    have HBE := zpa (HB4.out.trans ((show Below w4.heap.size w4 wy23 from hHeld.1).mono HB4.out.size))
    clear hHeld
    rcases r with _ | _
    ·have HR : Hid (V.qf x = false) := zpa (by rw [HOK.out]; exact HNO.out HAT.out)
     exact zq4
    ·have HY : Hid (V.kp x.aff (k + 1) = true) := zpa (by rw [HST.out, HTO.out, HAT.out]; rfl)
     exact zr7
  ·exact zrb
end Go.Proofs.YtbikeahmldobkaaGreatDoor
