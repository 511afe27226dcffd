import Derived.Test.YtcfbkcapbbhmpaaGreatDoorC39x13
import Derived.Test.YtcfbkcapbbhmpaaGreatDoorC39x11
import Derived.Test.YtcfbkcapbbhmpaaGreatDoorC39x05
import Derived.Test.YtcfbkcapbbhmpaaGreatDoorC39x09
set_option linter.all false
set_option maxRecDepth 100000
set_option maxHeartbeats 6400000
namespace Go.Proofs.YtcfbkcapbbhmpaaGreatDoor
open Go.RowKit
def advV (x : V.Adv) (u : Value) : Value := .agg #[.string ⟨x.id.toArray⟩, .int .i64 x.rev, .int .i64 x.sev, u]
structure AffAt (w : World) (b o : Nat) (a : V.Aff) (ua : Option Addr) (uc : Nat) : Prop where
 c0 : w.cell? ⟨b, o, none⟩ = some (.int .i64 a.sch)
 c1 : w.cell? ⟨b, o + 1, none⟩ = some (.string ⟨a.name.toArray⟩)
 c2 : w.cell? ⟨b, o + 2, none⟩ = some (.int .i64 a.rs)
 c3 : w.cell? ⟨b, o + 3, none⟩ = some (.slice ua a.its.length uc)
 its : Itvs w (.slice ua a.its.length uc) a.its
theorem AffAt.below {w w' : World} {b o : Nat} {a : V.Aff} {ua : Option Addr} {uc : Nat} (h : AffAt w b o a ua uc) (hb : Below w.heap.size w w') : AffAt w' b o a ua uc :=
 ⟨zb hb h.c0, zb hb h.c1, zb hb h.c2, zb hb h.c3, h.its.below hb⟩
structure AffWf (a : V.Aff) : Prop where
 name : a.name.length ≤ maxLen
 lens : Lens a.its
 len : a.its.length ≤ maxLen
def Affs (w : World) (v : Value) (l : List V.Aff) : Prop :=
 ∃ p cap, v = .slice p l.length cap /\ ∀ j (h : j < l.length), AffWf l[j] /\ ∃ b off ua uc, p = some ⟨b, off, none⟩ /\ b < w.heap.size /\ AffAt w b (off + j * 4) l[j] ua uc
theorem Affs.nil (w : World) : Affs w (.slice none 0 0) [] := ⟨none, 0, rfl, fun j h => by simp at h⟩
theorem Affs.below {w w' : World} {v : Value} {l : List V.Aff} (h : Affs w v l) (hb : Below w.heap.size w w') : Affs w' v l := by
 obtain ⟨p, cap, e, hc⟩ := h
 refine ⟨p, cap, e, fun j hj => ?_⟩
 obtain ⟨hw, b, off, ua, uc, ep, hlt, ha⟩ := hc j hj
 exact ⟨hw, b, off, ua, uc, ep, Nat.lt_of_lt_of_le hlt hb.size, ha.below hb⟩
theorem Affs.slice {w : World} {v : Value} {l : List V.Aff} (h : Affs w v l) : ∃ p cap, v = .slice p l.length cap := by
 obtain ⟨p, c, e, _⟩ := h
 exact ⟨p, c, e⟩
theorem Affs.at {w : World} {p : Option Addr} {n cap : Nat} {l : List V.Aff} (h : Affs w (.slice p n cap) l) (j : Nat) (hj : j < l.length) : AffWf l[j] /\ ∃ b off ua uc, p = some ⟨b, off, none⟩ /\ b < w.heap.size /\ AffAt w b (off + j * 4) l[j] ua uc := by
 obtain ⟨p', c, e, hc⟩ := h
 cases e
 exact hc j hj
theorem zbj (x : V.Adv) (u : Value) (w : World) : Below w.heap.size w (w.alloc (.cells #[.string ⟨x.id.toArray⟩, .int .i64 x.rev, .int .i64 x.sev, u] 29)) /\ (w.alloc (.cells #[.string ⟨x.id.toArray⟩, .int .i64 x.rev, .int .i64 x.sev, u] 29)).cell? ⟨w.heap.size, 0, none⟩ = some (.string ⟨x.id.toArray⟩) /\ (w.alloc (.cells #[.string ⟨x.id.toArray⟩, .int .i64 x.rev, .int .i64 x.sev, u] 29)).cell? ⟨w.heap.size, 1, none⟩ = some (.int .i64 x.rev) /\ (w.alloc (.cells #[.string ⟨x.id.toArray⟩, .int .i64 x.rev, .int .i64 x.sev, u] 29)).cell? ⟨w.heap.size, 2, none⟩ = some (.int .i64 x.sev) /\ (w.alloc (.cells #[.string ⟨x.id.toArray⟩, .int .i64 x.rev, .int .i64 x.sev, u] 29)).cell? ⟨w.heap.size, 3, none⟩ = some u := by
 refine ⟨(zwh _ w).alloc (zwg _) _, ?_, ?_, ?_, ?_⟩ <;> (rw [World.cell?_alloc_new]; rfl)
theorem zze {P : Prop} (h : P := by
 have HR : Hid (V.qp x = false) := zwe (by
   rcases h : V.qp x with _ | _
   · rfl
   · have hp := V.jh h
     exact absurd hp.id g0)
 have g0' : V.xu x.id = false := by simpa using g0
 rw [g0']
 clear g0 g0'
 go_wp2
 go_ret
 exact ⟨zc HR.out.symm, HB.out⟩) : P := h
theorem zzh {P : Prop} (h : P := by
 have HR : Hid (V.qp x = false) := zwe (by
   rcases h : V.qp x with _ | _
   · rfl
   · have hp := V.jh h
     exact absurd hp.len g5)
 have f5 : (16 : Int) < (x.aff.length : Int) := by omega
 clear g5
 go_wp2
 go_ret
 exact ⟨zc HR.out.symm, HB.out⟩) : P := h
theorem zzj {P : Prop} (h : P := by
 have HR : Hid (V.qp x = false) := zwe (by
   rcases h : V.qp x with _ | _
   · rfl
   · have hp := V.jh h
     exact absurd hp.rev1 g2)
 have f2 : (1099511627776 : Int) < x.rev := by omega
 clear g2
 go_wp2
 go_ret
 exact ⟨zc HR.out.symm, HB.out⟩) : P := h
theorem zzm {P : Prop} (h : P := by
 have HR : Hid (V.qp x = false) := zwe (by
   rcases h : V.qp x with _ | _
   · rfl
   · have hp := V.jh h
     exact absurd hp.sev1 g4)
 have f4 : (10 : Int) < x.sev := by omega
 clear g4
 go_wp2
 go_ret
 exact ⟨zc HR.out.symm, HB.out⟩) : P := h
theorem zzn {P : Prop} (h : P := by
 go_wp2
 go_ret
 exact ⟨zc HR.out.symm, HB.out⟩) : P := h
theorem zz6 {P : Prop} (h : P := by
 go_wp2
 go_ret
 exact ⟨zc HR.out.symm, HB.out.trans (HBE.out.mono HB.out.size)⟩) : P := h
theorem z0h {P : Prop} (h : P := by
 obtain rfl : k = x.aff.length := by omega
 have HR : Hid (V.qp x = true) := zwe (by rw [HOK.out]; exact HTO.out)
 go_wp2
 go_ret
 exact ⟨zc HR.out.symm, HBW.out⟩) : P := h
theorem z1q {P : Prop} (h : P := by
 go_wp2
 go_roundw
 case rel => exact ⟨k + 1, by omega, by go_num, HY.out, HBE.out⟩
 case measure => simp [intOf]; omega) : P := h
theorem z1r {P : Prop} (h : P := by
 go_wp2
 go_roundw
 case rel => exact ⟨0 + 1, by omega, by go_num, HY.out, HBE.out⟩
 case measure => simp [intOf]; omega) : P := h
theorem zdf (x : V.Adv) (v : Value) (w : World) (hm : zg w) (hv : Affs w v x.aff) (hid : x.id.length ≤ maxLen) (hl : x.aff.length ≤ maxLen) :
  Calls Tryz.prog 31 #[advV x v] w fun e w' => e = .returned (.bool (V.qp x)) /\ Below w.heap.size w w' := by
 obtain ⟨pa, pc, rfl⟩ := hv.slice
 obtain ⟨hb, c0, c1, c2, c3⟩ := zbj x (.slice pa x.aff.length pc) w
 have HM := zwe (hm.below hb)
 have HV := zwe (hv.below hb)
 have HI : Hid ((⟨x.id.toArray⟩ : ByteArray).size ≤ maxLen) := zwe (by rw [yo]; exact hid)
 have HB := zwe hb
 have HBX : Hid (w.heap.size < (w.alloc (.cells #[.string ⟨x.id.toArray⟩, .int .i64 x.rev, .int .i64 x.sev, .slice pa x.aff.length pc] 29)).heap.size) := zwe (by simp)
 unfold maxLen at hl
 clear hm hv hid hb
 unfold advV
 go_enter Tryz.func31, Tryz.ntmps31
 go_wp2_with fail
 generalize w.alloc (.cells #[.string ⟨x.id.toArray⟩, .int .i64 x.rev, .int .i64 x.sev, .slice pa x.aff.length pc] 29) = w0 at *
 refine (zqw ⟨x.id.toArray⟩ w0 HI.out).mono ?_
 rintro e w' ⟨rfl, hw'⟩
 obtain rfl := hw'.symm
 clear hw'
 rw [kn]
 by_cases g0 : V.xu x.id = true
 case neg =>
  exact zze
 rw [g0]
 by_cases g1 : 1 ≤ x.rev
 case neg =>
  have HR : Hid (V.qp x = false) := zwe (by
    rcases h : V.qp x with _ | _
    · rfl
    · have hp := V.jh h
      exact absurd hp.rev0 g1)
  have f1 : x.rev < 1 := by omega
  clear g1
  exact zzn
 have f1 : ¬ x.rev < 1 := by omega
 by_cases g2 : x.rev ≤ 1099511627776
 case neg =>
  exact zzj
 have f2 : ¬ (1099511627776 : Int) < x.rev := by omega
 by_cases g3 : 1 ≤ x.sev
 case neg =>
  have HR : Hid (V.qp x = false) := zwe (by
    rcases h : V.qp x with _ | _
    · rfl
    · have hp := V.jh h
      exact absurd hp.sev0 g3)
  have f3 : x.sev < 1 := by omega
  clear g3
  exact zzn
 have f3 : ¬ x.sev < 1 := by omega
 by_cases g4 : x.sev ≤ 10
 case neg =>
  exact zzm
 have f4 : ¬ (10 : Int) < x.sev := by omega
 by_cases g5 : x.aff.length ≤ 16
 case neg =>
  exact zzh
 have f5 : ¬ (16 : Int) < (x.aff.length : Int) := by omega
 have HOK : Hid (V.qp x = V.yu x.aff x.aff.length) := zwe (by
   unfold V.qp V.zhb
   rw [g0, decide_eq_true g1, decide_eq_true g2, decide_eq_true g3, decide_eq_true g4, decide_eq_true g5]
   rfl)
 clear g0 g1 g2 g3 g4
 go_wp2_with fail
 go_loopw [38] (fun iv W => ∃ k : Nat, k ≤ x.aff.length /\ iv = .int .i64 k /\ V.yu x.aff k = true /\ Below w0.heap.size w0 W) (fun iv _ => x.aff.length - (intOf iv).toNat)
 case atStart => exact ⟨0, Nat.zero_le _, rfl, rfl, zwh _ _⟩
 case round =>
  obtain ⟨k, hk, rfl, hto, hbr⟩ := hrel
  have HTO := zwe hto
  have HBR := zwe hbr
  have HBW := zwf HB hbr
  clear hto hbr
  by_cases hlt : k < x.aff.length
  ·obtain ⟨hwf, b, off, ua, uc, rfl, hblt, ha⟩ := HV.out.at k hlt
   have HVK := zwe (HV.out.below HBR.out)
   have HW := zwe hwf
   have HA := zwe (ha.below HBR.out)
   have HST := zwe (V.zb3 hlt)
   have HNO := zwe (V.zrs hlt)
   have HAT : Hid (V.zcb x.aff k x.aff[k] = ((decide (k = 0) || decide (V.affC (x.aff.getD (k - 1) V.zA) x.aff[k] < 0)) && V.kh x.aff[k])) := zwe rfl
   generalize x.aff[k] = a at *
   have e0 := HA.out.c0
   have e1 := HA.out.c1
   have e2 := HA.out.c2
   have e3 := HA.out.c3
   have i1 : (0 : Int) ≤ (k : Int) := by omega
   have i2 : (k : Int) < (x.aff.length : Int) := by omega
   have wr1 : IntKind.i64.wrap ((k : Int) + 1) = (k : Int) + 1 := IntWalk.i64_in _ (by omega)
   have hb2 : Below wr.heap.size wr (wr.alloc (.cells #[.int .i64 a.sch, .string ⟨a.name.toArray⟩, .int .i64 a.rs, .slice ua a.its.length uc] 47)) := (zwh _ wr).alloc (zwg _) _
   obtain ⟨_, d0, d1, d2, d3⟩ := zdh a (.slice ua a.its.length uc) wr
   have HA2 := zwe (HA.out.below hb2)
   have HB2 := zwf HBR hb2
   have HM2 := zwe (HM.out.below HB2.out)
   have HV2 := zwe (HVK.out.below hb2)
   have hx3 := zb HB2.out c3
   clear hb2 hwf ha
   go_wp2_with fail
   generalize wr.alloc (.cells #[.int .i64 a.sch, .string ⟨a.name.toArray⟩, .int .i64 a.rs, .slice ua a.its.length uc] 47) = w2 at *
   generalize wr.heap.size = X at *
   have c3' := c3
   clear c3 e0 e1 e2 e3
   have c3 := hx3
   clear hx3
   rcases Nat.eq_zero_or_pos k with hk0 | hk0
   ·subst hk0
    obtain ⟨s, hs⟩ : ∃ s, V.kh a = s := ⟨_, rfl⟩
    have HSE := zwe hs
    have HAS : Hid (V.zcb x.aff 0 a = s) := zwe (by rw [HAT.out, hs]; simp)
    clear hs
    refine wp_region_held_drew (S := (fun W' => Below w2.heap.size w2 W' /\ W'.cell? ⟨X, 0, none⟩ = some (.int .i64 a.sch) /\ W'.cell? ⟨X, 1, none⟩ = some (.string ⟨a.name.toArray⟩) /\ W'.cell? ⟨X, 2, none⟩ = some (.int .i64 a.rs) /\ W'.cell? ⟨X, 3, none⟩ = some (.slice ua a.its.length uc))) (by kernel_rfl) (by (try dsimp only); exact ⟨(zwh _ _).drew, zb (zwh _ _).drew d0, zb (zwh _ _).drew d1, zb (zwh _ _).drew d2, zb (zwh _ _).drew d3⟩) (fun hHeld => ?_)
    refine tk 0 ?_
    refine tk 1 ?_
    refine tk 2 ?_
    refine tu 3 ?_
    refine tu 4 ?_
    refine tu 5 ?_
    refine tu 6 ?_
    refine tu 7 ?_
    refine tu 8 ?_
    refine tu 9 ?_
    refine tu 10 ?_
    refine tu 11 ?_
    refine tk 12 ?_
    refine tk 13 ?_
    refine tk 14 ?_
    refine rd 15 fun K hK => ?_
    go_simp
    refine (znf a ua uc _ (HM2.out.below (show Below w2.heap.size w2 _ from (by first | assumption | exact And.left (by assumption)))) (HA2.out.its.below (show Below w2.heap.size w2 _ from (by first | assumption | exact And.left (by assumption)))) HW.out.lens HW.out.name HW.out.len).mono ?_
    rintro e wz15 ⟨rfl, hbz15⟩
    try dsimp only
    refine hK.out _ _ ?_ (fun hHeld => nx ?_)
    ·(try dsimp only); go_split_ands; exact ⟨Below.trans (by assumption) (hbz15.mono (Below.size (by assumption))), zwk hbz15, zwk hbz15, zwk hbz15, zwk hbz15⟩
    clear hK K
    refine tk 16 ?_
    refine tk 17 ?_
    refine wpAnyH_done (by kernel_rfl) ?_ _
    rw [HSE.out] at *
    have HBE := zwe (HB2.out.trans ((show Below w2.heap.size w2 wz15 from hHeld.1).mono HB2.out.size))
    clear hHeld
    rcases s with _ | _
    ·have HR : Hid (V.qp x = false) := zwe (by rw [HOK.out]; exact HNO.out HAS.out)
     exact zz6
    ·have HY : Hid (V.yu x.aff (0 + 1) = true) := zwe (by rw [HST.out, HTO.out, HAS.out]; rfl)
     exact z1r
   ·obtain ⟨j, hj⟩ : ∃ j, k = j + 1 := ⟨k - 1, by omega⟩
    have hjl : j < x.aff.length := by omega
    obtain ⟨_, b', off', up, ucp, e', _, hp⟩ := HV2.out.at j hjl
    cases e'
    have HPV : Hid (x.aff.getD (k - 1) V.zA = x.aff[j]) := zwe (by rw [hj, Nat.add_sub_cancel, List.getD_eq_getElem?_getD, List.getElem?_eq_getElem hjl]; rfl)
    rw [HPV.out] at HAT
    clear HPV
    generalize x.aff[j] = p at *
    have q0 := hp.c0
    have q1 := hp.c1
    have q2 := hp.c2
    have q3 := hp.c3
    have HKJ := zwe hj
    have wk : IntKind.i64.wrap ((k : Int) - 1) = (j : Int) := by rw [hj, IntWalk.i64_in _ (by omega)]; omega
    have j1 : (0 : Int) ≤ (j : Int) := by omega
    have j2 : (j : Int) < (x.aff.length : Int) := by omega
    have k0 : (0 : Int) < (k : Int) := by omega
    have k1 : decide ((0 : Int) < (k : Int)) = true := decide_eq_true k0
    have k2 : decide (0 < k) = true := decide_eq_true hk0
    have k3 : 0 < k := hk0
    have hk0n : ¬ k = 0 := by omega
    have HK0 : Hid (decide (k = 0) = false) := zwe (decide_eq_false hk0n)
    rw [HK0.out, Bool.false_or] at HAT
    clear hp hj HK0 hk0n hk0
    obtain ⟨c, hc⟩ : ∃ c, V.affC p a = c := ⟨_, rfl⟩
    have HCE := zwe hc
    rw [hc] at HAT
    clear hc
    by_cases hcp : 0 ≤ c
    ·have HCP := zwe hcp
     have HR : Hid (V.qp x = false) := zwe (by rw [HOK.out]; exact HNO.out (by rw [HAT.out, decide_eq_false (by omega : ¬ c < 0)]; rfl))
     refine wp_region_held_drew (S := (fun W' => Below w2.heap.size w2 W' /\ W'.cell? ⟨w.heap.size, 3, none⟩ = some (.slice (some ⟨b, off, none⟩) x.aff.length pc) /\ W'.cell? ⟨b, off + j * 4, none⟩ = some (.int .i64 p.sch) /\ W'.cell? ⟨b, off + j * 4 + 1, none⟩ = some (.string ⟨p.name.toArray⟩) /\ W'.cell? ⟨b, off + j * 4 + 2, none⟩ = some (.int .i64 p.rs) /\ W'.cell? ⟨b, off + j * 4 + 3, none⟩ = some (.slice up p.its.length ucp) /\ W'.cell? ⟨X, 0, none⟩ = some (.int .i64 a.sch) /\ W'.cell? ⟨X, 1, none⟩ = some (.string ⟨a.name.toArray⟩) /\ W'.cell? ⟨X, 2, none⟩ = some (.int .i64 a.rs) /\ W'.cell? ⟨X, 3, none⟩ = some (.slice ua a.its.length uc))) (by kernel_rfl) (by (try dsimp only); exact ⟨(zwh _ _).drew, zb (zwh _ _).drew c3, zb (zwh _ _).drew q0, zb (zwh _ _).drew q1, zb (zwh _ _).drew q2, zb (zwh _ _).drew q3, zb (zwh _ _).drew d0, zb (zwh _ _).drew d1, zb (zwh _ _).drew d2, zb (zwh _ _).drew d3⟩) (fun hHeld => ?_)
     refine tk 0 ?_
     refine tk 1 ?_
     refine tk 2 ?_
     refine tk 3 ?_
     refine tk 4 ?_
     refine tk 5 ?_
     refine wpAnyH_take (i := 6) (v := (.int .i64 (j : Int))) rfl (by kernel_rfl) (by kernel_rfl) (by kernel_rfl) (fun _ _ _ h => h) (Or.inl ⟨by rfl, fun w' hSw => by go_simp; try rfl⟩) (by assumption) ?_
     try simp only [zv9, zwa, zwb, Act.put, zwc, List.set_cons_succ, List.set_cons_zero]
     refine tk 7 ?_
     refine tk 8 ?_
     refine tk 9 ?_
     refine rd 10 fun K hK => ?_
     go_simp
     refine (zl9 p a up ua p.its.length ucp a.its.length uc _).mono ?_
     rintro e wy10 ⟨rfl, hby10⟩
     try dsimp only
     rw [HCE.out]
     refine hK.out _ _ ?_ (fun hHeld => nx ?_)
     ·(try dsimp only); go_split_ands; exact ⟨Below.trans (by assumption) (hby10.mono (Below.size (by assumption))), zwk hby10, zwk hby10, zwk hby10, zwk hby10, zwk hby10, zwk hby10, zwk hby10, zwk hby10, zwk hby10⟩
     clear hK K
     refine wpAnyH_take (i := 11) (v := (.bool true)) rfl (by kernel_rfl) (by kernel_rfl) (by kernel_rfl) (fun _ _ _ h => h) (Or.inl ⟨by rfl, fun w' hSw => by have e := HCP.out; go_simp; try rfl⟩) (by assumption) ?_
     try simp only [zv9, zwa, zwb, Act.put, zwc, List.set_cons_succ, List.set_cons_zero]
     refine tk 12 ?_
     refine tk 13 ?_
     refine tu 14 ?_
     refine tu 15 ?_
     refine tu 16 ?_
     refine tk 17 ?_
     refine wpAnyH_done (by kernel_rfl) ?_ _
     have HBE := zwe (HB2.out.trans ((show Below w2.heap.size w2 wy10 from hHeld.1).mono HB2.out.size))
     clear hHeld
     exact zz6
    ·have HCP := zwe hcp
     obtain ⟨s, hs⟩ : ∃ s, V.kh a = s := ⟨_, rfl⟩
     have HSE := zwe hs
     have HAS : Hid (V.zcb x.aff k a = s) := zwe (by rw [HAT.out, hs, decide_eq_true (by omega : c < 0)]; rfl)
     clear hs
     refine wp_region_held_drew (S := (fun W' => Below w2.heap.size w2 W' /\ W'.cell? ⟨w.heap.size, 3, none⟩ = some (.slice (some ⟨b, off, none⟩) x.aff.length pc) /\ W'.cell? ⟨b, off + j * 4, none⟩ = some (.int .i64 p.sch) /\ W'.cell? ⟨b, off + j * 4 + 1, none⟩ = some (.string ⟨p.name.toArray⟩) /\ W'.cell? ⟨b, off + j * 4 + 2, none⟩ = some (.int .i64 p.rs) /\ W'.cell? ⟨b, off + j * 4 + 3, none⟩ = some (.slice up p.its.length ucp) /\ W'.cell? ⟨X, 0, none⟩ = some (.int .i64 a.sch) /\ W'.cell? ⟨X, 1, none⟩ = some (.string ⟨a.name.toArray⟩) /\ W'.cell? ⟨X, 2, none⟩ = some (.int .i64 a.rs) /\ W'.cell? ⟨X, 3, none⟩ = some (.slice ua a.its.length uc))) (by kernel_rfl) (by (try dsimp only); exact ⟨(zwh _ _).drew, zb (zwh _ _).drew c3, zb (zwh _ _).drew q0, zb (zwh _ _).drew q1, zb (zwh _ _).drew q2, zb (zwh _ _).drew q3, zb (zwh _ _).drew d0, zb (zwh _ _).drew d1, zb (zwh _ _).drew d2, zb (zwh _ _).drew d3⟩) (fun hHeld => ?_)
     refine tk 0 ?_
     refine tk 1 ?_
     refine tk 2 ?_
     refine tk 3 ?_
     refine tk 4 ?_
     refine tk 5 ?_
     refine wpAnyH_take (i := 6) (v := (.int .i64 (j : Int))) rfl (by kernel_rfl) (by kernel_rfl) (by kernel_rfl) (fun _ _ _ h => h) (Or.inl ⟨by rfl, fun w' hSw => by go_simp; try rfl⟩) (by assumption) ?_
     try simp only [zv9, zwa, zwb, Act.put, zwc, List.set_cons_succ, List.set_cons_zero]
     refine tk 7 ?_
     refine tk 8 ?_
     refine tk 9 ?_
     refine rd 10 fun K hK => ?_
     go_simp
     refine (zl9 p a up ua p.its.length ucp a.its.length uc _).mono ?_
     rintro e wx10 ⟨rfl, hbx10⟩
     try dsimp only
     rw [HCE.out]
     refine hK.out _ _ ?_ (fun hHeld => nx ?_)
     ·(try dsimp only); go_split_ands; exact ⟨Below.trans (by assumption) (hbx10.mono (Below.size (by assumption))), zwk hbx10, zwk hbx10, zwk hbx10, zwk hbx10, zwk hbx10, zwk hbx10, zwk hbx10, zwk hbx10, zwk hbx10⟩
     clear hK K
     refine wpAnyH_take (i := 11) (v := (.bool false)) rfl (by kernel_rfl) (by kernel_rfl) (by kernel_rfl) (fun _ _ _ h => h) (Or.inl ⟨by rfl, fun w' hSw => by have e := HCP.out; go_simp; try rfl⟩) (by assumption) ?_
     try simp only [zv9, zwa, zwb, Act.put, zwc, List.set_cons_succ, List.set_cons_zero]
     refine tk 12 ?_
     refine tk 13 ?_
     refine tk 14 ?_
     refine rd 15 fun K hK => ?_
     go_simp
     refine (znf a ua uc _ (HM2.out.below (show Below w2.heap.size w2 _ from (by first | assumption | exact And.left (by assumption)))) (HA2.out.its.below (show Below w2.heap.size w2 _ from (by first | assumption | exact And.left (by assumption)))) HW.out.lens HW.out.name HW.out.len).mono ?_
     rintro e wx15 ⟨rfl, hbx15⟩
     try dsimp only
     refine hK.out _ _ ?_ (fun hHeld => nx ?_)
     ·(try dsimp only); go_split_ands; exact ⟨Below.trans (by assumption) (hbx15.mono (Below.size (by assumption))), zwk hbx15, zwk hbx15, zwk hbx15, zwk hbx15, zwk hbx15, zwk hbx15, zwk hbx15, zwk hbx15, zwk hbx15⟩
     clear hK K
     refine tk 16 ?_
     refine tk 17 ?_
     refine wpAnyH_done (by kernel_rfl) ?_ _
     rw [HSE.out] at *
     have HBE := zwe (HB2.out.trans ((show Below w2.heap.size w2 wx15 from hHeld.1).mono HB2.out.size))
     clear hHeld
     rcases s with _ | _
     ·have HR : Hid (V.qp x = false) := zwe (by rw [HOK.out]; exact HNO.out HAS.out)
      exact zz6
     ·have HY : Hid (V.yu x.aff (k + 1) = true) := zwe (by rw [HST.out, HTO.out, HAS.out]; rfl)
      exact z1q
  ·exact z0h
def baE (s : ByteArray) : List Value := [.string s]
theorem ja (s : ByteArray) : (baE s).length = 1 := rfl
theorem qz (s : ByteArray) : ∀ u ∈ baE s, u.oneCell' = true := by
 intro u hu
 simp [baE] at hu
 subst hu
 rfl
theorem qy : xq 9 1 16 := by
 have h : (match Tryz.prog.info? 9 with | some i => i.size == 1 && (i.bytes == 16 && (match i.zero with | some z => z.cells.size == 1 | none => false)) | none => false) = true := by kernel_rfl
 unfold xq
 cases hq : Tryz.prog.info? 9 with
 | none => rw [hq] at h; cases h
 | some i =>
  exact zw1
def SRow (w : World) (N : Nat) (v : Value) (l : List ByteArray) : Prop := GRow 9 1 baE w N v l
theorem baE_flat (l : List ByteArray) : l.flatMap baE = l.map Value.string := by
 induction l with
 | nil => rfl
 | cons s l ih => rw [List.flatMap_cons, ih]; rfl
theorem SRow.head {w : World} {N : Nat} {v : Value} {l : List ByteArray} (h : SRow w N v l) (h0 : l ≠ []) : ∃ g cap, v = .slice (some ⟨g, 0, none⟩) l.length cap /\ l.length ≤ cap /\ g < w.heap.size /\ ∀ (j : Nat) (x : ByteArray), l[j]? = some x -> w.cell? ⟨g, 0 + j, none⟩ = some (.string x) := by
 obtain ⟨g0, cap0, rfl⟩ : ∃ a c, v = .slice a l.length c := GRow.slice h
 rcases h.2 with ⟨e, hn⟩ | ⟨g, cap, cur, e, hb, hg, hnc, hm, hsz, htk⟩
 ·exact absurd (List.length_eq_zero_iff.1 hn) h0
 ·cases e
  refine ⟨g, _, rfl, hnc, (Array.getElem?_eq_some_iff.1 hg).1, fun j x hx => ?_⟩
  have hj := (List.getElem?_eq_some_iff.1 hx).1
  rw [Nat.zero_add, zcs hg]
  have h2 : (cur.toList.take (l.length * 1))[j]? = some (.string x) := by
   rw [htk, baE_flat, List.getElem?_map, hx]
   rfl
  rw [List.getElem?_take] at h2
  split at h2
  ·simpa using h2
  ·cases h2
theorem jc (w : World) (N : Nat) (v : Value) (l : List ByteArray) (sep : ByteArray) (h : SRow w N v l) (h0 : l ≠ []) (hl : l.length ≤ 1000000) (hlen : (Lib.join (l.map (·.data.toList)) sep.data.toList).length ≤ 1000000000) :
  Calls Tryz.prog 45 #[v, .string sep] w fun e w' => e = .returned (.string ⟨(Lib.join (l.map (·.data.toList)) sep.data.toList).toArray⟩) /\ Below w.heap.size w w' := by
 obtain ⟨g, cap, rfl, hc, hg, hcell⟩ := h.head h0
 exact Tryz.strings_Join g 0 cap l sep w hcell hg (by omega) hc (by omega)
theorem str_len (s : ByteArray) : s.data.toList.length = s.size := rfl
theorem vt {n : Int} {v : V.Bs} {k : Int} (h : V.jz n v k = true) : (k = 0 ∨ k = 1 ∨ k = 2) /\ v.length ≤ 64 := by
 by_cases hk : k = 0
 ·exact ⟨.inl hk, by rw [V.zcx h hk]; simp⟩
 ·exact ⟨.inr (V.xh h hk).1, (V.valid_len (V.xh h hk).2).2⟩
theorem yi {a b : List UInt8} (h : a = b) : Ending.returned (.string ⟨a.toArray⟩) = .returned (.string ⟨b.toArray⟩) := by rw [h]
theorem zas {A : ByteArray} (h : A.size ≤ 70) : (Lib.join ([A].map (·.data.toList)) (ByteArray.mk #[32]).data.toList).length ≤ 1000000000 := by
 rw [List.map_cons, List.map_nil, Lib.join_one, str_len]
 omega
theorem zat {A B : ByteArray} (h : A.size ≤ 70) (h2 : B.size ≤ 70) : (Lib.join ([A, B].map (·.data.toList)) (ByteArray.mk #[32]).data.toList).length ≤ 1000000000 := by
 rw [List.map_cons, List.map_cons, List.map_nil, Lib.join_length]
 show 1 * 1 + (A.size + (B.size + 0)) ≤ 1000000000
 omega
theorem ret_ba {s : ByteArray} {b : List UInt8} (h : s.data.toList = b) : Ending.returned (.string s) = .returned (.string ⟨b.toArray⟩) := by
 subst h
 rfl
theorem zn {W W1 : World} {o : Obj} {c : Nat} (h : (W.alloc o).grownBy W1 (Value.slice none 0 c).ownBlock) : Below W.heap.size W W1 :=
 ((zwh _ _).alloc (zwg _) _).trans ⟨h.os, h.tape, h.output, h.size, fun k hk => h.block k (by simp; omega) (fun e => by cases e)⟩
theorem vk {w W1 W2 : World} {v : Value} {l : List ByteArray} {o : Obj} (h1 : Below w.heap.size w W1) (hr : SRow W1 (w.heap.size + 1) v l) (h2 : (W1.alloc o).grownBy W2 v.ownBlock) : Below w.heap.size w W2 :=
 (h1.alloc h1.size o).trans ⟨h2.os, h2.tape, h2.output, h2.size, fun k hk => h2.block k (by have := h1.size; simp; omega) (fun e => by have := GRow.block hr k e.symm; omega)⟩
theorem zwn {P : Prop} (h : P := by
 rcases hlk with rfl | rfl | rfl <;> rcases hhk with rfl | rfl | rfl
 ·have HR : Hid (V.zw ⟨lo, 0, hi, 0⟩ = [42]) := zwe (by simp [V.zw])
  go_wp2
  go_ret
  exact ⟨yi HR.out.symm, HB0.out⟩
 ·have HR : Hid (V.zw ⟨lo, 0, hi, 1⟩ = Lib.join [[60, 61] ++ hi] [32]) := zwe (by simp [V.zw, V.lowT, V.ui])
  go_wp2_with (first | (refine zl ja (by decide) qz qy (by decide) rfl _ _ 41 rfl Tryz.underlying41 (w.heap.size + 1) (.slice none 0 0) [] rfl (GRow.nil _ _) (w.heap.size + 1) ((⟨#[60, 61]⟩ : ByteArray) ++ t) rfl (fun j u hu => by simpa [baE, ze] using hu) (by simp) (by simp) ?_; intro v1 W1 hr1 hg1; have d2 := za (zn hg1) c2; have d3 := za (zn hg1) c3; clear c0 c1 c2 c3) | fail)
  have HR1 : Hid (SRow W1 (w.heap.size + 1) v1 [((⟨#[60, 61]⟩ : ByteArray) ++ t)]) := zwe hr1
  have HB1 := zwe (HB0.out.trans ((zn hg1).mono HB0.out.size))
  clear hr1 hg1
  refine (jc W1 (w.heap.size + 1) v1 [((⟨#[60, 61]⟩ : ByteArray) ++ t)] ⟨#[32]⟩ HR1.out (by simp) (by simp) (zas (by rw [ByteArray.size_append]; show 2 + t.size ≤ 70; omega))).mono ?_
  rintro e w2 ⟨rfl, hb2⟩
  have HB2 := zwf HB1 hb2
  clear hb2
  go_wp2
  go_ret
  exact ⟨yi (by rw [HR.out, ← HLT.out]; simp), HB2.out⟩
 ·have HR : Hid (V.zw ⟨lo, 0, hi, 2⟩ = Lib.join [[60] ++ hi] [32]) := zwe (by simp [V.zw, V.lowT, V.ui])
  go_wp2_with (first | (refine zl ja (by decide) qz qy (by decide) rfl _ _ 41 rfl Tryz.underlying41 (w.heap.size + 1) (.slice none 0 0) [] rfl (GRow.nil _ _) (w.heap.size + 1) ((⟨#[60]⟩ : ByteArray) ++ t) rfl (fun j u hu => by simpa [baE, ze] using hu) (by simp) (by simp) ?_; intro v1 W1 hr1 hg1; have d2 := za (zn hg1) c2; have d3 := za (zn hg1) c3; clear c0 c1 c2 c3) | fail)
  have HR1 : Hid (SRow W1 (w.heap.size + 1) v1 [((⟨#[60]⟩ : ByteArray) ++ t)]) := zwe hr1
  have HB1 := zwe (HB0.out.trans ((zn hg1).mono HB0.out.size))
  clear hr1 hg1
  refine (jc W1 (w.heap.size + 1) v1 [((⟨#[60]⟩ : ByteArray) ++ t)] ⟨#[32]⟩ HR1.out (by simp) (by simp) (zas (by rw [ByteArray.size_append]; show 1 + t.size ≤ 70; omega))).mono ?_
  rintro e w2 ⟨rfl, hb2⟩
  have HB2 := zwf HB1 hb2
  clear hb2
  go_wp2
  go_ret
  exact ⟨yi (by rw [HR.out, ← HLT.out]; simp), HB2.out⟩
 ·have HR : Hid (V.zw ⟨lo, 1, hi, 0⟩ = Lib.join [[62, 61] ++ lo] [32]) := zwe (by simp [V.zw, V.lowT, V.ui])
  go_wp2_with (first | (refine zl ja (by decide) qz qy (by decide) rfl _ _ 41 rfl Tryz.underlying41 (w.heap.size + 1) (.slice none 0 0) [] rfl (GRow.nil _ _) (w.heap.size + 1) ((⟨#[62, 61]⟩ : ByteArray) ++ s) rfl (fun j u hu => by simpa [baE, ze] using hu) (by simp) (by simp) ?_; intro v1 W1 hr1 hg1; have d2 := za (zn hg1) c2; have d3 := za (zn hg1) c3; clear c0 c1 c2 c3) | fail)
  have HR1 : Hid (SRow W1 (w.heap.size + 1) v1 [((⟨#[62, 61]⟩ : ByteArray) ++ s)]) := zwe hr1
  have HB1 := zwe (HB0.out.trans ((zn hg1).mono HB0.out.size))
  clear hr1 hg1
  refine (jc W1 (w.heap.size + 1) v1 [((⟨#[62, 61]⟩ : ByteArray) ++ s)] ⟨#[32]⟩ HR1.out (by simp) (by simp) (zas (by rw [ByteArray.size_append]; show 2 + s.size ≤ 70; omega))).mono ?_
  rintro e w2 ⟨rfl, hb2⟩
  have HB2 := zwf HB1 hb2
  clear hb2
  go_wp2
  go_ret
  exact ⟨yi (by rw [HR.out, ← HLS.out]; simp), HB2.out⟩
 ·by_cases heq : lo = hi
  ·subst heq
   have HR : Hid (V.zw ⟨lo, 1, lo, 1⟩ = [61] ++ lo) := zwe (by simp [V.zw])
   have hq : (s.toList == t.toList) = true := by rw [ByteArray.toList_eq, ByteArray.toList_eq, HLS.out, HLT.out]; simp
   go_wp2
   go_ret
   exact ⟨ret_ba (by rw [HR.out, ← HLS.out]; simp), HB0.out⟩
  ·have HR : Hid (V.zw ⟨lo, 1, hi, 1⟩ = Lib.join [[62, 61] ++ lo, [60, 61] ++ hi] [32]) := zwe (by simp [V.zw, V.lowT, V.ui, heq])
   have hq : (s.toList == t.toList) = false := zwi.2 fun e => heq (by rw [ByteArray.toList_eq, ByteArray.toList_eq, HLS.out, HLT.out] at e; exact e)
   clear heq
   go_wp2_with (first | (refine zl ja (by decide) qz qy (by decide) rfl _ _ 41 rfl Tryz.underlying41 (w.heap.size + 1) (.slice none 0 0) [] rfl (GRow.nil _ _) (w.heap.size + 1) ((⟨#[62, 61]⟩ : ByteArray) ++ s) rfl (fun j u hu => by simpa [baE, ze] using hu) (by simp) (by simp) ?_; intro v1 W1 hr1 hg1; have HR1 := zwe hr1; have HG1 := zwe hg1; have d2 := za (zn hg1) c2; have d3 := za (zn hg1) c3; clear hr1 hg1 c0 c1 c2 c3) | (refine zl ja (by decide) qz qy (by decide) rfl _ _ 41 rfl Tryz.underlying41 (w.heap.size + 1) _ [((⟨#[62, 61]⟩ : ByteArray) ++ s)] rfl (GRow.below HR1.out ((zwh _ _).alloc (zwg _) _)) _ ((⟨#[60, 61]⟩ : ByteArray) ++ t) rfl (fun j u hu => by rw [World.cell?_alloc_new]; simpa [baE] using hu) (by simp) (by have := HG1.out.size; simp at this ⊢; omega) ?_; intro v2 W2 hr2 hg2; have HR2 := zwe hr2; have HG2 := zwe hg2; clear hr2 hg2) | fail)
   have HB1 := zwe (HB0.out.trans ((zn HG1.out).mono HB0.out.size))
   have HB2 := zwe (vk HB1.out HR1.out HG2.out)
   refine (jc W2 (w.heap.size + 1) v2 [((⟨#[62, 61]⟩ : ByteArray) ++ s), ((⟨#[60, 61]⟩ : ByteArray) ++ t)] ⟨#[32]⟩ HR2.out (by simp) (by simp) (zat (by rw [ByteArray.size_append]; show 2 + s.size ≤ 70; omega) (by rw [ByteArray.size_append]; show 2 + t.size ≤ 70; omega))).mono ?_
   rintro e w3 ⟨rfl, hb3⟩
   have HB3 := zwf HB2 hb3
   clear hb3
   go_wp2
   go_ret
   exact ⟨yi (by rw [HR.out, ← HLS.out, ← HLT.out]; simp), HB3.out⟩
 ·have HR : Hid (V.zw ⟨lo, 1, hi, 2⟩ = Lib.join [[62, 61] ++ lo, [60] ++ hi] [32]) := zwe (by simp [V.zw, V.lowT, V.ui])
  go_wp2_with (first | (refine zl ja (by decide) qz qy (by decide) rfl _ _ 41 rfl Tryz.underlying41 (w.heap.size + 1) (.slice none 0 0) [] rfl (GRow.nil _ _) (w.heap.size + 1) ((⟨#[62, 61]⟩ : ByteArray) ++ s) rfl (fun j u hu => by simpa [baE, ze] using hu) (by simp) (by simp) ?_; intro v1 W1 hr1 hg1; have HR1 := zwe hr1; have HG1 := zwe hg1; have d2 := za (zn hg1) c2; have d3 := za (zn hg1) c3; clear hr1 hg1 c0 c1 c2 c3) | (refine zl ja (by decide) qz qy (by decide) rfl _ _ 41 rfl Tryz.underlying41 (w.heap.size + 1) _ [((⟨#[62, 61]⟩ : ByteArray) ++ s)] rfl (GRow.below HR1.out ((zwh _ _).alloc (zwg _) _)) _ ((⟨#[60]⟩ : ByteArray) ++ t) rfl (fun j u hu => by rw [World.cell?_alloc_new]; simpa [baE] using hu) (by simp) (by have := HG1.out.size; simp at this ⊢; omega) ?_; intro v2 W2 hr2 hg2; have HR2 := zwe hr2; have HG2 := zwe hg2; clear hr2 hg2) | fail)
  have HB1 := zwe (HB0.out.trans ((zn HG1.out).mono HB0.out.size))
  have HB2 := zwe (vk HB1.out HR1.out HG2.out)
  refine (jc W2 (w.heap.size + 1) v2 [((⟨#[62, 61]⟩ : ByteArray) ++ s), ((⟨#[60]⟩ : ByteArray) ++ t)] ⟨#[32]⟩ HR2.out (by simp) (by simp) (zat (by rw [ByteArray.size_append]; show 2 + s.size ≤ 70; omega) (by rw [ByteArray.size_append]; show 1 + t.size ≤ 70; omega))).mono ?_
  rintro e w3 ⟨rfl, hb3⟩
  have HB3 := zwf HB2 hb3
  clear hb3
  go_wp2
  go_ret
  exact ⟨yi (by rw [HR.out, ← HLS.out, ← HLT.out]; simp), HB3.out⟩
 ·have HR : Hid (V.zw ⟨lo, 2, hi, 0⟩ = Lib.join [[62] ++ lo] [32]) := zwe (by simp [V.zw, V.lowT, V.ui])
  go_wp2_with (first | (refine zl ja (by decide) qz qy (by decide) rfl _ _ 41 rfl Tryz.underlying41 (w.heap.size + 1) (.slice none 0 0) [] rfl (GRow.nil _ _) (w.heap.size + 1) ((⟨#[62]⟩ : ByteArray) ++ s) rfl (fun j u hu => by simpa [baE, ze] using hu) (by simp) (by simp) ?_; intro v1 W1 hr1 hg1; have d2 := za (zn hg1) c2; have d3 := za (zn hg1) c3; clear c0 c1 c2 c3) | fail)
  have HR1 : Hid (SRow W1 (w.heap.size + 1) v1 [((⟨#[62]⟩ : ByteArray) ++ s)]) := zwe hr1
  have HB1 := zwe (HB0.out.trans ((zn hg1).mono HB0.out.size))
  clear hr1 hg1
  refine (jc W1 (w.heap.size + 1) v1 [((⟨#[62]⟩ : ByteArray) ++ s)] ⟨#[32]⟩ HR1.out (by simp) (by simp) (zas (by rw [ByteArray.size_append]; show 1 + s.size ≤ 70; omega))).mono ?_
  rintro e w2 ⟨rfl, hb2⟩
  have HB2 := zwf HB1 hb2
  clear hb2
  go_wp2
  go_ret
  exact ⟨yi (by rw [HR.out, ← HLS.out]; simp), HB2.out⟩
 ·have HR : Hid (V.zw ⟨lo, 2, hi, 1⟩ = Lib.join [[62] ++ lo, [60, 61] ++ hi] [32]) := zwe (by simp [V.zw, V.lowT, V.ui])
  go_wp2_with (first | (refine zl ja (by decide) qz qy (by decide) rfl _ _ 41 rfl Tryz.underlying41 (w.heap.size + 1) (.slice none 0 0) [] rfl (GRow.nil _ _) (w.heap.size + 1) ((⟨#[62]⟩ : ByteArray) ++ s) rfl (fun j u hu => by simpa [baE, ze] using hu) (by simp) (by simp) ?_; intro v1 W1 hr1 hg1; have HR1 := zwe hr1; have HG1 := zwe hg1; have d2 := za (zn hg1) c2; have d3 := za (zn hg1) c3; clear hr1 hg1 c0 c1 c2 c3) | (refine zl ja (by decide) qz qy (by decide) rfl _ _ 41 rfl Tryz.underlying41 (w.heap.size + 1) _ [((⟨#[62]⟩ : ByteArray) ++ s)] rfl (GRow.below HR1.out ((zwh _ _).alloc (zwg _) _)) _ ((⟨#[60, 61]⟩ : ByteArray) ++ t) rfl (fun j u hu => by rw [World.cell?_alloc_new]; simpa [baE] using hu) (by simp) (by have := HG1.out.size; simp at this ⊢; omega) ?_; intro v2 W2 hr2 hg2; have HR2 := zwe hr2; have HG2 := zwe hg2; clear hr2 hg2) | fail)
  have HB1 := zwe (HB0.out.trans ((zn HG1.out).mono HB0.out.size))
  have HB2 := zwe (vk HB1.out HR1.out HG2.out)
  refine (jc W2 (w.heap.size + 1) v2 [((⟨#[62]⟩ : ByteArray) ++ s), ((⟨#[60, 61]⟩ : ByteArray) ++ t)] ⟨#[32]⟩ HR2.out (by simp) (by simp) (zat (by rw [ByteArray.size_append]; show 1 + s.size ≤ 70; omega) (by rw [ByteArray.size_append]; show 2 + t.size ≤ 70; omega))).mono ?_
  rintro e w3 ⟨rfl, hb3⟩
  have HB3 := zwf HB2 hb3
  clear hb3
  go_wp2
  go_ret
  exact ⟨yi (by rw [HR.out, ← HLS.out, ← HLT.out]; simp), HB3.out⟩
 ·have HR : Hid (V.zw ⟨lo, 2, hi, 2⟩ = Lib.join [[62] ++ lo, [60] ++ hi] [32]) := zwe (by simp [V.zw, V.lowT, V.ui])
  go_wp2_with (first | (refine zl ja (by decide) qz qy (by decide) rfl _ _ 41 rfl Tryz.underlying41 (w.heap.size + 1) (.slice none 0 0) [] rfl (GRow.nil _ _) (w.heap.size + 1) ((⟨#[62]⟩ : ByteArray) ++ s) rfl (fun j u hu => by simpa [baE, ze] using hu) (by simp) (by simp) ?_; intro v1 W1 hr1 hg1; have HR1 := zwe hr1; have HG1 := zwe hg1; have d2 := za (zn hg1) c2; have d3 := za (zn hg1) c3; clear hr1 hg1 c0 c1 c2 c3) | (refine zl ja (by decide) qz qy (by decide) rfl _ _ 41 rfl Tryz.underlying41 (w.heap.size + 1) _ [((⟨#[62]⟩ : ByteArray) ++ s)] rfl (GRow.below HR1.out ((zwh _ _).alloc (zwg _) _)) _ ((⟨#[60]⟩ : ByteArray) ++ t) rfl (fun j u hu => by rw [World.cell?_alloc_new]; simpa [baE] using hu) (by simp) (by have := HG1.out.size; simp at this ⊢; omega) ?_; intro v2 W2 hr2 hg2; have HR2 := zwe hr2; have HG2 := zwe hg2; clear hr2 hg2) | fail)
  have HB1 := zwe (HB0.out.trans ((zn HG1.out).mono HB0.out.size))
  have HB2 := zwe (vk HB1.out HR1.out HG2.out)
  refine (jc W2 (w.heap.size + 1) v2 [((⟨#[62]⟩ : ByteArray) ++ s), ((⟨#[60]⟩ : ByteArray) ++ t)] ⟨#[32]⟩ HR2.out (by simp) (by simp) (zat (by rw [ByteArray.size_append]; show 1 + s.size ≤ 70; omega) (by rw [ByteArray.size_append]; show 1 + t.size ≤ 70; omega))).mono ?_
  rintro e w3 ⟨rfl, hb3⟩
  have HB3 := zwf HB2 hb3
  clear hb3
  go_wp2
  go_ret
  exact ⟨yi (by rw [HR.out, ← HLS.out, ← HLT.out]; simp), HB3.out⟩) : P := h
theorem zs5 (n : Int) (x : V.Itv) (w : World) (hb : V.zj n x = true) : Calls Tryz.prog 64 #[itvV x] w fun e w' => e = .returned (.string ⟨(V.zw x).toArray⟩) /\ Below w.heap.size w w' := by
 obtain ⟨lo, lk, hi, hk⟩ := x
 unfold V.zj at hb
 rw [Bool.and_eq_true] at hb
 obtain ⟨hlk, hll⟩ := vt hb.1
 obtain ⟨hhk, hhl⟩ := vt hb.2
 simp only at hlk hll hhk hhl
 unfold itvV
 simp only
 have HB0 := zwe ((zwh w.heap.size w).alloc (zwg _) (.cells #[.string ⟨lo.toArray⟩, .int .i64 lk, .string ⟨hi.toArray⟩, .int .i64 hk] 82))
 have c0 : (w.alloc (.cells #[.string ⟨lo.toArray⟩, .int .i64 lk, .string ⟨hi.toArray⟩, .int .i64 hk] 82)).cell? ⟨w.heap.size, 0, none⟩ = some (.string ⟨lo.toArray⟩) := by simp [ze]
 have c1 : (w.alloc (.cells #[.string ⟨lo.toArray⟩, .int .i64 lk, .string ⟨hi.toArray⟩, .int .i64 hk] 82)).cell? ⟨w.heap.size, 1, none⟩ = some (.int .i64 lk) := by simp [ze]
 have c2 : (w.alloc (.cells #[.string ⟨lo.toArray⟩, .int .i64 lk, .string ⟨hi.toArray⟩, .int .i64 hk] 82)).cell? ⟨w.heap.size, 2, none⟩ = some (.string ⟨hi.toArray⟩) := by simp [ze]
 have c3 : (w.alloc (.cells #[.string ⟨lo.toArray⟩, .int .i64 lk, .string ⟨hi.toArray⟩, .int .i64 hk] 82)).cell? ⟨w.heap.size, 3, none⟩ = some (.int .i64 hk) := by simp [ze]
 have HLS : Hid ((⟨lo.toArray⟩ : ByteArray).data.toList = lo) := zwe rfl
 have HLT : Hid ((⟨hi.toArray⟩ : ByteArray).data.toList = hi) := zwe rfl
 have s1 : (⟨lo.toArray⟩ : ByteArray).size ≤ 64 := by simpa [ByteArray.size] using hll
 have t1 : (⟨hi.toArray⟩ : ByteArray).size ≤ 64 := by simpa [ByteArray.size] using hhl
 clear hb hll hhl
 generalize (⟨lo.toArray⟩ : ByteArray) = s at *
 generalize (⟨hi.toArray⟩ : ByteArray) = t at *
 have ql1 : ¬ (9223372036854775807 < 2 + s.size) := by omega
 have ql2 : ¬ (9223372036854775807 < 1 + s.size) := by omega
 have qh1 : ¬ (9223372036854775807 < 2 + t.size) := by omega
 have qh2 : ¬ (9223372036854775807 < 1 + t.size) := by omega
 go_enter Tryz.func64, Tryz.ntmps64
 exact zwn
theorem zto (n : Int) (x : V.Itv) (w : World) (hb : V.zj n x = true) : Calls Tryz.prog 44 #[itvV x] w fun e w' => e = .returned (.string ⟨(V.zw x).toArray⟩) /\ Below w.heap.size w w' := by
 obtain ⟨lo, lk, hi, hk⟩ := x
 unfold V.zj at hb
 rw [Bool.and_eq_true] at hb
 obtain ⟨hlk, hll⟩ := vt hb.1
 obtain ⟨hhk, hhl⟩ := vt hb.2
 simp only at hlk hll hhk hhl
 unfold itvV
 simp only
 have HB0 := zwe ((zwh w.heap.size w).alloc (zwg _) (.cells #[.string ⟨lo.toArray⟩, .int .i64 lk, .string ⟨hi.toArray⟩, .int .i64 hk] 82))
 have c0 : (w.alloc (.cells #[.string ⟨lo.toArray⟩, .int .i64 lk, .string ⟨hi.toArray⟩, .int .i64 hk] 82)).cell? ⟨w.heap.size, 0, none⟩ = some (.string ⟨lo.toArray⟩) := by simp [ze]
 have c1 : (w.alloc (.cells #[.string ⟨lo.toArray⟩, .int .i64 lk, .string ⟨hi.toArray⟩, .int .i64 hk] 82)).cell? ⟨w.heap.size, 1, none⟩ = some (.int .i64 lk) := by simp [ze]
 have c2 : (w.alloc (.cells #[.string ⟨lo.toArray⟩, .int .i64 lk, .string ⟨hi.toArray⟩, .int .i64 hk] 82)).cell? ⟨w.heap.size, 2, none⟩ = some (.string ⟨hi.toArray⟩) := by simp [ze]
 have c3 : (w.alloc (.cells #[.string ⟨lo.toArray⟩, .int .i64 lk, .string ⟨hi.toArray⟩, .int .i64 hk] 82)).cell? ⟨w.heap.size, 3, none⟩ = some (.int .i64 hk) := by simp [ze]
 have HLS : Hid ((⟨lo.toArray⟩ : ByteArray).data.toList = lo) := zwe rfl
 have HLT : Hid ((⟨hi.toArray⟩ : ByteArray).data.toList = hi) := zwe rfl
 have s1 : (⟨lo.toArray⟩ : ByteArray).size ≤ 64 := by simpa [ByteArray.size] using hll
 have t1 : (⟨hi.toArray⟩ : ByteArray).size ≤ 64 := by simpa [ByteArray.size] using hhl
 clear hb hll hhl
 generalize (⟨lo.toArray⟩ : ByteArray) = s at *
 generalize (⟨hi.toArray⟩ : ByteArray) = t at *
 have ql1 : ¬ (9223372036854775807 < 2 + s.size) := by omega
 have ql2 : ¬ (9223372036854775807 < 1 + s.size) := by omega
 have qh1 : ¬ (9223372036854775807 < 2 + t.size) := by omega
 have qh2 : ¬ (9223372036854775807 < 1 + t.size) := by omega
 go_enter Tryz.func44, Tryz.ntmps44
 exact zwn
end Go.Proofs.YtcfbkcapbbhmpaaGreatDoor
