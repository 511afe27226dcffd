/-
  Lemmas for the law.
-/
import Derived.Test.YtbikeahmldobkaaGreatDoorC50x20
import Derived.Test.YtbikeahmldobkaaGreatDoorC50x19
import Derived.Test.YtbikeahmldobkaaGreatDoorC50x09
set_option linter.all false
set_option maxRecDepth 100000
set_option maxHeartbeats 6400000
namespace Go.Proofs.YtbikeahmldobkaaGreatDoor
open Go.RowKit
def advV (x : V.Adv) (u : Value) : Value := .agg #[.string ⟨x.id.toArray⟩, .int .i64 x.rev, .int .i64 x.sev, u]
structure AffAt (w : World) (b o : Nat) (a : V.Aff) (ua : Option Addr) (uc : Nat) : Prop where
 c0 : w.cell? ⟨b, o, none⟩ = some (.int .i64 a.sch)
 c1 : w.cell? ⟨b, o + 1, none⟩ = some (.string ⟨a.name.toArray⟩)
 c2 : w.cell? ⟨b, o + 2, none⟩ = some (.int .i64 a.rs)
 c3 : w.cell? ⟨b, o + 3, none⟩ = some (.slice ua a.its.length uc)
 its : Itvs w (.slice ua a.its.length uc) a.its
theorem AffAt.below {w w' : World} {b o : Nat} {a : V.Aff} {ua : Option Addr} {uc : Nat} (h : AffAt w b o a ua uc) (hb : Below w.heap.size w w') : AffAt w' b o a ua uc :=
 ⟨zf hb h.c0, zf hb h.c1, zf hb h.c2, zf hb h.c3, h.its.below hb⟩
structure AffWf (a : V.Aff) : Prop where
 name : a.name.length ≤ maxLen
 lens : Lens a.its
 len : a.its.length ≤ maxLen
def Affs (w : World) (v : Value) (l : List V.Aff) : Prop :=
 ∃ p cap, v = .slice p l.length cap /\ ∀ j (h : j < l.length), AffWf l[j] /\ ∃ b off ua uc, p = some ⟨b, off, none⟩ /\ b < w.heap.size /\ AffAt w b (off + j * 4) l[j] ua uc
theorem Affs.below {w w' : World} {v : Value} {l : List V.Aff} (h : Affs w v l) (hb : Below w.heap.size w w') : Affs w' v l := by
 obtain ⟨p, cap, e, hc⟩ := h
 refine ⟨p, cap, e, fun j hj => ?_⟩
 obtain ⟨hw, b, off, ua, uc, ep, hlt, ha⟩ := hc j hj
 exact ⟨hw, b, off, ua, uc, ep, Nat.lt_of_lt_of_le hlt hb.size, ha.below hb⟩
theorem Affs.slice {w : World} {v : Value} {l : List V.Aff} (h : Affs w v l) : ∃ p cap, v = .slice p l.length cap := by
 obtain ⟨p, c, e, _⟩ := h
 exact ⟨p, c, e⟩
theorem Affs.at {w : World} {p : Option Addr} {n cap : Nat} {l : List V.Aff} (h : Affs w (.slice p n cap) l) (j : Nat) (hj : j < l.length) : AffWf l[j] /\ ∃ b off ua uc, p = some ⟨b, off, none⟩ /\ b < w.heap.size /\ AffAt w b (off + j * 4) l[j] ua uc := by
 obtain ⟨p', c, e, hc⟩ := h
 cases e
 exact hc j hj
theorem zi2 (x : V.Adv) (u : Value) (w : World) : Below w.heap.size w (w.alloc (.cells #[.string ⟨x.id.toArray⟩, .int .i64 x.rev, .int .i64 x.sev, u] 54)) /\ (w.alloc (.cells #[.string ⟨x.id.toArray⟩, .int .i64 x.rev, .int .i64 x.sev, u] 54)).cell? ⟨w.heap.size, 0, none⟩ = some (.string ⟨x.id.toArray⟩) /\ (w.alloc (.cells #[.string ⟨x.id.toArray⟩, .int .i64 x.rev, .int .i64 x.sev, u] 54)).cell? ⟨w.heap.size, 1, none⟩ = some (.int .i64 x.rev) /\ (w.alloc (.cells #[.string ⟨x.id.toArray⟩, .int .i64 x.rev, .int .i64 x.sev, u] 54)).cell? ⟨w.heap.size, 2, none⟩ = some (.int .i64 x.sev) /\ (w.alloc (.cells #[.string ⟨x.id.toArray⟩, .int .i64 x.rev, .int .i64 x.sev, u] 54)).cell? ⟨w.heap.size, 3, none⟩ = some u := by
 refine ⟨(zwj _ w).alloc (zwi _) _, ?_, ?_, ?_, ?_⟩ <;> (rw [World.cell?_alloc_new]; rfl)
theorem zx6 {P : Prop} (h : P := by
 have HR : Hid (V.qy x = false) := zwg (by
   rcases h : V.qy x with _ | _
   · rfl
   · have hp := V.kj h
     exact absurd hp.id g0)
 have g0' : V.xw x.id = false := by simpa using g0
 rw [g0']
 clear g0 g0'
 go_wp2
 go_ret
 exact ⟨zg HR.out.symm, HB.out⟩) : P := h
theorem zx9 {P : Prop} (h : P := by
 have HR : Hid (V.qy x = false) := zwg (by
   rcases h : V.qy x with _ | _
   · rfl
   · have hp := V.kj h
     exact absurd hp.len g5)
 have f5 : (16 : Int) < (x.aff.length : Int) := by omega
 clear g5
 go_wp2
 go_ret
 exact ⟨zg HR.out.symm, HB.out⟩) : P := h
theorem zya {P : Prop} (h : P := by
 go_wp2
 go_ret
 exact ⟨zg HR.out.symm, HB.out⟩) : P := h
theorem zyy {P : Prop} (h : P := by
 go_wp2
 go_ret
 exact ⟨zg HR.out.symm, HB.out.trans (HBE.out.mono HB.out.size)⟩) : P := h
theorem zy8 {P : Prop} (h : P := by
 obtain rfl : k = x.aff.length := by omega
 have HR : Hid (V.qy x = true) := zwg (by rw [HOK.out]; exact HTO.out)
 go_wp2
 go_ret
 exact ⟨zg HR.out.symm, HBW.out⟩) : P := h
theorem z0d {P : Prop} (h : P := by
 go_wp2
 go_roundw
 case rel => exact ⟨k + 1, by omega, by go_num, HY.out, HBE.out⟩
 case measure => simp [intOf]; omega) : P := h
theorem z0e {P : Prop} (h : P := by
 go_wp2
 go_roundw
 case rel => exact ⟨0 + 1, by omega, by go_num, HY.out, HBE.out⟩
 case measure => simp [intOf]; omega) : P := h
theorem znf (x : V.Adv) (v : Value) (w : World) (hm : zj w) (hv : Affs w v x.aff) (h7 : x.id.length ≤ maxLen) (hl : x.aff.length ≤ maxLen) :
  Calls Tryz.prog 81 #[advV x v] w fun e w' => e = .returned (.bool (V.qy x)) /\ Below w.heap.size w w' := by
 obtain ⟨pa, pc, rfl⟩ := hv.slice
 obtain ⟨hb, c0, c1, c2, c3⟩ := zi2 x (.slice pa x.aff.length pc) w
 have HM := zwg (hm.below hb)
 have HV := zwg (hv.below hb)
 have HI : Hid ((⟨x.id.toArray⟩ : ByteArray).size ≤ maxLen) := zwg (by rw [znk]; exact h7)
 have HB := zwg hb
 have HBX : Hid (w.heap.size < (w.alloc (.cells #[.string ⟨x.id.toArray⟩, .int .i64 x.rev, .int .i64 x.sev, .slice pa x.aff.length pc] 54)).heap.size) := zwg (by simp)
 unfold maxLen at hl
 clear hm hv h7 hb
 unfold advV
 go_enter Tryz.func81, Tryz.ntmps81
 go_wp2_with fail
 generalize w.alloc (.cells #[.string ⟨x.id.toArray⟩, .int .i64 x.rev, .int .i64 x.sev, .slice pa x.aff.length pc] 54) = w0 at *
 refine (zo9 ⟨x.id.toArray⟩ w0 HI.out).mono ?_
 rintro e w' ⟨rfl, h8⟩
 obtain rfl := h8.symm
 clear h8
 rw [zag]
 by_cases g0 : V.xw x.id = true
 case neg =>
  exact zx6
 rw [g0]
 by_cases g1 : 1 ≤ x.rev
 case neg =>
  have HR : Hid (V.qy x = false) := zwg (by
    rcases h : V.qy x with _ | _
    · rfl
    · have hp := V.kj h
      exact absurd hp.rev0 g1)
  have f1 : x.rev < 1 := by omega
  clear g1
  exact zya
 have f1 : ¬ x.rev < 1 := by omega
 by_cases g2 : x.rev ≤ 1099511627776
 case neg =>
  have HR : Hid (V.qy x = false) := zwg (by
    rcases h : V.qy x with _ | _
    · rfl
    · have hp := V.kj h
      exact absurd hp.rev1 g2)
  have f2 : (1099511627776 : Int) < x.rev := by omega
  clear g2
  exact zya
 have f2 : ¬ (1099511627776 : Int) < x.rev := by omega
 by_cases g3 : 1 ≤ x.sev
 case neg =>
  have HR : Hid (V.qy x = false) := zwg (by
    rcases h : V.qy x with _ | _
    · rfl
    · have hp := V.kj h
      exact absurd hp.sev0 g3)
  have f3 : x.sev < 1 := by omega
  clear g3
  exact zya
 have f3 : ¬ x.sev < 1 := by omega
 by_cases g4 : x.sev ≤ 10
 case neg =>
  have HR : Hid (V.qy x = false) := zwg (by
    rcases h : V.qy x with _ | _
    · rfl
    · have hp := V.kj h
      exact absurd hp.sev1 g4)
  have f4 : (10 : Int) < x.sev := by omega
  clear g4
  exact zya
 have f4 : ¬ (10 : Int) < x.sev := by omega
 by_cases g5 : x.aff.length ≤ 16
 case neg =>
  exact zx9
 have f5 : ¬ (16 : Int) < (x.aff.length : Int) := by omega
 have HOK : Hid (V.qy x = V.yv x.aff x.aff.length) := zwg (by
   unfold V.qy V.zi1
   rw [g0, decide_eq_true g1, decide_eq_true g2, decide_eq_true g3, decide_eq_true g4, decide_eq_true g5]
   rfl)
 clear g0 g1 g2 g3 g4
 go_wp2_with fail
 go_loopw [38] (fun iv W => ∃ k : Nat, k ≤ x.aff.length /\ iv = .int .i64 k /\ V.yv x.aff k = true /\ Below w0.heap.size w0 W) (fun iv _ => x.aff.length - (intOf iv).toNat)
 case atStart => exact ⟨0, Nat.zero_le _, rfl, rfl, zwj _ _⟩
 case round =>
  obtain ⟨k, hk, rfl, h9, h2⟩ := hrel
  have HTO := zwg h9
  have h3 := zwg h2
  have HBW := zwh HB h2
  clear h9 h2
  by_cases hlt : k < x.aff.length
  ·obtain ⟨j0, b, off, ua, uc, rfl, k5, ha⟩ := HV.out.at k hlt
   have j9 := zwg (HV.out.below h3.out)
   have HW := zwg j0
   have HA := zwg (ha.below h3.out)
   have HST := zwg (V.zdi hlt)
   have HNO := zwg (V.zqd hlt)
   have HAT : Hid (V.zdy x.aff k x.aff[k] = ((decide (k = 0) || decide (V.affC (x.aff.getD (k - 1) V.zA) x.aff[k] < 0)) && V.xl x.aff[k])) := zwg rfl
   generalize x.aff[k] = a at *
   have e0 := HA.out.c0
   have e1 := HA.out.c1
   have e2 := HA.out.c2
   have e3 := HA.out.c3
   have i1 : (0 : Int) ≤ (k : Int) := by omega
   have i2 : (k : Int) < (x.aff.length : Int) := by omega
   have wr1 : IntKind.i64.wrap ((k : Int) + 1) = (k : Int) + 1 := IntWalk.i64_in _ (by omega)
   have hb2 : Below wr.heap.size wr (wr.alloc (.cells #[.int .i64 a.sch, .string ⟨a.name.toArray⟩, .int .i64 a.rs, .slice ua a.its.length uc] 70)) := (zwj _ wr).alloc (zwi _) _
   obtain ⟨_, d0, d1, d2, d3⟩ := zga a (.slice ua a.its.length uc) wr
   have j3 := zwg (HA.out.below hb2)
   have HB2 := zwh h3 hb2
   have j4 := zwg (HM.out.below HB2.out)
   have k4 := zwg (j9.out.below hb2)
   have j5 := zf HB2.out c3
   clear hb2 j0 ha
   go_wp2_with fail
   generalize wr.alloc (.cells #[.int .i64 a.sch, .string ⟨a.name.toArray⟩, .int .i64 a.rs, .slice ua a.its.length uc] 70) = w2 at *
   generalize wr.heap.size = X at *
   have c3' := c3
   clear c3 e0 e1 e2 e3
   have c3 := j5
   clear j5
   rcases Nat.eq_zero_or_pos k with h0 | h0
   ·subst h0
    obtain ⟨s, hs⟩ : ∃ s, V.xl a = s := ⟨_, rfl⟩
    have h4 := zwg hs
    have h1 : Hid (V.zdy x.aff 0 a = s) := zwg (by rw [HAT.out, hs]; simp)
    clear hs
    refine wp_region_held_drew (S := (fun W' => Below w2.heap.size w2 W' /\ W'.cell? ⟨X, 0, none⟩ = some (.int .i64 a.sch) /\ W'.cell? ⟨X, 1, none⟩ = some (.string ⟨a.name.toArray⟩) /\ W'.cell? ⟨X, 2, none⟩ = some (.int .i64 a.rs) /\ W'.cell? ⟨X, 3, none⟩ = some (.slice ua a.its.length uc))) (by kernel_rfl) (by (try dsimp only); exact ⟨(zwj _ _).drew, zf (zwj _ _).drew d0, zf (zwj _ _).drew d1, zf (zwj _ _).drew d2, zf (zwj _ _).drew d3⟩) (fun hHeld => ?_)
    refine tk 0 ?_
    refine tk 1 ?_
    refine tk 2 ?_
    refine tu 3 ?_
    refine tu 4 ?_
    refine tu 5 ?_
    refine tu 6 ?_
    refine tu 7 ?_
    refine tu 8 ?_
    refine tu 9 ?_
    refine tu 10 ?_
    refine tu 11 ?_
    refine tk 12 ?_
    refine tk 13 ?_
    refine tk 14 ?_
    refine rd 15 fun K hK => ?_
    go_simp
    refine (zlt a ua uc _ (j4.out.below (show Below w2.heap.size w2 _ from (by first | assumption | exact And.left (by assumption)))) (j3.out.its.below (show Below w2.heap.size w2 _ from (by first | assumption | exact And.left (by assumption)))) HW.out.lens HW.out.name HW.out.len).mono ?_
    rintro e wz15 ⟨rfl, g9⟩
    try dsimp only
    refine hK.out _ _ ?_ (fun hHeld => nx ?_)
    ·(try dsimp only); go_split_ands; exact ⟨Below.trans (by assumption) (g9.mono (Below.size (by assumption))), zwm g9, zwm g9, zwm g9, zwm g9⟩
    clear hK K
    refine tk 16 ?_
    refine tk 17 ?_
    refine wpAnyH_done (by kernel_rfl) ?_ _
    rw [h4.out] at *
    have HBE := zwg (HB2.out.trans ((show Below w2.heap.size w2 wz15 from hHeld.1).mono HB2.out.size))
    clear hHeld
    rcases s with _ | _
    ·have HR : Hid (V.qy x = false) := zwg (by rw [HOK.out]; exact HNO.out h1.out)
     exact zyy
    ·have HY : Hid (V.yv x.aff (0 + 1) = true) := zwg (by rw [HST.out, HTO.out, h1.out]; rfl)
     exact z0e
   ·obtain ⟨j, hj⟩ : ∃ j, k = j + 1 := ⟨k - 1, by omega⟩
    have hjl : j < x.aff.length := by omega
    obtain ⟨_, b', off', up, ucp, e', _, hp⟩ := k4.out.at j hjl
    cases e'
    have j6 : Hid (x.aff.getD (k - 1) V.zA = x.aff[j]) := zwg (by rw [hj, Nat.add_sub_cancel, List.getD_eq_getElem?_getD, List.getElem?_eq_getElem hjl]; rfl)
    rw [j6.out] at HAT
    clear j6
    generalize x.aff[j] = p at *
    have q0 := hp.c0
    have q1 := hp.c1
    have q2 := hp.c2
    have q3 := hp.c3
    have k6 := zwg hj
    have wk : IntKind.i64.wrap ((k : Int) - 1) = (j : Int) := by rw [hj, IntWalk.i64_in _ (by omega)]; omega
    have j1 : (0 : Int) ≤ (j : Int) := by omega
    have j2 : (j : Int) < (x.aff.length : Int) := by omega
    have k0 : (0 : Int) < (k : Int) := by omega
    have k1 : decide ((0 : Int) < (k : Int)) = true := decide_eq_true k0
    have k2 : decide (0 < k) = true := decide_eq_true h0
    have k3 : 0 < k := h0
    have h5 : ¬ k = 0 := by omega
    have j7 : Hid (decide (k = 0) = false) := zwg (decide_eq_false h5)
    rw [j7.out, Bool.false_or] at HAT
    clear hp hj j7 h5 h0
    obtain ⟨c, hc⟩ : ∃ c, V.affC p a = c := ⟨_, rfl⟩
    have j8 := zwg hc
    rw [hc] at HAT
    clear hc
    by_cases hcp : 0 ≤ c
    ·have h6 := zwg hcp
     have HR : Hid (V.qy x = false) := zwg (by rw [HOK.out]; exact HNO.out (by rw [HAT.out, decide_eq_false (by omega : ¬ c < 0)]; rfl))
     refine wp_region_held_drew (S := (fun W' => Below w2.heap.size w2 W' /\ W'.cell? ⟨w.heap.size, 3, none⟩ = some (.slice (some ⟨b, off, none⟩) x.aff.length pc) /\ W'.cell? ⟨b, off + j * 4, none⟩ = some (.int .i64 p.sch) /\ W'.cell? ⟨b, off + j * 4 + 1, none⟩ = some (.string ⟨p.name.toArray⟩) /\ W'.cell? ⟨b, off + j * 4 + 2, none⟩ = some (.int .i64 p.rs) /\ W'.cell? ⟨b, off + j * 4 + 3, none⟩ = some (.slice up p.its.length ucp) /\ W'.cell? ⟨X, 0, none⟩ = some (.int .i64 a.sch) /\ W'.cell? ⟨X, 1, none⟩ = some (.string ⟨a.name.toArray⟩) /\ W'.cell? ⟨X, 2, none⟩ = some (.int .i64 a.rs) /\ W'.cell? ⟨X, 3, none⟩ = some (.slice ua a.its.length uc))) (by kernel_rfl) (by (try dsimp only); exact ⟨(zwj _ _).drew, zf (zwj _ _).drew c3, zf (zwj _ _).drew q0, zf (zwj _ _).drew q1, zf (zwj _ _).drew q2, zf (zwj _ _).drew q3, zf (zwj _ _).drew d0, zf (zwj _ _).drew d1, zf (zwj _ _).drew d2, zf (zwj _ _).drew d3⟩) (fun hHeld => ?_)
     refine tk 0 ?_
     refine tk 1 ?_
     refine tk 2 ?_
     refine tk 3 ?_
     refine tk 4 ?_
     refine tk 5 ?_
     refine wpAnyH_take (i := 6) (v := (.int .i64 (j : Int))) rfl (by kernel_rfl) (by kernel_rfl) (by kernel_rfl) (fun _ _ _ h => h) (Or.inl ⟨by rfl, fun w' hSw => by go_simp; try rfl⟩) (by assumption) ?_
     try simp only [zwb, zwc, zwd, Act.put, zwe, List.set_cons_succ, List.set_cons_zero]
     refine tk 7 ?_
     refine tk 8 ?_
     refine tk 9 ?_
     refine rd 10 fun K hK => ?_
     go_simp
     refine (zkq p a up ua p.its.length ucp a.its.length uc _).mono ?_
     rintro e wy10 ⟨rfl, g6⟩
     try dsimp only
     rw [j8.out]
     refine hK.out _ _ ?_ (fun hHeld => nx ?_)
     ·(try dsimp only); go_split_ands; exact ⟨Below.trans (by assumption) (g6.mono (Below.size (by assumption))), zwm g6, zwm g6, zwm g6, zwm g6, zwm g6, zwm g6, zwm g6, zwm g6, zwm g6⟩
     clear hK K
     refine wpAnyH_take (i := 11) (v := (.bool true)) rfl (by kernel_rfl) (by kernel_rfl) (by kernel_rfl) (fun _ _ _ h => h) (Or.inl ⟨by rfl, fun w' hSw => by have e := h6.out; go_simp; try rfl⟩) (by assumption) ?_
     try simp only [zwb, zwc, zwd, Act.put, zwe, List.set_cons_succ, List.set_cons_zero]
     refine tk 12 ?_
     refine tk 13 ?_
     refine tu 14 ?_
     refine tu 15 ?_
     refine tu 16 ?_
     refine tk 17 ?_
     refine wpAnyH_done (by kernel_rfl) ?_ _
     have HBE := zwg (HB2.out.trans ((show Below w2.heap.size w2 wy10 from hHeld.1).mono HB2.out.size))
     clear hHeld
     exact zyy
    ·have h6 := zwg hcp
     obtain ⟨s, hs⟩ : ∃ s, V.xl a = s := ⟨_, rfl⟩
     have h4 := zwg hs
     have h1 : Hid (V.zdy x.aff k a = s) := zwg (by rw [HAT.out, hs, decide_eq_true (by omega : c < 0)]; rfl)
     clear hs
     refine wp_region_held_drew (S := (fun W' => Below w2.heap.size w2 W' /\ W'.cell? ⟨w.heap.size, 3, none⟩ = some (.slice (some ⟨b, off, none⟩) x.aff.length pc) /\ W'.cell? ⟨b, off + j * 4, none⟩ = some (.int .i64 p.sch) /\ W'.cell? ⟨b, off + j * 4 + 1, none⟩ = some (.string ⟨p.name.toArray⟩) /\ W'.cell? ⟨b, off + j * 4 + 2, none⟩ = some (.int .i64 p.rs) /\ W'.cell? ⟨b, off + j * 4 + 3, none⟩ = some (.slice up p.its.length ucp) /\ W'.cell? ⟨X, 0, none⟩ = some (.int .i64 a.sch) /\ W'.cell? ⟨X, 1, none⟩ = some (.string ⟨a.name.toArray⟩) /\ W'.cell? ⟨X, 2, none⟩ = some (.int .i64 a.rs) /\ W'.cell? ⟨X, 3, none⟩ = some (.slice ua a.its.length uc))) (by kernel_rfl) (by (try dsimp only); exact ⟨(zwj _ _).drew, zf (zwj _ _).drew c3, zf (zwj _ _).drew q0, zf (zwj _ _).drew q1, zf (zwj _ _).drew q2, zf (zwj _ _).drew q3, zf (zwj _ _).drew d0, zf (zwj _ _).drew d1, zf (zwj _ _).drew d2, zf (zwj _ _).drew d3⟩) (fun hHeld => ?_)
     refine tk 0 ?_
     refine tk 1 ?_
     refine tk 2 ?_
     refine tk 3 ?_
     refine tk 4 ?_
     refine tk 5 ?_
     refine wpAnyH_take (i := 6) (v := (.int .i64 (j : Int))) rfl (by kernel_rfl) (by kernel_rfl) (by kernel_rfl) (fun _ _ _ h => h) (Or.inl ⟨by rfl, fun w' hSw => by go_simp; try rfl⟩) (by assumption) ?_
     try simp only [zwb, zwc, zwd, Act.put, zwe, List.set_cons_succ, List.set_cons_zero]
     refine tk 7 ?_
     refine tk 8 ?_
     refine tk 9 ?_
     refine rd 10 fun K hK => ?_
     go_simp
     refine (zkq p a up ua p.its.length ucp a.its.length uc _).mono ?_
     rintro e wx10 ⟨rfl, g7⟩
     try dsimp only
     rw [j8.out]
     refine hK.out _ _ ?_ (fun hHeld => nx ?_)
     ·(try dsimp only); go_split_ands; exact ⟨Below.trans (by assumption) (g7.mono (Below.size (by assumption))), zwm g7, zwm g7, zwm g7, zwm g7, zwm g7, zwm g7, zwm g7, zwm g7, zwm g7⟩
     clear hK K
     refine wpAnyH_take (i := 11) (v := (.bool false)) rfl (by kernel_rfl) (by kernel_rfl) (by kernel_rfl) (fun _ _ _ h => h) (Or.inl ⟨by rfl, fun w' hSw => by have e := h6.out; go_simp; try rfl⟩) (by assumption) ?_
     try simp only [zwb, zwc, zwd, Act.put, zwe, List.set_cons_succ, List.set_cons_zero]
     refine tk 12 ?_
     refine tk 13 ?_
     refine tk 14 ?_
     refine rd 15 fun K hK => ?_
     go_simp
     refine (zlt a ua uc _ (j4.out.below (show Below w2.heap.size w2 _ from (by first | assumption | exact And.left (by assumption)))) (j3.out.its.below (show Below w2.heap.size w2 _ from (by first | assumption | exact And.left (by assumption)))) HW.out.lens HW.out.name HW.out.len).mono ?_
     rintro e wx15 ⟨rfl, g8⟩
     try dsimp only
     refine hK.out _ _ ?_ (fun hHeld => nx ?_)
     ·(try dsimp only); go_split_ands; exact ⟨Below.trans (by assumption) (g8.mono (Below.size (by assumption))), zwm g8, zwm g8, zwm g8, zwm g8, zwm g8, zwm g8, zwm g8, zwm g8, zwm g8⟩
     clear hK K
     refine tk 16 ?_
     refine tk 17 ?_
     refine wpAnyH_done (by kernel_rfl) ?_ _
     rw [h4.out] at *
     have HBE := zwg (HB2.out.trans ((show Below w2.heap.size w2 wx15 from hHeld.1).mono HB2.out.size))
     clear hHeld
     rcases s with _ | _
     ·have HR : Hid (V.qy x = false) := zwg (by rw [HOK.out]; exact HNO.out h1.out)
      exact zyy
     ·have HY : Hid (V.yv x.aff (k + 1) = true) := zwg (by rw [HST.out, HTO.out, h1.out]; rfl)
      exact z0d
  ·exact zy8
structure V.Note where
 adv : V.Adv
 doc : List Int
structure NV where
 n : V.Note
 u : Value
 k : Value
def nl (x : NV) : List Value := [.string ⟨x.n.adv.id.toArray⟩, .int .i64 x.n.adv.rev, .int .i64 x.n.adv.sev, x.u] ++ (zq x.n.doc ++ [x.k])
def ncells (x : NV) : Array Value := (nl x).toArray
structure NOk (w : World) (x : NV) : Prop where
 doc : qj x.n.doc
 affs : Affs w x.u x.n.adv.aff
 key : x.k.oneCell' = true
 id : x.n.adv.id.length ≤ maxLen
 len : x.n.adv.aff.length ≤ maxLen
theorem NOk.below {w w' : World} {x : NV} (h : NOk w x) (hb : Below w.heap.size w w') : NOk w' x := ⟨h.doc, h.affs.below hb, h.key, h.id, h.len⟩
theorem nl_len {x : NV} (h : qj x.n.doc) : (nl x).length = 37 := by unfold nl; rw [List.length_append, List.length_append, zdg h]; rfl
theorem zd7 {x : NV} (h : qj x.n.doc) : (ncells x).size = 37 := by unfold ncells; rw [List.size_toArray, nl_len h]
theorem nl_one {w : World} {x : NV} (h : NOk w x) : ∀ u ∈ nl x, u.oneCell' = true := by
 intro u hu
 obtain ⟨pa, pc, e⟩ := h.affs.slice
 have h2 := h.key
 unfold nl zq at hu
 simp at hu
 rcases hu with rfl | rfl | rfl | rfl | ⟨n, _, rfl⟩ | rfl <;> first | rfl | (rw [e]; rfl) | exact h2
theorem zp3 : (Tryz.prog.info? 57).map (·.size) = some 37 := by kernel_rfl
theorem noteRow : ∃ d, Tryz.prog.underlying 57 = some d /\ d.isRow = true := ⟨_, Tryz.underlying57, rfl⟩
theorem zkn {w : World} {g o : Nat} {l m : List Value} (h : w.rangeAt g o (l ++ m)) : w.rangeAt g o l /\ w.rangeAt g (o + l.length) m :=
 ⟨fun i u hu => h i u (by rw [List.getElem?_append_left (List.getElem?_eq_some_iff.1 hu).1]; exact hu),
  fun i u hu => by
   have := h (l.length + i) u (by rw [List.getElem?_append_right (by omega), Nat.add_sub_cancel_left]; exact hu)
   rw [← Nat.add_assoc] at this
   exact this⟩
theorem xh {x : NV} {w : World} {g o : Nat} (hd : qj x.n.doc) (h : w.rangeAt g o (nl x)) :
  w.cell? ⟨g, o, none⟩ = some (.string ⟨x.n.adv.id.toArray⟩) /\ w.cell? ⟨g, o + 1, none⟩ = some (.int .i64 x.n.adv.rev) /\ w.cell? ⟨g, o + 2, none⟩ = some (.int .i64 x.n.adv.sev) /\ w.cell? ⟨g, o + 3, none⟩ = some x.u /\ w.rangeAt g (o + 4) (zq x.n.doc) /\ w.cell? ⟨g, o + 36, none⟩ = some x.k := by
 obtain ⟨h1, h2⟩ := zkn h
 obtain ⟨h3, h4⟩ := zkn h2
 refine ⟨h1 0 _ rfl, h1 1 _ rfl, h1 2 _ rfl, h1 3 _ rfl, h3, ?_⟩
 have := h4 0 x.k rfl
 rw [zdg hd] at this
 exact this
theorem zp5 {ops : Array Oper} {rest : List Oper} {o : Oper} {a : Act} {w : World} {Q : Exit -> Act -> World -> Prop} (g0 : o.guard = none) (y : Operand) (ho : o.op = .load 57 y)
  (g off : Nat) (hy : a.eval y = .pointer (some ⟨g, off, none⟩)) (x : NV) (hx : qj x.n.doc) (hr : w.rangeAt g off (nl x))
  (h : wpList Tryz.prog ops Q rest (a.put o.dst (.agg (ncells x))) w) : wpList Tryz.prog ops Q (o :: rest) a w := by
 obtain ⟨d, hu, hd⟩ := noteRow
 exact wpList_load_mid g0 _ y ho g off hy (nl x) d hr hu hd (by rw [zp3, nl_len hx]) h
theorem uf {x : NV} {w : World} {g : Nat} {T : TypeId} (hg : w.heap[g]? = some (.cells (ncells x) T (0, 0))) : w.rangeAt g 0 (nl x) := fun i u hu => by
 rw [Nat.zero_add, cell_of_row w g i _ _ _ hg]
 unfold ncells
 simpa using hu
theorem zsy {ops : Array Oper} {rest : List Oper} {o : Oper} {a : Act} {w : World} {Q : Exit -> Act -> World -> Prop} (g2 : o.guard = none) (p y : Operand) (ho : o.op = .store 57 p y)
  (old : Array Value) (t : TypeId) (hp : a.eval p = .pointer (some ⟨w.heap.size, 0, none⟩)) (x : NV) (hx : qj x.n.doc) (g0 : ∀ u ∈ nl x, u.oneCell' = true) (hy : a.eval y = .agg (ncells x)) (g1 : old.size = 37)
  (h : wpList Tryz.prog ops Q rest (a.put o.dst undef) (w.alloc (.cells (ncells x) t))) : wpList Tryz.prog ops Q (o :: rest) a (w.alloc (.cells old t)) := by
 refine wpList_store_row g2 _ p y ho w.heap.size (ncells x) hp hy t old (heap_alloc_new w _) (by rw [zp3, zd7 hx]) (by rw [g1, zd7 hx]) (all_oneCell_toArray g0) ?_
 rw [zt7]; exact h
def Notes (w : World) (v : Value) (xs : List NV) : Prop :=
 ∃ a cap, v = .slice a xs.length cap /\ ∀ j (h : j < xs.length), NOk w xs[j] /\ ∃ g off, a = some ⟨g, off, none⟩ /\ g < w.heap.size /\ w.rangeAt g (off + j * 37) (nl xs[j])
theorem Notes.below {w w' : World} {v : Value} {xs : List NV} (h : Notes w v xs) (hb : Below w.heap.size w w') : Notes w' v xs := by
 obtain ⟨a, cap, e, hc⟩ := h
 refine ⟨a, cap, e, fun j hj => ?_⟩
 obtain ⟨hw, b, off, ea, hlt, hr⟩ := hc j hj
 exact ⟨hw.below hb, b, off, ea, Nat.lt_of_lt_of_le hlt hb.size, zk hr hb⟩
theorem Notes.slice {w : World} {v : Value} {xs : List NV} (h : Notes w v xs) : ∃ a cap, v = .slice a xs.length cap := by
 obtain ⟨a, c, e, _⟩ := h
 exact ⟨a, c, e⟩
end Go.Proofs.YtbikeahmldobkaaGreatDoor
