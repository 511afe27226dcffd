/-
  Lemmas for the law.
-/
import Derived.Test.YtbikeahmldobkaaGreatDoorC51x23
import Derived.Test.YtbikeahmldobkaaGreatDoorC51x21
import Derived.Test.YtbikeahmldobkaaGreatDoorC51x10
set_option linter.all false
set_option maxRecDepth 100000
set_option maxHeartbeats 6400000
namespace Go.Proofs.YtbikeahmldobkaaGreatDoor
open Go.RowKit
def advV (x : V.Adv) (u : Value) : Value := .agg #[.string ⟨x.id.toArray⟩, .int .i64 x.rev, .int .i64 x.sev, u]
structure AffAt (w : World) (b o : Nat) (a : V.Aff) (ua : Option Addr) (uc : Nat) : Prop where
 c0 : w.cell? ⟨b, o, none⟩ = some (.int .i64 a.sch)
 c1 : w.cell? ⟨b, o + 1, none⟩ = some (.string ⟨a.name.toArray⟩)
 c2 : w.cell? ⟨b, o + 2, none⟩ = some (.int .i64 a.rs)
 c3 : w.cell? ⟨b, o + 3, none⟩ = some (.slice ua a.its.length uc)
 its : Itvs w (.slice ua a.its.length uc) a.its
theorem AffAt.below {w w' : World} {b o : Nat} {a : V.Aff} {ua : Option Addr} {uc : Nat} (h : AffAt w b o a ua uc) (hb : Below w.heap.size w w') : AffAt w' b o a ua uc :=
 ⟨zf hb h.c0, zf hb h.c1, zf hb h.c2, zf hb h.c3, h.its.below hb⟩
structure AffWf (a : V.Aff) : Prop where
 name : a.name.length ≤ maxLen
 lens : Lens a.its
 len : a.its.length ≤ maxLen
def Affs (w : World) (v : Value) (l : List V.Aff) : Prop :=
 ∃ p cap, v = .slice p l.length cap /\ ∀ j (h : j < l.length), AffWf l[j] /\ ∃ b off ua uc, p = some ⟨b, off, none⟩ /\ b < w.heap.size /\ AffAt w b (off + j * 4) l[j] ua uc
theorem Affs.below {w w' : World} {v : Value} {l : List V.Aff} (h : Affs w v l) (hb : Below w.heap.size w w') : Affs w' v l := by
 obtain ⟨p, cap, e, hc⟩ := h
 refine ⟨p, cap, e, fun j hj => ?_⟩
 obtain ⟨hw, b, off, ua, uc, ep, hlt, ha⟩ := hc j hj
 exact ⟨hw, b, off, ua, uc, ep, Nat.lt_of_lt_of_le hlt hb.size, ha.below hb⟩
theorem Affs.slice {w : World} {v : Value} {l : List V.Aff} (h : Affs w v l) : ∃ p cap, v = .slice p l.length cap := by
 obtain ⟨p, c, e, _⟩ := h
 exact ⟨p, c, e⟩
theorem Affs.at {w : World} {p : Option Addr} {n cap : Nat} {l : List V.Aff} (h : Affs w (.slice p n cap) l) (j : Nat) (hj : j < l.length) : AffWf l[j] /\ ∃ b off ua uc, p = some ⟨b, off, none⟩ /\ b < w.heap.size /\ AffAt w b (off + j * 4) l[j] ua uc := by
 obtain ⟨p', c, e, hc⟩ := h
 cases e
 exact hc j hj
theorem ztg (x : V.Adv) (u : Value) (w : World) : Below w.heap.size w (w.alloc (.cells #[.string ⟨x.id.toArray⟩, .int .i64 x.rev, .int .i64 x.sev, u] 54)) /\ (w.alloc (.cells #[.string ⟨x.id.toArray⟩, .int .i64 x.rev, .int .i64 x.sev, u] 54)).cell? ⟨w.heap.size, 0, none⟩ = some (.string ⟨x.id.toArray⟩) /\ (w.alloc (.cells #[.string ⟨x.id.toArray⟩, .int .i64 x.rev, .int .i64 x.sev, u] 54)).cell? ⟨w.heap.size, 1, none⟩ = some (.int .i64 x.rev) /\ (w.alloc (.cells #[.string ⟨x.id.toArray⟩, .int .i64 x.rev, .int .i64 x.sev, u] 54)).cell? ⟨w.heap.size, 2, none⟩ = some (.int .i64 x.sev) /\ (w.alloc (.cells #[.string ⟨x.id.toArray⟩, .int .i64 x.rev, .int .i64 x.sev, u] 54)).cell? ⟨w.heap.size, 3, none⟩ = some u := by
 refine ⟨(zvb _ w).alloc (zva _) _, ?_, ?_, ?_, ?_⟩ <;> (rw [World.cell?_alloc_new]; rfl)
theorem zxk {P : Prop} (h : P := by
 have HR : Hid (V.xk x = false) := zu8 (by rw [HOK.out]; exact HNO.out HAS.out)
 go_wp2
 go_ret
 exact ⟨ze HR.out.symm, HB.out.trans (HBE.out.mono HB.out.size)⟩) : P := h
theorem zyk {P : Prop} (h : P := by
 go_wp2
 go_ret
 exact ⟨ze HR.out.symm, HB.out⟩) : P := h
theorem zmp (x : V.Adv) (v : Value) (w : World) (hm : zj w) (hv : Affs w v x.aff) (h8 : x.id.length ≤ maxLen) (hl : x.aff.length ≤ maxLen) :
  Calls Tryz.prog 81 #[advV x v] w fun e w' => e = .returned (.bool (V.xk x)) /\ Below w.heap.size w w' := by
 obtain ⟨pa, pc, rfl⟩ := hv.slice
 obtain ⟨hb, c0, c1, c2, c3⟩ := ztg x (.slice pa x.aff.length pc) w
 have HM := zu8 (hm.below hb)
 have HV := zu8 (hv.below hb)
 have HI : Hid ((⟨x.id.toArray⟩ : ByteArray).size ≤ maxLen) := zu8 (by rw [sz_arr]; exact h8)
 have HB := zu8 hb
 have HBX : Hid (w.heap.size < (w.alloc (.cells #[.string ⟨x.id.toArray⟩, .int .i64 x.rev, .int .i64 x.sev, .slice pa x.aff.length pc] 54)).heap.size) := zu8 (by simp)
 unfold maxLen at hl
 clear hm hv h8 hb
 unfold advV
 go_enter Tryz.func81, Tryz.ntmps81
 go_wp2_with fail
 generalize w.alloc (.cells #[.string ⟨x.id.toArray⟩, .int .i64 x.rev, .int .i64 x.sev, .slice pa x.aff.length pc] 54) = w0 at *
 refine (zof ⟨x.id.toArray⟩ w0 HI.out).mono ?_
 rintro e w' ⟨rfl, h9⟩
 obtain rfl := h9.symm
 clear h9
 rw [zf7]
 by_cases g0 : V.zbf x.id = true
 case neg =>
  have HR : Hid (V.xk x = false) := zu8 (by
    rcases h : V.xk x with _ | _
    · rfl
    · have hp := V.zaj h
      exact absurd hp.id g0)
  have g0' : V.zbf x.id = false := by simpa using g0
  rw [g0']
  clear g0 g0'
  exact zyk
 rw [g0]
 by_cases g1 : 1 ≤ x.rev
 case neg =>
  have HR : Hid (V.xk x = false) := zu8 (by
    rcases h : V.xk x with _ | _
    · rfl
    · have hp := V.zaj h
      exact absurd hp.rev0 g1)
  have f1 : x.rev < 1 := by omega
  clear g1
  exact zyk
 have f1 : ¬ x.rev < 1 := by omega
 by_cases g2 : x.rev ≤ 1099511627776
 case neg =>
  have HR : Hid (V.xk x = false) := zu8 (by
    rcases h : V.xk x with _ | _
    · rfl
    · have hp := V.zaj h
      exact absurd hp.rev1 g2)
  have f2 : (1099511627776 : Int) < x.rev := by omega
  clear g2
  exact zyk
 have f2 : ¬ (1099511627776 : Int) < x.rev := by omega
 by_cases g3 : 1 ≤ x.sev
 case neg =>
  have HR : Hid (V.xk x = false) := zu8 (by
    rcases h : V.xk x with _ | _
    · rfl
    · have hp := V.zaj h
      exact absurd hp.sev0 g3)
  have f3 : x.sev < 1 := by omega
  clear g3
  exact zyk
 have f3 : ¬ x.sev < 1 := by omega
 by_cases g4 : x.sev ≤ 10
 case neg =>
  have HR : Hid (V.xk x = false) := zu8 (by
    rcases h : V.xk x with _ | _
    · rfl
    · have hp := V.zaj h
      exact absurd hp.sev1 g4)
  have f4 : (10 : Int) < x.sev := by omega
  clear g4
  exact zyk
 have f4 : ¬ (10 : Int) < x.sev := by omega
 by_cases g5 : x.aff.length ≤ 16
 case neg =>
  have HR : Hid (V.xk x = false) := zu8 (by
    rcases h : V.xk x with _ | _
    · rfl
    · have hp := V.zaj h
      exact absurd hp.len g5)
  have f5 : (16 : Int) < (x.aff.length : Int) := by omega
  clear g5
  exact zyk
 have f5 : ¬ (16 : Int) < (x.aff.length : Int) := by omega
 have HOK : Hid (V.xk x = V.za7 x.aff x.aff.length) := zu8 (by
   unfold V.xk V.znx
   rw [g0, decide_eq_true g1, decide_eq_true g2, decide_eq_true g3, decide_eq_true g4, decide_eq_true g5]
   rfl)
 clear g0 g1 g2 g3 g4
 go_wp2_with fail
 go_loopw [38] (fun iv W => ∃ k : Nat, k ≤ x.aff.length /\ iv = .int .i64 k /\ V.za7 x.aff k = true /\ Below w0.heap.size w0 W) (fun iv _ => x.aff.length - (intOf iv).toNat)
 case atStart => exact ⟨0, Nat.zero_le _, rfl, rfl, zvb _ _⟩
 case round =>
  obtain ⟨k, hk, rfl, j0, h2⟩ := hrel
  have h3 := zu8 j0
  have h4 := zu8 h2
  have k5 := zu9 HB h2
  clear j0 h2
  by_cases hlt : k < x.aff.length
  ·obtain ⟨j3, b, off, ua, uc, rfl, k8, ha⟩ := HV.out.at k hlt
   have k6 := zu8 (HV.out.below h4.out)
   have HW := zu8 j3
   have HA := zu8 (ha.below h4.out)
   have HST := zu8 (V.zju hlt)
   have HNO := zu8 (V.affTo_no hlt)
   have h0 : Hid (V.zim x.aff k x.aff[k] = ((decide (k = 0) || decide (V.affC (x.aff.getD (k - 1) V.zA) x.aff[k] < 0)) && V.yb x.aff[k])) := zu8 rfl
   generalize x.aff[k] = a at *
   have e0 := HA.out.c0
   have e1 := HA.out.c1
   have e2 := HA.out.c2
   have e3 := HA.out.c3
   have i1 : (0 : Int) ≤ (k : Int) := by omega
   have i2 : (k : Int) < (x.aff.length : Int) := by omega
   have wr1 : IntKind.i64.wrap ((k : Int) + 1) = (k : Int) + 1 := IntWalk.i64_in _ (by omega)
   have hb2 : Below wr.heap.size wr (wr.alloc (.cells #[.int .i64 a.sch, .string ⟨a.name.toArray⟩, .int .i64 a.rs, .slice ua a.its.length uc] 70)) := (zvb _ wr).alloc (zva _) _
   obtain ⟨_, d0, d1, d2, d3⟩ := zna a (.slice ua a.its.length uc) wr
   have j4 := zu8 (HA.out.below hb2)
   have HB2 := zu9 h4 hb2
   have j5 := zu8 (HM.out.below HB2.out)
   have k7 := zu8 (k6.out.below hb2)
   have j6 := zf HB2.out c3
   clear hb2 j3 ha
   go_wp2_with fail
   generalize wr.alloc (.cells #[.int .i64 a.sch, .string ⟨a.name.toArray⟩, .int .i64 a.rs, .slice ua a.its.length uc] 70) = w2 at *
   generalize wr.heap.size = X at *
   have c3' := c3
   clear c3 e0 e1 e2 e3
   have c3 := j6
   clear j6
   rcases Nat.eq_zero_or_pos k with h1 | h1
   ·subst h1
    obtain ⟨s, hs⟩ : ∃ s, V.yb a = s := ⟨_, rfl⟩
    have h5 := zu8 hs
    have HAS : Hid (V.zim x.aff 0 a = s) := zu8 (by rw [h0.out, hs]; simp)
    clear hs
    refine wp_region_held_drew (S := (fun W' => Below w2.heap.size w2 W' /\ W'.cell? ⟨X, 0, none⟩ = some (.int .i64 a.sch) /\ W'.cell? ⟨X, 1, none⟩ = some (.string ⟨a.name.toArray⟩) /\ W'.cell? ⟨X, 2, none⟩ = some (.int .i64 a.rs) /\ W'.cell? ⟨X, 3, none⟩ = some (.slice ua a.its.length uc))) (by kernel_rfl) (by (try dsimp only); exact ⟨(zvb _ _).drew, zf (zvb _ _).drew d0, zf (zvb _ _).drew d1, zf (zvb _ _).drew d2, zf (zvb _ _).drew d3⟩) (fun hHeld => ?_)
    refine tk 0 ?_
    refine tk 1 ?_
    refine tk 2 ?_
    refine tu 3 ?_
    refine tu 4 ?_
    refine tu 5 ?_
    refine tu 6 ?_
    refine tu 7 ?_
    refine tu 8 ?_
    refine tu 9 ?_
    refine tu 10 ?_
    refine tu 11 ?_
    refine tk 12 ?_
    refine tk 13 ?_
    refine tk 14 ?_
    refine rd 15 fun K hK => ?_
    go_simp
    refine (zk1 a ua uc _ (j5.out.below (show Below w2.heap.size w2 _ from (by first | assumption | exact And.left (by assumption)))) (j4.out.its.below (show Below w2.heap.size w2 _ from (by first | assumption | exact And.left (by assumption)))) HW.out.lens HW.out.name HW.out.len).mono ?_
    rintro e wz15 ⟨rfl, g9⟩
    try dsimp only
    refine hK.out _ _ ?_ (fun hHeld => nx ?_)
    ·(try dsimp only); go_split_ands; exact ⟨Below.trans (by assumption) (g9.mono (Below.size (by assumption))), zve g9, zve g9, zve g9, zve g9⟩
    clear hK K
    refine tk 16 ?_
    refine tk 17 ?_
    refine wpAnyH_done (by kernel_rfl) ?_ _
    rw [h5.out] at *
    have HBE := zu8 (HB2.out.trans ((show Below w2.heap.size w2 wz15 from hHeld.1).mono HB2.out.size))
    clear hHeld
    rcases s with _ | _
    ·exact zxk
    ·have HY : Hid (V.za7 x.aff (0 + 1) = true) := zu8 (by rw [HST.out, h3.out, HAS.out]; rfl)
     go_wp2
     go_roundw
     case rel => exact ⟨0 + 1, by omega, by go_num, HY.out, HBE.out⟩
     case measure => simp [intOf]; omega
   ·obtain ⟨j, hj⟩ : ∃ j, k = j + 1 := ⟨k - 1, by omega⟩
    have j7 : j < x.aff.length := by omega
    obtain ⟨_, b', off', up, ucp, e', _, hp⟩ := k7.out.at j j7
    cases e'
    have j8 : Hid (x.aff.getD (k - 1) V.zA = x.aff[j]) := zu8 (by rw [hj, Nat.add_sub_cancel, List.getD_eq_getElem?_getD, List.getElem?_eq_getElem j7]; rfl)
    rw [j8.out] at h0
    clear j8
    generalize x.aff[j] = p at *
    have q0 := hp.c0
    have q1 := hp.c1
    have q2 := hp.c2
    have q3 := hp.c3
    have k9 := zu8 hj
    have wk : IntKind.i64.wrap ((k : Int) - 1) = (j : Int) := by rw [hj, IntWalk.i64_in _ (by omega)]; omega
    have j1 : (0 : Int) ≤ (j : Int) := by omega
    have j2 : (j : Int) < (x.aff.length : Int) := by omega
    have k0 : (0 : Int) < (k : Int) := by omega
    have k1 : decide ((0 : Int) < (k : Int)) = true := decide_eq_true k0
    have k2 : decide (0 < k) = true := decide_eq_true h1
    have k3 : 0 < k := h1
    have h6 : ¬ k = 0 := by omega
    have j9 : Hid (decide (k = 0) = false) := zu8 (decide_eq_false h6)
    rw [j9.out, Bool.false_or] at h0
    clear hp hj j9 h6 h1
    obtain ⟨c, hc⟩ : ∃ c, V.affC p a = c := ⟨_, rfl⟩
    have k4 := zu8 hc
    rw [hc] at h0
    clear hc
    by_cases hcp : 0 ≤ c
    ·have h7 := zu8 hcp
     have HR : Hid (V.xk x = false) := zu8 (by rw [HOK.out]; exact HNO.out (by rw [h0.out, decide_eq_false (by omega : ¬ c < 0)]; rfl))
     refine wp_region_held_drew (S := (fun W' => Below w2.heap.size w2 W' /\ W'.cell? ⟨w.heap.size, 3, none⟩ = some (.slice (some ⟨b, off, none⟩) x.aff.length pc) /\ W'.cell? ⟨b, off + j * 4, none⟩ = some (.int .i64 p.sch) /\ W'.cell? ⟨b, off + j * 4 + 1, none⟩ = some (.string ⟨p.name.toArray⟩) /\ W'.cell? ⟨b, off + j * 4 + 2, none⟩ = some (.int .i64 p.rs) /\ W'.cell? ⟨b, off + j * 4 + 3, none⟩ = some (.slice up p.its.length ucp) /\ W'.cell? ⟨X, 0, none⟩ = some (.int .i64 a.sch) /\ W'.cell? ⟨X, 1, none⟩ = some (.string ⟨a.name.toArray⟩) /\ W'.cell? ⟨X, 2, none⟩ = some (.int .i64 a.rs) /\ W'.cell? ⟨X, 3, none⟩ = some (.slice ua a.its.length uc))) (by kernel_rfl) (by (try dsimp only); exact ⟨(zvb _ _).drew, zf (zvb _ _).drew c3, zf (zvb _ _).drew q0, zf (zvb _ _).drew q1, zf (zvb _ _).drew q2, zf (zvb _ _).drew q3, zf (zvb _ _).drew d0, zf (zvb _ _).drew d1, zf (zvb _ _).drew d2, zf (zvb _ _).drew d3⟩) (fun hHeld => ?_)
     refine tk 0 ?_
     refine tk 1 ?_
     refine tk 2 ?_
     refine tk 3 ?_
     refine tk 4 ?_
     refine tk 5 ?_
     refine wpAnyH_take (i := 6) (v := (.int .i64 (j : Int))) rfl (by kernel_rfl) (by kernel_rfl) (by kernel_rfl) (fun _ _ _ h => h) (Or.inl ⟨by rfl, fun w' hSw => by go_simp; try rfl⟩) (by assumption) ?_
     try simp only [zu3, zu4, zu5, Act.put, zu6, List.set_cons_succ, List.set_cons_zero]
     refine tk 7 ?_
     refine tk 8 ?_
     refine tk 9 ?_
     refine rd 10 fun K hK => ?_
     go_simp
     refine (zjz p a up ua p.its.length ucp a.its.length uc _).mono ?_
     rintro e wy10 ⟨rfl, g6⟩
     try dsimp only
     rw [k4.out]
     refine hK.out _ _ ?_ (fun hHeld => nx ?_)
     ·(try dsimp only); go_split_ands; exact ⟨Below.trans (by assumption) (g6.mono (Below.size (by assumption))), zve g6, zve g6, zve g6, zve g6, zve g6, zve g6, zve g6, zve g6, zve g6⟩
     clear hK K
     refine wpAnyH_take (i := 11) (v := (.bool true)) rfl (by kernel_rfl) (by kernel_rfl) (by kernel_rfl) (fun _ _ _ h => h) (Or.inl ⟨by rfl, fun w' hSw => by have e := h7.out; go_simp; try rfl⟩) (by assumption) ?_
     try simp only [zu3, zu4, zu5, Act.put, zu6, List.set_cons_succ, List.set_cons_zero]
     refine tk 12 ?_
     refine tk 13 ?_
     refine tu 14 ?_
     refine tu 15 ?_
     refine tu 16 ?_
     refine tk 17 ?_
     refine wpAnyH_done (by kernel_rfl) ?_ _
     have HBE := zu8 (HB2.out.trans ((show Below w2.heap.size w2 wy10 from hHeld.1).mono HB2.out.size))
     clear hHeld
     go_wp2
     go_ret
     exact ⟨ze HR.out.symm, HB.out.trans (HBE.out.mono HB.out.size)⟩
    ·have h7 := zu8 hcp
     obtain ⟨s, hs⟩ : ∃ s, V.yb a = s := ⟨_, rfl⟩
     have h5 := zu8 hs
     have HAS : Hid (V.zim x.aff k a = s) := zu8 (by rw [h0.out, hs, decide_eq_true (by omega : c < 0)]; rfl)
     clear hs
     refine wp_region_held_drew (S := (fun W' => Below w2.heap.size w2 W' /\ W'.cell? ⟨w.heap.size, 3, none⟩ = some (.slice (some ⟨b, off, none⟩) x.aff.length pc) /\ W'.cell? ⟨b, off + j * 4, none⟩ = some (.int .i64 p.sch) /\ W'.cell? ⟨b, off + j * 4 + 1, none⟩ = some (.string ⟨p.name.toArray⟩) /\ W'.cell? ⟨b, off + j * 4 + 2, none⟩ = some (.int .i64 p.rs) /\ W'.cell? ⟨b, off + j * 4 + 3, none⟩ = some (.slice up p.its.length ucp) /\ W'.cell? ⟨X, 0, none⟩ = some (.int .i64 a.sch) /\ W'.cell? ⟨X, 1, none⟩ = some (.string ⟨a.name.toArray⟩) /\ W'.cell? ⟨X, 2, none⟩ = some (.int .i64 a.rs) /\ W'.cell? ⟨X, 3, none⟩ = some (.slice ua a.its.length uc))) (by kernel_rfl) (by (try dsimp only); exact ⟨(zvb _ _).drew, zf (zvb _ _).drew c3, zf (zvb _ _).drew q0, zf (zvb _ _).drew q1, zf (zvb _ _).drew q2, zf (zvb _ _).drew q3, zf (zvb _ _).drew d0, zf (zvb _ _).drew d1, zf (zvb _ _).drew d2, zf (zvb _ _).drew d3⟩) (fun hHeld => ?_)
     refine tk 0 ?_
     refine tk 1 ?_
     refine tk 2 ?_
     refine tk 3 ?_
     refine tk 4 ?_
     refine tk 5 ?_
     refine wpAnyH_take (i := 6) (v := (.int .i64 (j : Int))) rfl (by kernel_rfl) (by kernel_rfl) (by kernel_rfl) (fun _ _ _ h => h) (Or.inl ⟨by rfl, fun w' hSw => by go_simp; try rfl⟩) (by assumption) ?_
     try simp only [zu3, zu4, zu5, Act.put, zu6, List.set_cons_succ, List.set_cons_zero]
     refine tk 7 ?_
     refine tk 8 ?_
     refine tk 9 ?_
     refine rd 10 fun K hK => ?_
     go_simp
     refine (zjz p a up ua p.its.length ucp a.its.length uc _).mono ?_
     rintro e wx10 ⟨rfl, g7⟩
     try dsimp only
     rw [k4.out]
     refine hK.out _ _ ?_ (fun hHeld => nx ?_)
     ·(try dsimp only); go_split_ands; exact ⟨Below.trans (by assumption) (g7.mono (Below.size (by assumption))), zve g7, zve g7, zve g7, zve g7, zve g7, zve g7, zve g7, zve g7, zve g7⟩
     clear hK K
     refine wpAnyH_take (i := 11) (v := (.bool false)) rfl (by kernel_rfl) (by kernel_rfl) (by kernel_rfl) (fun _ _ _ h => h) (Or.inl ⟨by rfl, fun w' hSw => by have e := h7.out; go_simp; try rfl⟩) (by assumption) ?_
     try simp only [zu3, zu4, zu5, Act.put, zu6, List.set_cons_succ, List.set_cons_zero]
     refine tk 12 ?_
     refine tk 13 ?_
     refine tk 14 ?_
     refine rd 15 fun K hK => ?_
     go_simp
     refine (zk1 a ua uc _ (j5.out.below (show Below w2.heap.size w2 _ from (by first | assumption | exact And.left (by assumption)))) (j4.out.its.below (show Below w2.heap.size w2 _ from (by first | assumption | exact And.left (by assumption)))) HW.out.lens HW.out.name HW.out.len).mono ?_
     rintro e wx15 ⟨rfl, g8⟩
     try dsimp only
     refine hK.out _ _ ?_ (fun hHeld => nx ?_)
     ·(try dsimp only); go_split_ands; exact ⟨Below.trans (by assumption) (g8.mono (Below.size (by assumption))), zve g8, zve g8, zve g8, zve g8, zve g8, zve g8, zve g8, zve g8, zve g8⟩
     clear hK K
     refine tk 16 ?_
     refine tk 17 ?_
     refine wpAnyH_done (by kernel_rfl) ?_ _
     rw [h5.out] at *
     have HBE := zu8 (HB2.out.trans ((show Below w2.heap.size w2 wx15 from hHeld.1).mono HB2.out.size))
     clear hHeld
     rcases s with _ | _
     ·exact zxk
     ·have HY : Hid (V.za7 x.aff (k + 1) = true) := zu8 (by rw [HST.out, h3.out, HAS.out]; rfl)
      go_wp2
      go_roundw
      case rel => exact ⟨k + 1, by omega, by go_num, HY.out, HBE.out⟩
      case measure => simp [intOf]; omega
  ·obtain rfl : k = x.aff.length := by omega
   have HR : Hid (V.xk x = true) := zu8 (by rw [HOK.out]; exact h3.out)
   go_wp2
   go_ret
   exact ⟨ze HR.out.symm, k5.out⟩
structure V.Note where
 adv : V.Adv
 doc : List Int
structure NV where
 n : V.Note
 u : Value
 k : Value
def nl (x : NV) : List Value := [.string ⟨x.n.adv.id.toArray⟩, .int .i64 x.n.adv.rev, .int .i64 x.n.adv.sev, x.u] ++ (zn x.n.doc ++ [x.k])
def ncells (x : NV) : Array Value := (nl x).toArray
structure NOk (w : World) (x : NV) : Prop where
 doc : qh x.n.doc
 affs : Affs w x.u x.n.adv.aff
 key : x.k.oneCell' = true
 id : x.n.adv.id.length ≤ maxLen
 len : x.n.adv.aff.length ≤ maxLen
theorem NOk.below {w w' : World} {x : NV} (h : NOk w x) (hb : Below w.heap.size w w') : NOk w' x := ⟨h.doc, h.affs.below hb, h.key, h.id, h.len⟩
theorem nl_len {x : NV} (h : qh x.n.doc) : (nl x).length = 37 := by unfold nl; rw [List.length_append, List.length_append, zcq h]; rfl
theorem zdg {x : NV} (h : qh x.n.doc) : (ncells x).size = 37 := by unfold ncells; rw [List.size_toArray, nl_len h]
theorem nl_one {w : World} {x : NV} (h : NOk w x) : ∀ u ∈ nl x, u.oneCell' = true := by
 intro u hu
 obtain ⟨pa, pc, e⟩ := h.affs.slice
 have h2 := h.key
 unfold nl zn at hu
 simp at hu
 rcases hu with rfl | rfl | rfl | rfl | ⟨n, _, rfl⟩ | rfl <;> first | rfl | (rw [e]; rfl) | exact h2
theorem zpb : (Tryz.prog.info? 57).map (·.size) = some 37 := by kernel_rfl
theorem noteRow : ∃ d, Tryz.prog.underlying 57 = some d /\ d.isRow = true := ⟨_, Tryz.underlying57, rfl⟩
theorem zjx {w : World} {g o : Nat} {l m : List Value} (h : w.rangeAt g o (l ++ m)) : w.rangeAt g o l /\ w.rangeAt g (o + l.length) m :=
 ⟨fun i u hu => h i u (by rw [List.getElem?_append_left (List.getElem?_eq_some_iff.1 hu).1]; exact hu),
  fun i u hu => by
   have := h (l.length + i) u (by rw [List.getElem?_append_right (by omega), Nat.add_sub_cancel_left]; exact hu)
   rw [← Nat.add_assoc] at this
   exact this⟩
theorem um {x : NV} {w : World} {g o : Nat} (hd : qh x.n.doc) (h : w.rangeAt g o (nl x)) :
  w.cell? ⟨g, o, none⟩ = some (.string ⟨x.n.adv.id.toArray⟩) /\ w.cell? ⟨g, o + 1, none⟩ = some (.int .i64 x.n.adv.rev) /\ w.cell? ⟨g, o + 2, none⟩ = some (.int .i64 x.n.adv.sev) /\ w.cell? ⟨g, o + 3, none⟩ = some x.u /\ w.rangeAt g (o + 4) (zn x.n.doc) /\ w.cell? ⟨g, o + 36, none⟩ = some x.k := by
 obtain ⟨h1, h2⟩ := zjx h
 obtain ⟨h3, h4⟩ := zjx h2
 refine ⟨h1 0 _ rfl, h1 1 _ rfl, h1 2 _ rfl, h1 3 _ rfl, h3, ?_⟩
 have := h4 0 x.k rfl
 rw [zcq hd] at this
 exact this
theorem zpd {ops : Array Oper} {rest : List Oper} {o : Oper} {a : Act} {w : World} {Q : Exit -> Act -> World -> Prop} (g0 : o.guard = none) (y : Operand) (ho : o.op = .load 57 y)
  (g off : Nat) (hy : a.eval y = .pointer (some ⟨g, off, none⟩)) (x : NV) (hx : qh x.n.doc) (hr : w.rangeAt g off (nl x))
  (h : wpList Tryz.prog ops Q rest (a.put o.dst (.agg (ncells x))) w) : wpList Tryz.prog ops Q (o :: rest) a w := by
 obtain ⟨d, hu, hd⟩ := noteRow
 exact wpList_load_mid g0 _ y ho g off hy (nl x) d hr hu hd (by rw [zpb, nl_len hx]) h
theorem yp {x : NV} {w : World} {g : Nat} {T : TypeId} (hg : w.heap[g]? = some (.cells (ncells x) T (0, 0))) : w.rangeAt g 0 (nl x) := fun i u hu => by
 rw [Nat.zero_add, cell_of_row w g i _ _ _ hg]
 unfold ncells
 simpa using hu
theorem zrz {ops : Array Oper} {rest : List Oper} {o : Oper} {a : Act} {w : World} {Q : Exit -> Act -> World -> Prop} (g2 : o.guard = none) (p y : Operand) (ho : o.op = .store 57 p y)
  (old : Array Value) (t : TypeId) (hp : a.eval p = .pointer (some ⟨w.heap.size, 0, none⟩)) (x : NV) (hx : qh x.n.doc) (g0 : ∀ u ∈ nl x, u.oneCell' = true) (hy : a.eval y = .agg (ncells x)) (g1 : old.size = 37)
  (h : wpList Tryz.prog ops Q rest (a.put o.dst undef) (w.alloc (.cells (ncells x) t))) : wpList Tryz.prog ops Q (o :: rest) a (w.alloc (.cells old t)) := by
 refine wpList_store_row g2 _ p y ho w.heap.size (ncells x) hp hy t old (heap_alloc_new w _) (by rw [zpb, zdg hx]) (by rw [g1, zdg hx]) (all_oneCell_toArray g0) ?_
 rw [zs4]; exact h
def Notes (w : World) (v : Value) (xs : List NV) : Prop :=
 ∃ a cap, v = .slice a xs.length cap /\ ∀ j (h : j < xs.length), NOk w xs[j] /\ ∃ g off, a = some ⟨g, off, none⟩ /\ g < w.heap.size /\ w.rangeAt g (off + j * 37) (nl xs[j])
theorem Notes.below {w w' : World} {v : Value} {xs : List NV} (h : Notes w v xs) (hb : Below w.heap.size w w') : Notes w' v xs := by
 obtain ⟨a, cap, e, hc⟩ := h
 refine ⟨a, cap, e, fun j hj => ?_⟩
 obtain ⟨hw, b, off, ea, hlt, hr⟩ := hc j hj
 exact ⟨hw.below hb, b, off, ea, Nat.lt_of_lt_of_le hlt hb.size, zi hr hb⟩
theorem Notes.slice {w : World} {v : Value} {xs : List NV} (h : Notes w v xs) : ∃ a cap, v = .slice a xs.length cap := by
 obtain ⟨a, c, e, _⟩ := h
 exact ⟨a, c, e⟩
end Go.Proofs.YtbikeahmldobkaaGreatDoor
