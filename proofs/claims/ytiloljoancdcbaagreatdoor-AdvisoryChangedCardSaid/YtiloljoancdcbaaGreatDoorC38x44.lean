/-
  Lemmas for the law.
-/
import Derived.Test.YtiloljoancdcbaaGreatDoorC38x33
import Derived.Test.YtiloljoancdcbaaGreatDoorC38x20
import Derived.Test.YtiloljoancdcbaaGreatDoorC38x34
import Derived.Test.YtiloljoancdcbaaGreatDoorC38x22
import Derived.Test.YtiloljoancdcbaaGreatDoorC38x06
import Derived.Laws.StructEq
set_option linter.all false
set_option maxRecDepth 100000
set_option maxHeartbeats 6400000
namespace Go.Proofs.YtiloljoancdcbaaGreatDoor
open Go.RowKit
theorem zez (x : V.Adv) (v : Value) (w : World) (hm : zg w) (hv : Affs w v x.aff) (hid : x.id.length ≤ maxLen) (hl : x.aff.length ≤ maxLen) :
  Calls Tryz.prog 12 #[advV x v] w fun e w' => e = .returned (.bool (V.ql x)) /\ Below w.heap.size w w' := by
 obtain ⟨pa, pc, rfl⟩ := hv.slice
 obtain ⟨hb, c0, c1, c2, c3⟩ := zdc x (.slice pa x.aff.length pc) w
 have HM := zvr (hm.below hb)
 have HV := zvr (hv.below hb)
 have HI : Hid ((⟨x.id.toArray⟩ : ByteArray).size ≤ maxLen) := zvr (by rw [ww]; exact hid)
 have HB := zvr hb
 have HBX : Hid (w.heap.size < (w.alloc (.cells #[.string ⟨x.id.toArray⟩, .int .i64 x.rev, .int .i64 x.sev, .slice pa x.aff.length pc] 25)).heap.size) := zvr (by simp)
 unfold maxLen at hl
 clear hm hv hid hb
 unfold advV
 go_enter Tryz.func12, Tryz.ntmps12
 go_wp2_with fail
 generalize w.alloc (.cells #[.string ⟨x.id.toArray⟩, .int .i64 x.rev, .int .i64 x.sev, .slice pa x.aff.length pc] 25) = w0 at *
 refine (zn2 ⟨x.id.toArray⟩ w0 HI.out).mono ?_
 rintro e w' ⟨rfl, hw'⟩
 obtain rfl := hw'.symm
 clear hw'
 rw [vh]
 by_cases g0 : V.xq x.id = true
 case neg =>
  exact zx0
 rw [g0]
 by_cases g1 : 1 ≤ x.rev
 case neg =>
  have HR : Hid (V.ql x = false) := zvr (by
    rcases h : V.ql x with _ | _
    · rfl
    · have hp := V.ja h
      exact absurd hp.rev0 g1)
  have f1 : x.rev < 1 := by omega
  clear g1
  exact zx8
 have f1 : ¬ x.rev < 1 := by omega
 by_cases g2 : x.rev ≤ 1099511627776
 case neg =>
  exact zx4
 have f2 : ¬ (1099511627776 : Int) < x.rev := by omega
 by_cases g3 : 1 ≤ x.sev
 case neg =>
  have HR : Hid (V.ql x = false) := zvr (by
    rcases h : V.ql x with _ | _
    · rfl
    · have hp := V.ja h
      exact absurd hp.sev0 g3)
  have f3 : x.sev < 1 := by omega
  clear g3
  exact zx8
 have f3 : ¬ x.sev < 1 := by omega
 by_cases g4 : x.sev ≤ 10
 case neg =>
  exact zx7
 have f4 : ¬ (10 : Int) < x.sev := by omega
 by_cases g5 : x.aff.length ≤ 16
 case neg =>
  exact zx2
 have f5 : ¬ (16 : Int) < (x.aff.length : Int) := by omega
 have HOK : Hid (V.ql x = V.yn x.aff x.aff.length) := zvr (by
   unfold V.ql V.zgl
   rw [g0, decide_eq_true g1, decide_eq_true g2, decide_eq_true g3, decide_eq_true g4, decide_eq_true g5]
   rfl)
 clear g0 g1 g2 g3 g4
 go_wp2_with fail
 go_loopw [3] (fun iv W => ∃ k : Nat, k ≤ x.aff.length /\ iv = .int .i64 k /\ V.yn x.aff k = true /\ Below w0.heap.size w0 W) (fun iv _ => x.aff.length - (intOf iv).toNat)
 case atStart => exact ⟨0, Nat.zero_le _, rfl, rfl, zvu _ _⟩
 case round =>
  obtain ⟨k, hk, rfl, hto, hbr⟩ := hrel
  have HTO := zvr hto
  have HBR := zvr hbr
  have HBW := zvs HB hbr
  have c3r := zb hbr c3
  clear hto hbr
  by_cases hlt : k < x.aff.length
  ·obtain ⟨hwf, b, off, ua, uc, rfl, hblt, ha⟩ := HV.out.at k hlt
   have HVK := zvr (HV.out.below HBR.out)
   have HW := zvr hwf
   have HA := zvr (ha.below HBR.out)
   have HST := zvr (V.zbu hlt)
   have HNO := zvr (V.zqq hlt)
   have HAT : Hid (V.zb0 x.aff k x.aff[k] = ((decide (k = 0) || decide (V.affC (x.aff.getD (k - 1) V.zA) x.aff[k] < 0)) && V.kd x.aff[k])) := zvr rfl
   generalize x.aff[k] = a at *
   have HSD : Hid (V.kd a = (V.xc a.name && V.zdd a.sch a.rs a.its)) := zvr rfl
   have HAN : Hid ((⟨a.name.toArray⟩ : ByteArray).size ≤ maxLen) := zvr (by rw [ww]; exact HW.out.name)
   have e0 := HA.out.c0
   have e1 := HA.out.c1
   have e2 := HA.out.c2
   have e3 := HA.out.c3
   have i1 : (0 : Int) ≤ (k : Int) := by omega
   have i2 : (k : Int) < (x.aff.length : Int) := by omega
   have wr1 : IntKind.i64.wrap ((k : Int) + 1) = (k : Int) + 1 := IntWalk.i64_in _ (by omega)
   have hb2 : Below wr.heap.size wr (wr.alloc (.cells #[.int .i64 a.sch, .string ⟨a.name.toArray⟩, .int .i64 a.rs, .slice ua a.its.length uc] 34)) := (zvu _ wr).alloc (zvt _) _
   obtain ⟨_, d0, d1, d2, d3⟩ := zc4 a (.slice ua a.its.length uc) wr
   have HA2 := zvr (HA.out.its.below hb2)
   have HB2 := zvs HBR hb2
   have HM2 := zvr (HM.out.below HB2.out)
   have HV2 := zvr (HVK.out.below hb2)
   clear hb2 hwf ha
   go_wp2_with fail
   generalize wr.alloc (.cells #[.int .i64 a.sch, .string ⟨a.name.toArray⟩, .int .i64 a.rs, .slice ua a.its.length uc] 34) = w2 at *
   generalize wr.heap.size = X at *
   clear e0 e1 e2 e3 c3r
   refine (zu9 ⟨a.name.toArray⟩ w2 HM2.out HAN.out).mono ?_
   rintro e w3 ⟨rfl, hb3⟩
   rw [vh]
   have HB3 := zvs HB2 hb3
   have HM3 := zvr (HM2.out.below hb3)
   have HV3 := zvr (HV2.out.below hb3)
   have HA3 := zvr (HA2.out.below hb3)
   replace d0 := zb hb3 d0
   replace d1 := zb hb3 d1
   replace d2 := zb hb3 d2
   replace d3 := zb hb3 d3
   clear hb3 HA2 HV2 HM2 HB2 HA
   by_cases hp : V.xc a.name = true
   case neg =>
    have hp' : V.xc a.name = false := by simpa using hp
    have HR : Hid (V.ql x = false) := zvr (by rw [HOK.out]; exact HNO.out (by rw [HAT.out, HSD.out, hp']; simp))
    rw [hp']
    clear hp hp'
    go_wp2
    go_ret
    exact ⟨zd HR.out.symm, HB.out.trans (HB3.out.mono HB.out.size)⟩
   rw [hp]
   have HP := zvr hp
   clear hp
   go_wp2_with fail
   refine (zok a.sch a.rs a.its ua uc w3 HM3.out HA3.out HW.out.lens HW.out.len).mono ?_
   rintro e w4 ⟨rfl, hb4⟩
   have HB4 := zvs HB3 hb4
   have HV4 := zvr (HV3.out.below hb4)
   replace d0 := zb hb4 d0
   replace d1 := zb hb4 d1
   clear hb4 HA3 HV3 HM3 HB3 d2 d3
   by_cases hg : V.zdd a.sch a.rs a.its = true
   case neg =>
    have hg' : V.zdd a.sch a.rs a.its = false := by simpa using hg
    have HR : Hid (V.ql x = false) := zvr (by rw [HOK.out]; exact HNO.out (by rw [HAT.out, HSD.out, hg']; simp))
    rw [hg']
    clear hg hg'
    go_wp2
    go_ret
    exact ⟨zd HR.out.symm, HB.out.trans (HB4.out.mono HB.out.size)⟩
   rw [hg]
   have HSO : Hid (V.kd a = true) := zvr (by rw [HSD.out, HP.out, hg]; rfl)
   rw [HSO.out] at HAT
   clear hg
   have hx3 := zb HB4.out c3
   rcases Nat.eq_zero_or_pos k with hk0 | hk0
   ·subst hk0
    have HY : Hid (V.yn x.aff (0 + 1) = true) := zvr (by rw [HST.out, HTO.out, HAT.out]; rfl)
    go_wp2_with fail
    refine wp_region_held_drew (S := (fun W' => Below w4.heap.size w4 W')) (by kernel_rfl) (by (try dsimp only); exact (zvu _ _).drew) (fun hHeld => ?_)
    refine tk 0 ?_
    refine tk 1 ?_
    refine tk 2 ?_
    refine tu 3 ?_
    refine tu 4 ?_
    refine tu 5 ?_
    refine tu 6 ?_
    refine tu 7 ?_
    refine tu 8 ?_
    refine tu 9 ?_
    refine tu 10 ?_
    refine tu 11 ?_
    refine tu 12 ?_
    refine tu 13 ?_
    refine tu 14 ?_
    refine tu 15 ?_
    refine tu 16 ?_
    refine tu 17 ?_
    refine tu 18 ?_
    refine tu 19 ?_
    refine tu 20 ?_
    refine tu 21 ?_
    refine tu 22 ?_
    refine tu 23 ?_
    refine tu 24 ?_
    refine tk 25 ?_
    refine wpAnyH_done (by kernel_rfl) ?_ _
    have HBE := zvr (HB4.out.trans ((show Below w4.heap.size w4 w4.drew from hHeld).mono HB4.out.size))
    clear hHeld
    exact z0c
   ·obtain ⟨j, hj⟩ : ∃ j, k = j + 1 := ⟨k - 1, by omega⟩
    have hjl : j < x.aff.length := by omega
    obtain ⟨_, b', off', up, ucp, e', _, hp⟩ := HV4.out.at j hjl
    cases e'
    have HPV : Hid (x.aff.getD (k - 1) V.zA = x.aff[j]) := zvr (by rw [hj, Nat.add_sub_cancel, List.getD_eq_getElem?_getD, List.getElem?_eq_getElem hjl]; rfl)
    rw [HPV.out] at HAT
    clear HPV
    generalize x.aff[j] = p at *
    have q0 := hp.c0
    have q1 := hp.c1
    have wk : IntKind.i64.wrap ((k : Int) - 1) = (j : Int) := by rw [hj, IntWalk.i64_in _ (by omega)]; omega
    have j1 : (0 : Int) ≤ (j : Int) := by omega
    have j2 : (j : Int) < (x.aff.length : Int) := by omega
    have k0 : (0 : Int) < (k : Int) := by omega
    have k1 : decide ((0 : Int) < (k : Int)) = true := decide_eq_true k0
    have k2 : decide (0 < k) = true := decide_eq_true hk0
    have k3 : 0 < k := hk0
    have HK0 : Hid (decide (k = 0) = false) := zvr (decide_eq_false (by omega))
    rw [HK0.out, Bool.false_or, Bool.and_true] at HAT
    clear hp hj HK0 hk0
    obtain ⟨r, hr⟩ : ∃ r, decide (V.affC p a < 0) = r := ⟨_, rfl⟩
    have HCE : Hid (decide (V.orI [Lib.compareInt p.sch a.sch, Lib.compareBytes p.name a.name] < 0) = r) := zvr hr
    rw [hr] at HAT
    clear hr c3
    have c3 := hx3
    clear hx3
    go_wp2_with fail
    refine wp_region_held_drew (S := (fun W' => Below w4.heap.size w4 W' /\ W'.cell? ⟨w.heap.size, 3, none⟩ = some (.slice (some ⟨b, off, none⟩) x.aff.length pc) /\ W'.cell? ⟨b, off + j * 4, none⟩ = some (.int .i64 p.sch) /\ W'.cell? ⟨b, off + j * 4 + 1, none⟩ = some (.string ⟨p.name.toArray⟩) /\ W'.cell? ⟨X, 0, none⟩ = some (.int .i64 a.sch) /\ W'.cell? ⟨X, 1, none⟩ = some (.string ⟨a.name.toArray⟩))) (by kernel_rfl) (by (try dsimp only); exact ⟨(zvu _ _).drew, zb (zvu _ _).drew c3, zb (zvu _ _).drew q0, zb (zvu _ _).drew q1, zb (zvu _ _).drew d0, zb (zvu _ _).drew d1⟩) (fun hHeld => ?_)
    refine tk 0 ?_
    refine tk 1 ?_
    refine tk 2 ?_
    refine tk 3 ?_
    refine tk 4 ?_
    refine tk 5 ?_
    refine wpAnyH_take (i := 6) (v := (.int .i64 (j : Int))) rfl (by kernel_rfl) (by kernel_rfl) (by kernel_rfl) (fun _ _ _ h => h) (Or.inl ⟨by rfl, fun w' hSw => by go_simp; try rfl⟩) (by assumption) ?_
    try simp only [zvm, zvn, zvo, Act.put, zvp, List.set_cons_succ, List.set_cons_zero]
    refine tk 7 ?_
    refine tk 8 ?_
    refine tk 9 ?_
    refine tk 10 ?_
    refine tk 11 ?_
    refine tk 12 ?_
    refine wpAnyH_take (i := 13) (v := (.int .i64 (j : Int))) rfl (by kernel_rfl) (by kernel_rfl) (by kernel_rfl) (fun _ _ _ h => h) (Or.inl ⟨by rfl, fun w' hSw => by go_simp; try rfl⟩) (by assumption) ?_
    try simp only [zvm, zvn, zvo, Act.put, zvp, List.set_cons_succ, List.set_cons_zero]
    refine tk 14 ?_
    refine tk 15 ?_
    refine tk 16 ?_
    refine tk 17 ?_
    refine tk 18 ?_
    refine tk 19 ?_
    refine tk 20 ?_
    refine tk 21 ?_
    refine tk 22 ?_
    refine rd 23 fun K hK => ?_
    go_simp
    refine (zhm p.sch a.sch p.name a.name _).mono ?_
    rintro e wy23 ⟨rfl, hby23⟩
    try dsimp only
    rw [HCE.out]
    refine hK.out _ _ ?_ (fun hHeld => nx ?_)
    ·(try dsimp only); go_split_ands; exact ⟨Below.trans (by assumption) (hby23.mono (Below.size (by assumption))), zvx hby23, zvx hby23, zvx hby23, zvx hby23, zvx hby23⟩
    clear hK K
    refine tk 24 ?_
    refine tk 25 ?_
    refine wpAnyH_done (by kernel_rfl) ?_ _
    have HBE := zvr (HB4.out.trans ((show Below w4.heap.size w4 wy23 from hHeld.1).mono HB4.out.size))
    clear hHeld
    rcases r with _ | _
    ·have HR : Hid (V.ql x = false) := zvr (by rw [HOK.out]; exact HNO.out HAT.out)
     exact zyr
    ·have HY : Hid (V.yn x.aff (k + 1) = true) := zvr (by rw [HST.out, HTO.out, HAT.out]; rfl)
     exact z0b
  ·exact zy2
def pE (p : Int × V.Bs) : List Value := [.int .i64 p.1, .string ⟨p.2.toArray⟩]
theorem zfm (p : Int × V.Bs) : (pE p).length = 2 := rfl
theorem zjj (p : Int × V.Bs) : ∀ u ∈ pE p, u.oneCell' = true := by
 intro u hu
 simp [pE] at hu
 rcases hu with rfl | rfl <;> rfl
theorem zrl : xt 57 2 24 := by
 have h : (match Tryz.prog.info? 57 with | some i => i.size == 2 && (i.bytes == 24 && (match i.zero with | some z => z.cells.size == 2 | none => false)) | none => false) = true := by kernel_rfl
 unfold xt
 cases hq : Tryz.prog.info? 57 with
 | none => rw [hq] at h; cases h
 | some i =>
  exact zwa
open Go.RowKit
theorem zgs : Tryz.prog.eqGuardType Tryz.prog.depth 57 = false := by kernel_rfl
theorem eq_pkg (x y : Int × V.Bs) (w : World) : (Op.equalIn 10000 57 (.agg #[.int .i64 x.1, .string ⟨x.2.toArray⟩]) (.agg #[.int .i64 y.1, .string ⟨y.2.toArray⟩])).run Tryz.prog w = .ok (decide (x = y)) w := by
 rw [run_equalIn_agg w 9999 57 _ _ (by kernel_rfl) (by kernel_rfl)]
 unfold Program.fieldsOf
 rw [Tryz.underlying57]
 simp only [Op.eqFields]
 simp [go_sem]
 obtain ⟨a, b⟩ := x
 obtain ⟨c, d⟩ := y
 by_cases h1 : a = c
 ·by_cases h2 : b = d
  ·simp [h1, h2]
  ·simp [h1, h2]
 ·simp [h1]
theorem zoc (x y : Int × V.Bs) (w : World) : (binOp .eql 57 (.agg #[.int .i64 x.1, .string ⟨x.2.toArray⟩]) (.agg #[.int .i64 y.1, .string ⟨y.2.toArray⟩])).run Tryz.prog w = .ok (.bool (decide (x = y))) w := by
 rw [run_eql_struct, eq_pkg]
 rfl
theorem zgf (n m : Int) (s t : V.Bs) (w : World) :
  Calls Tryz.prog 37 #[.agg #[.int .i64 n, .string ⟨s.toArray⟩], .agg #[.int .i64 m, .string ⟨t.toArray⟩]] w fun e w' => e = .returned (.bool (decide (V.pkC (n, s) (m, t) < 0))) /\ Below w.heap.size w w' := zhm n m s t w
theorem GSl.pk {w : World} {a : Option Addr} {n cap : Nat} {l : List (Int × V.Bs)} (h : GSl 2 pE w (.slice a n cap) l) (j : Nat) (hj : j < l.length) : ∃ g off, a = some ⟨g, off, none⟩ /\ g < w.heap.size /\ w.cell? ⟨g, off + j * 2, none⟩ = some (.int .i64 l[j].1) /\ w.cell? ⟨g, off + j * 2 + 1, none⟩ = some (.string ⟨l[j].2.toArray⟩) := by
 obtain ⟨g, off, e, hg, hc⟩ := h.at j hj
 exact ⟨g, off, e, hg, hc 0 _ rfl, hc 1 _ rfl⟩
theorem zgb {w W : World} {B : Nat} {a : Int × V.Bs} {t : TypeId} (h : W = w.alloc (.cells #[.int .i64 a.1, .string ⟨a.2.toArray⟩] t)) (hB : B = w.heap.size) : ∀ j u, (pE a)[j]? = some u -> W.cell? ⟨B, j, none⟩ = some u := by
 intro j u hj
 rw [h, hB, zc, if_pos rfl]
 simpa [pE] using hj
theorem zzc {P : Prop} (h : P := by
 (try dsimp only); exact ⟨hHeld.1.trans (hb7.mono hHeld.1.size), zb hb7 hHeld.2.1, zb hb7 hHeld.2.2.1, zb hb7 hHeld.2.2.2.1, zb hb7 hHeld.2.2.2.2⟩) : P := h
theorem zr4 (v : Value) (l : List (Int × V.Bs)) (p : Int × V.Bs) (w : World) (hv : GSl 2 pE w v l) (hl : l.length ≤ 1000) :
  Calls Tryz.prog 22 #[v, .agg #[.int .i64 p.1, .string ⟨p.2.toArray⟩]] w fun e w' => ∃ u, e = .returned u /\ GRow 57 2 pE w' w.heap.size u (V.addP p l) /\ Below w.heap.size w w' := by
 obtain ⟨va, vc, rfl⟩ := hv.slice
 have hb0 : Below w.heap.size w (w.alloc (.cells #[.int .i64 p.1, .string ⟨p.2.toArray⟩] 57)) := (zvu _ w).alloc (zvt _) _
 have HB0 := zvr hb0
 have HV := zvr (hv.below hb0)
 have p0 : (w.alloc (.cells #[.int .i64 p.1, .string ⟨p.2.toArray⟩] 57)).cell? ⟨w.heap.size, 0, none⟩ = some (.int .i64 p.1) := by rw [World.cell?_alloc_new]; rfl
 have p1 : (w.alloc (.cells #[.int .i64 p.1, .string ⟨p.2.toArray⟩] 57)).cell? ⟨w.heap.size, 1, none⟩ = some (.string ⟨p.2.toArray⟩) := by rw [World.cell?_alloc_new]; rfl
 have Z0 := zvr p0
 have Z1 := zvr p1
 clear hb0 hv p0 p1
 go_enter Tryz.func22, Tryz.ntmps22
 go_wp2_with fail
 generalize w.alloc (.cells #[.int .i64 p.1, .string ⟨p.2.toArray⟩] 57) = w0 at *
 go_loopw [5, 6, 7] (fun ov dv iv wx => ∃ (k : Nat) (q : List (Int × V.Bs) × Bool), k ≤ l.length /\ iv = .int .i64 k /\ (q = V.km p l k /\ dv = .bool q.2) /\ GRow 57 2 pE wx w0.heap.size ov q.1 /\ Below w0.heap.size w0 wx) (fun _ _ iv _ => l.length - (intOf iv).toNat)
 case atStart => exact ⟨0, _, Nat.zero_le _, rfl, ⟨rfl, rfl⟩, GRow.nil _ _, zvu _ _⟩
 case round =>
  obtain ⟨k, ⟨o, d⟩, hk, rfl, ⟨hq, hdv⟩, hrow, hbl⟩ := hrel
  simp only at hdv hrow
  subst hdv
  obtain ⟨oa, oc, hov⟩ := hrow.slice
  subst hov
  have HROW := zvr hrow
  have HBR := zvr hbl
  have HQ := zvr hq
  have P0 := zvr (zb hbl Z0.out)
  have P1 := zvr (zb hbl Z1.out)
  have HLO : Hid (o.length ≤ 1001) := zvr (by have := (V.zev (p := p) (l := l) k hk).2.1; rw [← hq] at this; simp only at this; omega)
  clear hrow hbl hq
  by_cases hlt : k < l.length
  ·obtain ⟨g, off, rfl, hg, hx0, hx1⟩ := HV.out.pk k hlt
   have X0 := zvr hx0
   have X1 := zvr hx1
   have x0 := zb HBR.out hx0
   have x1 := zb HBR.out hx1
   have HST := zvr (V.zcw (p := p) hlt)
   rw [← HQ.out] at HST
   simp only at HST
   have i1 : (0 : Int) ≤ (k : Int) := by omega
   have i2 : (k : Int) < (l.length : Int) := by omega
   have wr1 : IntKind.i64.wrap ((k : Int) + 1) = (k : Int) + 1 := IntWalk.i64_in _ (by omega)
   generalize l[k] = x at *
   clear hx0 hx1 HV
   rcases d with _ | _
   ·by_cases hls : V.pkC p x < 0
    ·have HN : Hid (V.km p l (k + 1) = (o ++ [p] ++ [x], true)) := zvr (by rw [HST.out]; simp [hls])
     have hld : decide (V.pkC p x < 0) = true := decide_eq_true hls
     clear HST hls
     go_wp2_with fail
     refine wp_region_held_drew (S := (fun W' => Below wr.heap.size wr W' /\ W'.cell? ⟨w.heap.size, 0, none⟩ = some (.int .i64 p.1) /\ W'.cell? ⟨w.heap.size, 1, none⟩ = some (.string ⟨p.2.toArray⟩) /\ W'.cell? ⟨g, off + k * 2, none⟩ = some (.int .i64 x.1) /\ W'.cell? ⟨g, off + k * 2 + 1, none⟩ = some (.string ⟨x.2.toArray⟩))) (by kernel_rfl) (⟨(zvu _ _).drew, zb (zvu _ _).drew P0.out, zb (zvu _ _).drew P1.out, zb (zvu _ _).drew x0, zb (zvu _ _).drew x1⟩) (fun hHeld => ?_)
     refine tk 0 ?_
     refine tk 1 ?_
     refine tk 2 ?_
     refine tk 3 ?_
     refine tk 4 ?_
     refine tk 5 ?_
     refine tk 6 ?_
     refine tk 7 ?_
     refine rd 8 fun K hK => ?_
     go_simp
     refine (zgf p.1 x.1 p.2 x.2 _).mono ?_
     rintro e w7 ⟨rfl, hb7⟩
     try dsimp only
     refine hK.out _ _ ?_ (fun hHeld => nx ?_)
     ·exact zzc
     clear hK K
     refine tk 9 ?_
     refine wpAnyH_done (by kernel_rfl) ?_ _
     rw [show V.pkC (p.1, p.2) (x.1, x.2) = V.pkC p x from rfl, hld]
     have HBR7 := zvr (HBR.out.trans (hHeld.1.mono HBR.out.size))
     have HROW7 := zvr (GRow.below HROW.out hHeld.1)
     have q0 := hHeld.2.1
     have q1 := hHeld.2.2.1
     clear hb7 hHeld x0 x1 hld
     have hbYf : Below w7.heap.size w7 (w7.alloc (.cells #[.int .i64 p.1, .string ⟨p.2.toArray⟩] 57)) := (zvu _ _).alloc (zvt _) _
     have HRZf := zvr (GRow.below HROW7.out hbYf)
     have HBYf := zvs HBR7 hbYf
     have HNWf : Hid (∀ j u, (pE p)[j]? = some u -> (w7.alloc (.cells #[.int .i64 p.1, .string ⟨p.2.toArray⟩] 57)).cell? ⟨w7.heap.size, j, none⟩ = some u) := zvr (zgb (w := w7) (t := 57) rfl rfl)
     clear hbYf
     go_wp2_with (first | (refine zk zfm (by decide) zjj zrl (by decide) rfl _ _ 54 rfl Tryz.underlying54 w0.heap.size _ o rfl HRZf.out w7.heap.size p rfl HNWf.out (by have := HLO.out; (try simp only [List.length_append, List.length_cons, List.length_nil]); omega) HBYf.out.size ?_
                           intro vf wf hrf hgf
                           have HBRf := zvr (HBYf.out.trans (zn hgf (GRow.block HRZf.out) (zvt _) HBYf.out.size))
                           have HROWf := zvr hrf
                           clear hgf hrf) | fail)
     clear q0 q1
     have HX : Hid (Below w0.heap.size w0 wf) := HBRf
     have y0 := zb HX.out X0.out
     have y1 := zb HX.out X1.out
     have z0 := zb HX.out Z0.out
     have z1 := zb HX.out Z1.out
     have hgd := zgs
     have heq := zoc x p
     by_cases hxp : x = p
     all_goals
      first | (rw [decide_eq_true hxp] at heq) | (rw [decide_eq_false hxp] at heq)
      have HXP := zvr hxp
      clear hxp
      go_wp2_with fail
      go_quiet (fail)
      rename_i nq
      have hbq : Below wf.heap.size wf (wf.drewN nq) := below_drewN (zvu _ _) nq
      have HROWq := zvr (GRow.below HROWf.out hbq)
      have HBRq := zvs HX hbq
      replace y0 := zb hbq y0
      replace y1 := zb hbq y1
      generalize wf.drewN nq = wq at *
      clear hbq z0 z1 heq hgd
      have hbYe : Below wq.heap.size wq (wq.alloc (.cells #[.int .i64 x.1, .string ⟨x.2.toArray⟩] 57)) := (zvu _ _).alloc (zvt _) _
      have HRZe := zvr (GRow.below HROWq.out hbYe)
      have HBYe := zvs HBRq hbYe
      have HNWe : Hid (∀ j u, (pE x)[j]? = some u -> (wq.alloc (.cells #[.int .i64 x.1, .string ⟨x.2.toArray⟩] 57)).cell? ⟨wq.heap.size, j, none⟩ = some u) := zvr (zgb (w := wq) (t := 57) rfl rfl)
      clear hbYe
      go_wp2_with (first | (refine zk zfm (by decide) zjj zrl (by decide) rfl _ _ 54 rfl Tryz.underlying54 w0.heap.size _ (o ++ [p]) rfl HRZe.out wq.heap.size x rfl HNWe.out (by have := HLO.out; (try simp only [List.length_append, List.length_cons, List.length_nil]); omega) HBYe.out.size ?_
                            intro ve we hre hge
                            have HBRe := zvr (HBYe.out.trans (zn hge (GRow.block HRZe.out) (zvt _) HBYe.out.size))
                            have HROWe := zvr hre
                            clear hge hre) | fail)
      go_roundw
      case rel => exact ⟨k + 1, _, by omega, by go_num, ⟨HN.out.symm, rfl⟩, HROWe.out, HBRe.out⟩
      case measure => simp [intOf]; omega
    ·have hld : decide (V.pkC p x < 0) = false := decide_eq_false hls
     have HN : Hid (V.km p l (k + 1) = (o ++ [x], decide (x = p))) := zvr (by rw [HST.out]; simp [hls])
     clear HST hls
     go_wp2_with fail
     refine wp_region_held_drew (S := (fun W' => Below wr.heap.size wr W' /\ W'.cell? ⟨w.heap.size, 0, none⟩ = some (.int .i64 p.1) /\ W'.cell? ⟨w.heap.size, 1, none⟩ = some (.string ⟨p.2.toArray⟩) /\ W'.cell? ⟨g, off + k * 2, none⟩ = some (.int .i64 x.1) /\ W'.cell? ⟨g, off + k * 2 + 1, none⟩ = some (.string ⟨x.2.toArray⟩))) (by kernel_rfl) (⟨(zvu _ _).drew, zb (zvu _ _).drew P0.out, zb (zvu _ _).drew P1.out, zb (zvu _ _).drew x0, zb (zvu _ _).drew x1⟩) (fun hHeld => ?_)
     refine tk 0 ?_
     refine tk 1 ?_
     refine tk 2 ?_
     refine tk 3 ?_
     refine tk 4 ?_
     refine tk 5 ?_
     refine tk 6 ?_
     refine tk 7 ?_
     refine rd 8 fun K hK => ?_
     go_simp
     refine (zgf p.1 x.1 p.2 x.2 _).mono ?_
     rintro e w7 ⟨rfl, hb7⟩
     try dsimp only
     refine hK.out _ _ ?_ (fun hHeld => nx ?_)
     ·exact zzc
     clear hK K
     refine tk 9 ?_
     refine wpAnyH_done (by kernel_rfl) ?_ _
     rw [show V.pkC (p.1, p.2) (x.1, x.2) = V.pkC p x from rfl, hld]
     have HBR7 := zvr (HBR.out.trans (hHeld.1.mono HBR.out.size))
     have HROW7 := zvr (GRow.below HROW.out hHeld.1)
     clear hb7 hHeld x0 x1 hld
     have HX : Hid (Below w0.heap.size w0 w7) := HBR7
     have y0 := zb HX.out X0.out
     have y1 := zb HX.out X1.out
     have z0 := zb HX.out Z0.out
     have z1 := zb HX.out Z1.out
     have hgd := zgs
     have heq := zoc x p
     by_cases hxp : x = p
     all_goals
      first | (rw [decide_eq_true hxp] at heq) | (rw [decide_eq_false hxp] at heq)
      have HXP := zvr hxp
      clear hxp
      go_wp2_with fail
      go_quiet (fail)
      rename_i nq
      have hbq : Below w7.heap.size w7 (w7.drewN nq) := below_drewN (zvu _ _) nq
      have HROWq := zvr (GRow.below HROW7.out hbq)
      have HBRq := zvs HX hbq
      replace y0 := zb hbq y0
      replace y1 := zb hbq y1
      generalize w7.drewN nq = wq at *
      clear hbq z0 z1 heq hgd
      have hbYe : Below wq.heap.size wq (wq.alloc (.cells #[.int .i64 x.1, .string ⟨x.2.toArray⟩] 57)) := (zvu _ _).alloc (zvt _) _
      have HRZe := zvr (GRow.below HROWq.out hbYe)
      have HBYe := zvs HBRq hbYe
      have HNWe : Hid (∀ j u, (pE x)[j]? = some u -> (wq.alloc (.cells #[.int .i64 x.1, .string ⟨x.2.toArray⟩] 57)).cell? ⟨wq.heap.size, j, none⟩ = some u) := zvr (zgb (w := wq) (t := 57) rfl rfl)
      clear hbYe
      go_wp2_with (first | (refine zk zfm (by decide) zjj zrl (by decide) rfl _ _ 54 rfl Tryz.underlying54 w0.heap.size _ o rfl HRZe.out wq.heap.size x rfl HNWe.out (by have := HLO.out; (try simp only [List.length_append, List.length_cons, List.length_nil]); omega) HBYe.out.size ?_
                            intro ve we hre hge
                            have HBRe := zvr (HBYe.out.trans (zn hge (GRow.block HRZe.out) (zvt _) HBYe.out.size))
                            have HROWe := zvr hre
                            clear hge hre) | fail)
      go_roundw
      case rel => exact ⟨k + 1, _, by omega, by go_num, ⟨HN.out.symm, by first | (rw [decide_eq_true HXP.out]) | (rw [decide_eq_false HXP.out])⟩, HROWe.out, HBRe.out⟩
      case measure => simp [intOf]; omega
   ·have HN : Hid (V.km p l (k + 1) = (o ++ [x], true)) := zvr (by rw [HST.out]; simp)
    clear HST
    go_wp2_with fail
    go_quiet (fail)
    have hbr : Below wr.heap.size wr (wr.drewN nq) := below_drewN (zvu _ _) nq
    have HROW7 := zvr (GRow.below HROW.out hbr)
    have HBR7 := zvs HBR hbr
    generalize wr.drewN nq = w7 at *
    clear nq
    clear hbr x0 x1
    have HX : Hid (Below w0.heap.size w0 w7) := HBR7
    have y0 := zb HX.out X0.out
    have y1 := zb HX.out X1.out
    have z0 := zb HX.out Z0.out
    have z1 := zb HX.out Z1.out
    have hgd := zgs
    have heq := zoc x p
    by_cases hxp : x = p
    all_goals
     first | (rw [decide_eq_true hxp] at heq) | (rw [decide_eq_false hxp] at heq)
     have HXP := zvr hxp
     clear hxp
     go_wp2_with fail
     go_quiet (fail)
     rename_i nq
     have hbq : Below w7.heap.size w7 (w7.drewN nq) := below_drewN (zvu _ _) nq
     have HROWq := zvr (GRow.below HROW7.out hbq)
     have HBRq := zvs HX hbq
     replace y0 := zb hbq y0
     replace y1 := zb hbq y1
     generalize w7.drewN nq = wq at *
     clear hbq z0 z1 heq hgd
     have hbYe : Below wq.heap.size wq (wq.alloc (.cells #[.int .i64 x.1, .string ⟨x.2.toArray⟩] 57)) := (zvu _ _).alloc (zvt _) _
     have HRZe := zvr (GRow.below HROWq.out hbYe)
     have HBYe := zvs HBRq hbYe
     have HNWe : Hid (∀ j u, (pE x)[j]? = some u -> (wq.alloc (.cells #[.int .i64 x.1, .string ⟨x.2.toArray⟩] 57)).cell? ⟨wq.heap.size, j, none⟩ = some u) := zvr (zgb (w := wq) (t := 57) rfl rfl)
     clear hbYe
     go_wp2_with (first | (refine zk zfm (by decide) zjj zrl (by decide) rfl _ _ 54 rfl Tryz.underlying54 w0.heap.size _ o rfl HRZe.out wq.heap.size x rfl HNWe.out (by have := HLO.out; (try simp only [List.length_append, List.length_cons, List.length_nil]); omega) HBYe.out.size ?_
                           intro ve we hre hge
                           have HBRe := zvr (HBYe.out.trans (zn hge (GRow.block HRZe.out) (zvt _) HBYe.out.size))
                           have HROWe := zvr hre
                           clear hge hre) | fail)
     go_roundw
     case rel => exact ⟨k + 1, _, by omega, by go_num, ⟨HN.out.symm, rfl⟩, HROWe.out, HBRe.out⟩
     case measure => simp [intOf]; omega
  ·obtain rfl : k = l.length := by omega
   have HBE := zvr (HB0.out.trans (HBR.out.mono HB0.out.size))
   have q0 := P0.out
   have q1 := P1.out
   rcases d with _ | _
   ·have HR : Hid (V.addP p l = o ++ [p]) := zvr (by unfold V.addP; rw [← HQ.out]; rfl)
    clear HQ
    have hbYf : Below wr.heap.size wr (wr.alloc (.cells #[.int .i64 p.1, .string ⟨p.2.toArray⟩] 57)) := (zvu _ _).alloc (zvt _) _
    have HRZf := zvr (GRow.below HROW.out hbYf)
    have HBYf := zvs HBR hbYf
    have HNWf : Hid (∀ j u, (pE p)[j]? = some u -> (wr.alloc (.cells #[.int .i64 p.1, .string ⟨p.2.toArray⟩] 57)).cell? ⟨wr.heap.size, j, none⟩ = some u) := zvr (zgb (w := wr) (t := 57) rfl rfl)
    clear hbYf
    go_wp2_with (first | (refine zk zfm (by decide) zjj zrl (by decide) rfl _ _ 54 rfl Tryz.underlying54 w0.heap.size _ o rfl HRZf.out wr.heap.size p rfl HNWf.out (by have := HLO.out; (try simp only [List.length_append, List.length_cons, List.length_nil]); omega) HBYf.out.size ?_
                          intro vf wf hrf hgf
                          have HBRf := zvr (HBYf.out.trans (zn hgf (GRow.block HRZf.out) (zvt _) HBYf.out.size))
                          have HROWf := zvr hrf
                          clear hgf hrf) | fail)
    have HBF := zvr (HB0.out.trans (HBRf.out.mono HB0.out.size))
    go_ret
    exact ⟨_, rfl, by rw [HR.out]; exact GRow.weaken HROWf.out HB0.out.size, HBF.out⟩
   ·have HR : Hid (V.addP p l = o) := zvr (by unfold V.addP; rw [← HQ.out]; rfl)
    clear HQ q0 q1
    go_wp2
    go_ret
    exact ⟨_, rfl, by rw [HR.out]; exact GRow.weaken HROW.out HB0.out.size, HBE.out⟩
theorem kx {α : Type} {enc : α -> List Value} {k : Nat} {T : TypeId} {ops : Array Oper} {o : Oper} {a : Act} {w : World} {K : Act -> World -> Prop} {Q : Exit -> Act -> World -> Prop} {E : Prop} (hk : ∀ x, (enc x).length = k) (hk0 : 0 < k) (h1c : ∀ x, ∀ u ∈ enc x, u.oneCell' = true) {bytes : Nat} (hi : xt T k bytes) (hby : bytes ≤ 1000) (hgd : o.guard = none) (s x : Operand) (S : TypeId)
  (ho : o.op = .call { callee := .builtin .append, args := #[s, x], argTypes := #[S, S] }) (hu : Tryz.prog.underlying S = some (.slice T))
  (N : Nat) (v : Value) (l : List α) (hs : a.eval s = v) (hown : GRow T k enc w N v l) (b : Nat) (c : α) (hx : a.eval x = .slice (some ⟨b, 0, none⟩) 1 1) (hr : ∀ j u, (enc c)[j]? = some u -> w.cell? ⟨b, j, none⟩ = some u) (hl : l.length ≤ 900000) (hN : N ≤ w.heap.size)
  (h : ∀ v' w', GRow T k enc w' N v' (l ++ [c]) -> w.grownBy w' v.ownBlock -> (v'.ownBlock = v.ownBlock ∨ v'.ownBlock = some w.heap.size) -> K (a.put o.dst v') w') : if Region.wanted o (yielded ops a.tmps) = true then Oper.wp Tryz.prog o a w K Q else E := by
 rw [if_pos (by simp [Region.wanted, hgd])]
 obtain ⟨ie, z, hie, hz, h1, h2, h3⟩ := hi
 obtain ⟨v', w', hr', ho', hg, _, hob⟩ := run_append_own_at (P := Tryz.prog) w N S o.type T ie z k bytes hu hie hz h1 h2 h3 hk0 v l.length (l.flatMap enc) hown ⟨b, 0, none⟩ 1 1 (enc c) (by rw [hk]; omega) (fun j u hj => by
   rw [Addr.add_mid, Nat.zero_add]
   exact hr j u hj) (h1c c) (by unfold maxLen; omega) (by
     have : (l.length + 1) * bytes ≤ 1000001 * 1000 := Nat.mul_le_mul (by omega) hby
     omega) hN
 unfold Oper.wp execOp
 simp only [ho, resolve, invoke, builtin, Sem.run_bind, Sem.run_pure, Result.andThen_ok, List.map_toArray, List.map_cons, List.map_nil, hs, hx, hr']
 refine h v' w' ?_ hg hob
 unfold GRow
 rw [List.length_append, List.flatMap_append]
 simpa using ho'
end Go.Proofs.YtiloljoancdcbaaGreatDoor
