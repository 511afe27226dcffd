/-
  Lemmas for the law.
-/
import Derived.Test.YtnhfaincdabdkaaGreatDoorC37x34
import Derived.Test.YtnhfaincdabdkaaGreatDoorC37x21
import Derived.Test.YtnhfaincdabdkaaGreatDoorC37x35
import Derived.Test.YtnhfaincdabdkaaGreatDoorC37x24
import Derived.Test.YtnhfaincdabdkaaGreatDoorC37x08
import Derived.Laws.StructEq
set_option linter.all false
set_option maxRecDepth 100000
set_option maxHeartbeats 6400000
namespace Go.Proofs.YtnhfaincdabdkaaGreatDoor
open Go.RowKit
theorem zav (x : V.Adv) (v : Value) (w : World) (hm : zk w) (hv : Affs w v x.aff) (hid : x.id.length ≤ maxLen) (hl : x.aff.length ≤ maxLen) :
  Calls Tryz.prog 26 #[advV x v] w fun e w' => e = .returned (.bool (V.qa x)) /\ Below w.heap.size w w' := by
 obtain ⟨pa, pc, rfl⟩ := hv.slice
 obtain ⟨hb, c0, c1, c2, c3⟩ := uj x (.slice pa x.aff.length pc) w
 have HM := zs8 (hm.below hb)
 have HV := zs8 (hv.below hb)
 have HI : Hid ((⟨x.id.toArray⟩ : ByteArray).size ≤ maxLen) := zs8 (by rw [ul]; exact hid)
 have HB := zs8 hb
 have HBX : Hid (w.heap.size < (w.alloc (.cells #[.string ⟨x.id.toArray⟩, .int .i64 x.rev, .int .i64 x.sev, .slice pa x.aff.length pc] 41)).heap.size) := zs8 (by simp)
 unfold maxLen at hl
 clear hm hv hid hb
 unfold advV
 go_enter Tryz.func26, Tryz.ntmps26
 go_wp2_with fail
 generalize w.alloc (.cells #[.string ⟨x.id.toArray⟩, .int .i64 x.rev, .int .i64 x.sev, .slice pa x.aff.length pc] 41) = w0 at *
 refine (zld ⟨x.id.toArray⟩ w0 HI.out).mono ?_
 rintro e w' ⟨rfl, hw'⟩
 obtain rfl := hw'.symm
 clear hw'
 rw [ym]
 by_cases g0 : V.kw x.id = true
 case neg =>
  exact zu6
 rw [g0]
 by_cases g1 : 1 ≤ x.rev
 case neg =>
  have HR : Hid (V.qa x = false) := zs8 (by
    rcases h : V.qa x with _ | _
    · rfl
    · have hp := V.ql h
      exact absurd hp.rev0 g1)
  have f1 : x.rev < 1 := by omega
  clear g1
  exact zve
 have f1 : ¬ x.rev < 1 := by omega
 by_cases g2 : x.rev ≤ 1099511627776
 case neg =>
  exact zva
 have f2 : ¬ (1099511627776 : Int) < x.rev := by omega
 by_cases g3 : 1 ≤ x.sev
 case neg =>
  have HR : Hid (V.qa x = false) := zs8 (by
    rcases h : V.qa x with _ | _
    · rfl
    · have hp := V.ql h
      exact absurd hp.sev0 g3)
  have f3 : x.sev < 1 := by omega
  clear g3
  exact zve
 have f3 : ¬ x.sev < 1 := by omega
 by_cases g4 : x.sev ≤ 10
 case neg =>
  exact zvd
 have f4 : ¬ (10 : Int) < x.sev := by omega
 by_cases g5 : x.aff.length ≤ 16
 case neg =>
  exact zu8
 have f5 : ¬ (16 : Int) < (x.aff.length : Int) := by omega
 have HOK : Hid (V.qa x = V.xg x.aff x.aff.length) := zs8 (by
   unfold V.qa V.zew
   rw [g0, decide_eq_true g1, decide_eq_true g2, decide_eq_true g3, decide_eq_true g4, decide_eq_true g5]
   rfl)
 clear g0 g1 g2 g3 g4
 go_wp2_with fail
 go_loopw [3] (fun iv W => ∃ k : Nat, k ≤ x.aff.length /\ iv = .int .i64 k /\ V.xg x.aff k = true /\ Below w0.heap.size w0 W) (fun iv _ => x.aff.length - (intOf iv).toNat)
 case atStart => exact ⟨0, Nat.zero_le _, rfl, rfl, ztb _ _⟩
 case round =>
  obtain ⟨k, hk, rfl, hto, hbr⟩ := hrel
  have HTO := zs8 hto
  have HBR := zs8 hbr
  have HBW := zs9 HB hbr
  have c3r := zb hbr c3
  clear hto hbr
  by_cases hlt : k < x.aff.length
  ·obtain ⟨hwf, b, off, ua, uc, rfl, hblt, ha⟩ := HV.out.at k hlt
   have HVK := zs8 (HV.out.below HBR.out)
   have HW := zs8 hwf
   have HA := zs8 (ha.below HBR.out)
   have HST := zs8 (V.zaj hlt)
   have HNO := zs8 (V.zn3 hlt)
   have HAT : Hid (V.zap x.aff k x.aff[k] = ((decide (k = 0) || decide (V.affC (x.aff.getD (k - 1) V.zA) x.aff[k] < 0)) && V.kc x.aff[k])) := zs8 rfl
   generalize x.aff[k] = a at *
   have HSD : Hid (V.kc a = (V.kl a.name && V.zb0 a.sch a.rs a.its)) := zs8 rfl
   have HAN : Hid ((⟨a.name.toArray⟩ : ByteArray).size ≤ maxLen) := zs8 (by rw [ul]; exact HW.out.name)
   have e0 := HA.out.c0
   have e1 := HA.out.c1
   have e2 := HA.out.c2
   have e3 := HA.out.c3
   have i1 : (0 : Int) ≤ (k : Int) := by omega
   have i2 : (k : Int) < (x.aff.length : Int) := by omega
   have wr1 : IntKind.i64.wrap ((k : Int) + 1) = (k : Int) + 1 := IntWalk.i64_in _ (by omega)
   have hb2 : Below wr.heap.size wr (wr.alloc (.cells #[.int .i64 a.sch, .string ⟨a.name.toArray⟩, .int .i64 a.rs, .slice ua a.its.length uc] 50)) := (ztb _ wr).alloc (zta _) _
   obtain ⟨_, d0, d1, d2, d3⟩ := zas a (.slice ua a.its.length uc) wr
   have HA2 := zs8 (HA.out.its.below hb2)
   have HB2 := zs9 HBR hb2
   have HM2 := zs8 (HM.out.below HB2.out)
   have HV2 := zs8 (HVK.out.below hb2)
   clear hb2 hwf ha
   go_wp2_with fail
   generalize wr.alloc (.cells #[.int .i64 a.sch, .string ⟨a.name.toArray⟩, .int .i64 a.rs, .slice ua a.its.length uc] 50) = w2 at *
   generalize wr.heap.size = X at *
   clear e0 e1 e2 e3 c3r
   refine (zsr ⟨a.name.toArray⟩ w2 HM2.out HAN.out).mono ?_
   rintro e w3 ⟨rfl, hb3⟩
   rw [ym]
   have HB3 := zs9 HB2 hb3
   have HM3 := zs8 (HM2.out.below hb3)
   have HV3 := zs8 (HV2.out.below hb3)
   have HA3 := zs8 (HA2.out.below hb3)
   replace d0 := zb hb3 d0
   replace d1 := zb hb3 d1
   replace d2 := zb hb3 d2
   replace d3 := zb hb3 d3
   clear hb3 HA2 HV2 HM2 HB2 HA
   by_cases hp : V.kl a.name = true
   case neg =>
    have hp' : V.kl a.name = false := by simpa using hp
    have HR : Hid (V.qa x = false) := zs8 (by rw [HOK.out]; exact HNO.out (by rw [HAT.out, HSD.out, hp']; simp))
    rw [hp']
    clear hp hp'
    go_wp2
    go_ret
    exact ⟨zc HR.out.symm, HB.out.trans (HB3.out.mono HB.out.size)⟩
   rw [hp]
   have HP := zs8 hp
   clear hp
   go_wp2_with fail
   refine (zlv a.sch a.rs a.its ua uc w3 HM3.out HA3.out HW.out.lens HW.out.len).mono ?_
   rintro e w4 ⟨rfl, hb4⟩
   have HB4 := zs9 HB3 hb4
   have HV4 := zs8 (HV3.out.below hb4)
   replace d0 := zb hb4 d0
   replace d1 := zb hb4 d1
   clear hb4 HA3 HV3 HM3 HB3 d2 d3
   by_cases hg : V.zb0 a.sch a.rs a.its = true
   case neg =>
    have hg' : V.zb0 a.sch a.rs a.its = false := by simpa using hg
    have HR : Hid (V.qa x = false) := zs8 (by rw [HOK.out]; exact HNO.out (by rw [HAT.out, HSD.out, hg']; simp))
    rw [hg']
    clear hg hg'
    go_wp2
    go_ret
    exact ⟨zc HR.out.symm, HB.out.trans (HB4.out.mono HB.out.size)⟩
   rw [hg]
   have HSO : Hid (V.kc a = true) := zs8 (by rw [HSD.out, HP.out, hg]; rfl)
   rw [HSO.out] at HAT
   clear hg
   have hx3 := zb HB4.out c3
   rcases Nat.eq_zero_or_pos k with hk0 | hk0
   ·subst hk0
    have HY : Hid (V.xg x.aff (0 + 1) = true) := zs8 (by rw [HST.out, HTO.out, HAT.out]; rfl)
    go_wp2_with fail
    refine wp_region_held_drew (S := (fun W' => Below w4.heap.size w4 W')) (by kernel_rfl) (by (try dsimp only); exact (ztb _ _).drew) (fun hHeld => ?_)
    refine tk 0 ?_
    refine tk 1 ?_
    refine tk 2 ?_
    refine tu 3 ?_
    refine tu 4 ?_
    refine tu 5 ?_
    refine tu 6 ?_
    refine tu 7 ?_
    refine tu 8 ?_
    refine tu 9 ?_
    refine tu 10 ?_
    refine tu 11 ?_
    refine tu 12 ?_
    refine tu 13 ?_
    refine tu 14 ?_
    refine tu 15 ?_
    refine tu 16 ?_
    refine tu 17 ?_
    refine tu 18 ?_
    refine tu 19 ?_
    refine tu 20 ?_
    refine tu 21 ?_
    refine tu 22 ?_
    refine tu 23 ?_
    refine tu 24 ?_
    refine tk 25 ?_
    refine wpAnyH_done (by kernel_rfl) ?_ _
    have HBE := zs8 (HB4.out.trans ((show Below w4.heap.size w4 w4.drew from hHeld).mono HB4.out.size))
    clear hHeld
    exact zw9
   ·obtain ⟨j, hj⟩ : ∃ j, k = j + 1 := ⟨k - 1, by omega⟩
    have hjl : j < x.aff.length := by omega
    obtain ⟨_, b', off', up, ucp, e', _, hp⟩ := HV4.out.at j hjl
    cases e'
    have HPV : Hid (x.aff.getD (k - 1) V.zA = x.aff[j]) := zs8 (by rw [hj, Nat.add_sub_cancel, List.getD_eq_getElem?_getD, List.getElem?_eq_getElem hjl]; rfl)
    rw [HPV.out] at HAT
    clear HPV
    generalize x.aff[j] = p at *
    have q0 := hp.c0
    have q1 := hp.c1
    have wk : IntKind.i64.wrap ((k : Int) - 1) = (j : Int) := by rw [hj, IntWalk.i64_in _ (by omega)]; omega
    have j1 : (0 : Int) ≤ (j : Int) := by omega
    have j2 : (j : Int) < (x.aff.length : Int) := by omega
    have k0 : (0 : Int) < (k : Int) := by omega
    have k1 : decide ((0 : Int) < (k : Int)) = true := decide_eq_true k0
    have k2 : decide (0 < k) = true := decide_eq_true hk0
    have k3 : 0 < k := hk0
    have HK0 : Hid (decide (k = 0) = false) := zs8 (decide_eq_false (by omega))
    rw [HK0.out, Bool.false_or, Bool.and_true] at HAT
    clear hp hj HK0 hk0
    obtain ⟨r, hr⟩ : ∃ r, decide (V.affC p a < 0) = r := ⟨_, rfl⟩
    have HCE : Hid (decide (V.orI [Lib.compareInt p.sch a.sch, Lib.compareBytes p.name a.name] < 0) = r) := zs8 hr
    rw [hr] at HAT
    clear hr c3
    have c3 := hx3
    clear hx3
    go_wp2_with fail
    refine wp_region_held_drew (S := (fun W' => Below w4.heap.size w4 W' /\ W'.cell? ⟨w.heap.size, 3, none⟩ = some (.slice (some ⟨b, off, none⟩) x.aff.length pc) /\ W'.cell? ⟨b, off + j * 4, none⟩ = some (.int .i64 p.sch) /\ W'.cell? ⟨b, off + j * 4 + 1, none⟩ = some (.string ⟨p.name.toArray⟩) /\ W'.cell? ⟨X, 0, none⟩ = some (.int .i64 a.sch) /\ W'.cell? ⟨X, 1, none⟩ = some (.string ⟨a.name.toArray⟩))) (by kernel_rfl) (by (try dsimp only); exact ⟨(ztb _ _).drew, zb (ztb _ _).drew c3, zb (ztb _ _).drew q0, zb (ztb _ _).drew q1, zb (ztb _ _).drew d0, zb (ztb _ _).drew d1⟩) (fun hHeld => ?_)
    refine tk 0 ?_
    refine tk 1 ?_
    refine tk 2 ?_
    refine tk 3 ?_
    refine tk 4 ?_
    refine tk 5 ?_
    refine wpAnyH_take (i := 6) (v := (.int .i64 (j : Int))) rfl (by kernel_rfl) (by kernel_rfl) (by kernel_rfl) (fun _ _ _ h => h) (Or.inl ⟨by rfl, fun w' hSw => by go_simp; try rfl⟩) (by assumption) ?_
    try simp only [zs3, zs4, zs5, Act.put, zs6, List.set_cons_succ, List.set_cons_zero]
    refine tk 7 ?_
    refine tk 8 ?_
    refine tk 9 ?_
    refine tk 10 ?_
    refine tk 11 ?_
    refine tk 12 ?_
    refine wpAnyH_take (i := 13) (v := (.int .i64 (j : Int))) rfl (by kernel_rfl) (by kernel_rfl) (by kernel_rfl) (fun _ _ _ h => h) (Or.inl ⟨by rfl, fun w' hSw => by go_simp; try rfl⟩) (by assumption) ?_
    try simp only [zs3, zs4, zs5, Act.put, zs6, List.set_cons_succ, List.set_cons_zero]
    refine tk 14 ?_
    refine tk 15 ?_
    refine tk 16 ?_
    refine tk 17 ?_
    refine tk 18 ?_
    refine tk 19 ?_
    refine tk 20 ?_
    refine tk 21 ?_
    refine tk 22 ?_
    refine rd 23 fun K hK => ?_
    go_simp
    refine (znc p.sch a.sch p.name a.name _).mono ?_
    rintro e wy23 ⟨rfl, hby23⟩
    try dsimp only
    rw [HCE.out]
    refine hK.out _ _ ?_ (fun hHeld => nx ?_)
    ·(try dsimp only); go_split_ands; exact ⟨Below.trans (by assumption) (hby23.mono (Below.size (by assumption))), zte hby23, zte hby23, zte hby23, zte hby23, zte hby23⟩
    clear hK K
    refine tk 24 ?_
    refine tk 25 ?_
    refine wpAnyH_done (by kernel_rfl) ?_ _
    have HBE := zs8 (HB4.out.trans ((show Below w4.heap.size w4 wy23 from hHeld.1).mono HB4.out.size))
    clear hHeld
    rcases r with _ | _
    ·have HR : Hid (V.qa x = false) := zs8 (by rw [HOK.out]; exact HNO.out HAT.out)
     exact zvv
    ·have HY : Hid (V.xg x.aff (k + 1) = true) := zs8 (by rw [HST.out, HTO.out, HAT.out]; rfl)
     exact zw8
  ·exact zv5
def V.pkgs (x : V.Adv) : List (Int × V.Bs) := if V.qa x = true then x.aff.map V.pk else []
def pE (p : Int × V.Bs) : List Value := [.int .i64 p.1, .string ⟨p.2.toArray⟩]
theorem zia (p : Int × V.Bs) : (pE p).length = 2 := rfl
theorem pE_one (p : Int × V.Bs) : ∀ u ∈ pE p, u.oneCell' = true := by
 intro u hu
 simp [pE] at hu
 rcases hu with rfl | rfl <;> rfl
theorem pkgGI : xw 79 2 24 := by
 have h : (match Tryz.prog.info? 79 with | some i => i.size == 2 && (i.bytes == 24 && (match i.zero with | some z => z.cells.size == 2 | none => false)) | none => false) = true := by kernel_rfl
 unfold xw
 cases hq : Tryz.prog.info? 79 with
 | none => rw [hq] at h; cases h
 | some i =>
  exact zto
def zro (l : List (Int × V.Bs)) (w : World) (e : Ending) (w' : World) : Prop := ∃ u, e = .returned u /\ GSl 2 pE w' u l /\ Below w.heap.size w w'
theorem zq0 {l : List V.Aff} {k : Nat} (h : k < l.length) : (l.take (k + 1)).map V.pk = (l.take k).map V.pk ++ [V.pk l[k]] := by
 rw [List.take_succ_eq_append_getElem h, List.map_append]
 rfl
theorem pk_box {w W : World} {B : Nat} {a : V.Aff} {t : TypeId} (h : W = w.alloc (.cells #[.int .i64 a.sch, .string ⟨a.name.toArray⟩] t)) (hB : B = w.heap.size) : ∀ j u, (pE (V.pk a))[j]? = some u -> W.cell? ⟨B, j, none⟩ = some u := by
 intro j u hj
 rw [h, hB, zd, if_pos rfl]
 simpa [pE, V.pk] using hj
theorem zf9 (x : V.Adv) (v : Value) (w : World) (hm : zk w) (hv : Affs w v x.aff) (hid : x.id.length ≤ maxLen) (hl : x.aff.length ≤ maxLen) :
  Calls Tryz.prog 42 #[advV x v] w (zro (V.pkgs x) w) := by
 obtain ⟨pa, pc, rfl⟩ := hv.slice
 obtain ⟨hb, c0, c1, c2, c3⟩ := uj x (.slice pa x.aff.length pc) w
 have HM1 := zs8 (hm.below hb)
 have HV1 := zs8 (hv.below hb)
 have HB1 := zs8 hb
 have HL := zs8 (And.intro hid hl)
 clear hm hv hid hl hb
 unfold advV
 go_enter Tryz.func42, Tryz.ntmps42
 go_wp2_with fail
 generalize w.alloc (.cells #[.string ⟨x.id.toArray⟩, .int .i64 x.rev, .int .i64 x.sev, .slice pa x.aff.length pc] 41) = W1 at *
 refine (yy x (.slice pa x.aff.length pc) W1 HM1.out HV1.out HL.out.1 HL.out.2).mono ?_
 rintro e w2 ⟨rfl, hb2⟩
 replace c3 := zb hb2 c3
 have HV2 := zs8 (HV1.out.below hb2)
 have HBW := zs9 HB1 hb2
 clear hb2 c0 c1 c2 HM1 HV1 HB1
 rcases hok : V.qa x with _ | _
 ·have HR : Hid (V.pkgs x = []) := zs8 (by unfold V.pkgs; rw [if_neg (by rw [hok]; simp)])
  clear hok
  go_wp2
  go_ret
  exact ⟨_, rfl, by rw [HR.out]; exact GSl.nil _, HBW.out⟩
 ·have HR : Hid (V.pkgs x = x.aff.map V.pk) := zs8 (by unfold V.pkgs; rw [if_pos hok])
  have hl16 := (V.ql hok).len
  clear hok
  go_wp2_with fail
  go_loopw [3, 12] (fun ov iv wx => ∃ k : Nat, k ≤ x.aff.length /\ iv = .int .i64 k /\ GRow 79 2 pE wx w2.heap.size ov ((x.aff.take k).map V.pk) /\ Below w2.heap.size w2 wx) (fun _ iv _ => x.aff.length - (intOf iv).toNat)
  case atStart => exact ⟨0, Nat.zero_le _, rfl, GRow.nil _ _, ztb _ _⟩
  case round =>
   obtain ⟨k, hk, rfl, hrow, hbl⟩ := hrel
   obtain ⟨oa, oc, hov⟩ := hrow.slice
   subst hov
   have HROW := zs8 hrow
   have HBR := zs8 hbl
   clear hrow hbl
   by_cases hlt : k < x.aff.length
   ·obtain ⟨hwf, b, off, ua, uc, rfl, hblt, ha⟩ := HV2.out.at k hlt
    have HA := zs8 (ha.below HBR.out)
    have HST := zs8 (zq0 hlt)
    have hi1 : (0 : Int) ≤ (k : Int) := by omega
    have hi2 : (k : Int) < (x.aff.length : Int) := by omega
    have wr1 : IntKind.i64.wrap ((k : Int) + 1) = (k : Int) + 1 := IntWalk.i64_in _ (by omega)
    have HLK : Hid (((x.aff.take k).map V.pk).length ≤ 16) := zs8 (by rw [List.length_map, List.length_take]; omega)
    clear hwf ha hblt
    generalize x.aff[k] = a at *
    have e0 := HA.out.c0
    have e1 := HA.out.c1
    have e2 := HA.out.c2
    have e3 := HA.out.c3
    obtain ⟨hbZ, x0, x1, x2, x3⟩ := zas a (.slice ua a.its.length uc) wr
    have hbY : Below wr.heap.size wr ((wr.alloc (.cells #[.int .i64 a.sch, .string ⟨a.name.toArray⟩, .int .i64 a.rs, .slice ua a.its.length uc] 50)).alloc (.cells #[.int .i64 a.sch, .string ⟨a.name.toArray⟩] 79)) := hbZ.alloc hbZ.size _
    have HRZ := zs8 (GRow.below HROW.out hbY)
    have HBY := zs9 HBR hbY
    have HNW : Hid (∀ j u, (pE (V.pk a))[j]? = some u -> ((wr.alloc (.cells #[.int .i64 a.sch, .string ⟨a.name.toArray⟩, .int .i64 a.rs, .slice ua a.its.length uc] 50)).alloc (.cells #[.int .i64 a.sch, .string ⟨a.name.toArray⟩] 79)).cell? ⟨wr.heap.size + 1, j, none⟩ = some u) := zs8 (pk_box (w := wr.alloc (.cells #[.int .i64 a.sch, .string ⟨a.name.toArray⟩, .int .i64 a.rs, .slice ua a.its.length uc] 50)) (t := 79) rfl (by simp))
    have HNN : Hid (w2.heap.size ≤ ((wr.alloc (.cells #[.int .i64 a.sch, .string ⟨a.name.toArray⟩, .int .i64 a.rs, .slice ua a.its.length uc] 50)).alloc (.cells #[.int .i64 a.sch, .string ⟨a.name.toArray⟩] 79)).heap.size) := zs8 HBY.out.size
    clear hbZ hbY HROW HBR
    go_wp2_with (first | (refine zh zia (by decide) pE_one pkgGI (by decide) rfl _ _ 74 rfl Tryz.underlying74 w2.heap.size (.slice oa ((x.aff.take k).map V.pk).length oc) ((x.aff.take k).map V.pk) rfl HRZ.out (wr.heap.size + 1) (V.pk a) rfl HNW.out (by have := HLK.out; omega) HNN.out ?_
                          intro v8 w8 hr8 hg8
                          have HB8 := zs8 (HBY.out.trans (zq hg8 (GRow.block HRZ.out) (zta _) HNN.out))
                          have HR8 := zs8 hr8
                          clear hr8 hg8) | fail)
    go_roundw
    case rel => exact ⟨k + 1, by omega, by go_num, by rw [HST.out]; exact HR8.out, HB8.out⟩
    case measure => simp [intOf]; omega
   ·obtain rfl : k = x.aff.length := by omega
    have HBE := zs8 (HBW.out.trans (HBR.out.mono HBW.out.size))
    rw [List.take_length] at HROW
    have hlen : ((x.aff.take x.aff.length).map V.pk).length = (x.aff.map V.pk).length := by rw [List.take_length]
    clear HBR
    go_wp2
    go_ret
    exact ⟨_, rfl, by rw [HR.out, hlen]; exact GRow.gsl zia HROW.out, HBE.out⟩
theorem ze9 (x : V.Adv) (v : Value) (w : World) (hm : zk w) (hv : Affs w v x.aff) (hid : x.id.length ≤ maxLen) (hl : x.aff.length ≤ maxLen) :
  Calls Tryz.prog 43 #[advV x v] w (zro (V.pkgs x) w) := by
 obtain ⟨pa, pc, rfl⟩ := hv.slice
 obtain ⟨hb, c0, c1, c2, c3⟩ := uj x (.slice pa x.aff.length pc) w
 have HM1 := zs8 (hm.below hb)
 have HV0 := zs8 hv
 have HV1 := zs8 (hv.below hb)
 have HB1 := zs8 hb
 have HL := zs8 (And.intro hid hl)
 have HSZ : Hid ((w.alloc (.cells #[.string ⟨x.id.toArray⟩, .int .i64 x.rev, .int .i64 x.sev, .slice pa x.aff.length pc] 41)).heap.size = w.heap.size + 1) := zs8 (by simp)
 have C0 := zs8 c0
 have C1 := zs8 c1
 have C2 := zs8 c2
 have C3 := zs8 c3
 have hl2 : x.aff.length ≤ maxLen := hl
 unfold maxLen at hl2
 clear hm hv hid hl hb c0 c1 c2 c3
 unfold advV
 go_enter Tryz.func43, Tryz.ntmps43
 go_wp2_with fail
 generalize w.alloc (.cells #[.string ⟨x.id.toArray⟩, .int .i64 x.rev, .int .i64 x.sev, .slice pa x.aff.length pc] 41) = W1 at *
 go_loopw [3, 4] (fun ov iv wx => ∃ k : Nat, k ≤ x.aff.length /\ iv = .int .i64 k /\ (V.qa x = false -> k = 0) /\ GRow 79 2 pE wx W1.heap.size ov ((x.aff.take k).map V.pk) /\ Below W1.heap.size W1 wx) (fun _ iv _ => x.aff.length - (intOf iv).toNat)
 case atStart => exact ⟨0, Nat.zero_le _, rfl, fun _ => rfl, GRow.nil _ _, ztb _ _⟩
 case round =>
  obtain ⟨k, hk, rfl, hk0, hrow, hbl⟩ := hrel
  obtain ⟨oa, oc, hov⟩ := hrow.slice
  subst hov
  have hlen : ((x.aff.take k).map V.pk).length = k := by rw [List.length_map, List.length_take]; omega
  rw [hlen] at hrow ⊢
  clear hlen
  have HROW := zs8 hrow
  have HBR := zs8 hbl
  have HK0 := zs8 hk0
  have HBE := zs9 HB1 hbl
  have c0 := zb hbl C0.out
  have c1 := zb hbl C1.out
  have c2 := zb hbl C2.out
  have c3 := zb hbl C3.out
  clear hrow hbl hk0
  by_cases hlt : k < x.aff.length
  ·have hi1 : (0 : Int) ≤ (k : Int) := by omega
   have hi2 : (k : Int) < (x.aff.length : Int) := by omega
   go_wp2_with fail
   refine (zav x (.slice pa x.aff.length pc) wr (HM1.out.below HBR.out) (HV1.out.below HBR.out) HL.out.1 HL.out.2).mono ?_
   rintro e w2 ⟨rfl, hb2⟩
   replace c3 := zb hb2 c3
   have HROW2 := zs8 (GRow.below HROW.out hb2)
   have HBR2 := zs9 HBR hb2
   have HBE2 := zs9 HBE hb2
   clear c0 c1 c2 hb2 HROW HBR HBE
   rcases hok : V.qa x with _ | _
   ·have HR : Hid (V.pkgs x = []) := zs8 (by unfold V.pkgs; rw [if_neg (by rw [hok]; simp)])
    obtain rfl := HK0.out hok
    clear hok HK0 hlt
    go_wp2
    go_ret
    exact ⟨_, rfl, by rw [HR.out]; exact GRow.gsl zia HROW2.out, HBE2.out⟩
   ·have hl16 := (V.ql hok).len
    have HOK := zs8 hok
    clear hok HK0
    obtain ⟨hwf, b, off, ua, uc, rfl, hblt, ha⟩ := HV0.out.at k hlt
    have HA := zs8 (ha.below (HBE2.out))
    have HST := zs8 (zq0 hlt)
    have wr1 : IntKind.i64.wrap ((k : Int) + 1) = (k : Int) + 1 := IntWalk.i64_in _ (by omega)
    have HLK : Hid (((x.aff.take k).map V.pk).length ≤ 16) := zs8 (by rw [List.length_map, List.length_take]; omega)
    have HLT : Hid (w.heap.size < W1.heap.size /\ b < W1.heap.size) := zs8 (by have := HSZ.out; omega)
    clear hwf ha hblt
    generalize x.aff[k] = a at *
    have e0 := HA.out.c0
    have e1 := HA.out.c1
    have hbY : Below w2.heap.size w2 (w2.drew.alloc (.cells #[.int .i64 a.sch, .string ⟨a.name.toArray⟩] 79)) := (ztb _ w2).drew.alloc (zta _) _
    have HRZ := zs8 (GRow.below HROW2.out hbY)
    have HBY := zs9 HBR2 hbY
    have HNW : Hid (∀ j u, (pE (V.pk a))[j]? = some u -> (w2.drew.alloc (.cells #[.int .i64 a.sch, .string ⟨a.name.toArray⟩] 79)).cell? ⟨w2.drew.heap.size, j, none⟩ = some u) := zs8 (pk_box (w := w2.drew) (t := 79) rfl rfl)
    have HNN : Hid (W1.heap.size ≤ (w2.drew.alloc (.cells #[.int .i64 a.sch, .string ⟨a.name.toArray⟩] 79)).heap.size) := zs8 HBY.out.size
    replace c3 := zb (ztb _ w2).drew c3
    replace e0 := zb (ztb _ w2).drew e0
    replace e1 := zb (ztb _ w2).drew e1
    clear hbY HROW2 HBR2 HA
    go_wp2_with fail
    refine wp_region_held_drew (S := (fun W' => W'.cell? ⟨w.heap.size, 3, none⟩ = some (.slice (some ⟨b, off, none⟩) x.aff.length pc) /\ W'.cell? ⟨b, off + k * 4, none⟩ = some (.int .i64 a.sch) /\ W'.cell? ⟨b, off + k * 4 + 1, none⟩ = some (.string ⟨a.name.toArray⟩))) (by kernel_rfl) (⟨c3, e0, e1⟩) (fun hHeld => ?_)
    generalize w2.drew = wd at *
    refine tk 0 ?_
    refine tk 1 ?_
    refine tk 2 ?_
    refine tk 3 ?_
    refine tk 4 ?_
    refine tk 5 ?_
    refine tk 6 ?_
    refine tk 7 ?_
    refine tk 8 ?_
    refine tk 9 ?_
    refine tk 10 ?_
    refine tk 11 ?_
    refine tk 12 ?_
    refine tk 13 ?_
    refine rd 14 fun K hK => ?_
    go_simp
    refine hK.out _ _ ?_ (fun hHeld => nx ?_)
    ·(try dsimp only); exact ⟨zb ((ztb _ _).alloc (zta _) _) hHeld.1, zb ((ztb _ _).alloc (zta _) _) hHeld.2.1, zb ((ztb _ _).alloc (zta _) _) hHeld.2.2⟩
    clear hK K
    refine rd 15 fun K hK => ?_
    refine zlt zia (by decide) pE_one pkgGI (by decide) rfl _ _ 74 rfl Tryz.underlying74 W1.heap.size (.slice oa k oc) ((x.aff.take k).map V.pk) rfl HRZ.out wd.heap.size (V.pk a) rfl HNW.out (by have := HLK.out; omega) HNN.out ?_
    intro v8 w8 hr8 hg8
    try dsimp only
    refine hK.out _ _ ?_ (fun hHeld => nx ?_)
    ·(try dsimp only); exact ⟨zdp hg8 (GRow.block HRZ.out) HLT.out.1 hHeld.1, zdp hg8 (GRow.block HRZ.out) HLT.out.2 hHeld.2.1, zdp hg8 (GRow.block HRZ.out) HLT.out.2 hHeld.2.2⟩
    clear hK K
    refine tk 16 ?_
    refine wpAnyH_done (by kernel_rfl) ?_ _
    have HB8 := zs8 (HBY.out.trans (zq hg8 (GRow.block HRZ.out) (zta _) HNN.out))
    have HR8 := zs8 hr8
    clear hr8 hg8 hHeld c3 e0 e1
    go_wp2
    go_roundw
    case rel => exact ⟨k + 1, by omega, by go_num, fun h => (by rw [HOK.out] at h; cases h), by rw [HST.out]; exact HR8.out, HB8.out⟩
    case measure => simp [intOf]; omega
  ·obtain rfl : k = x.aff.length := by omega
   have HR : Hid (V.pkgs x = (x.aff.take x.aff.length).map V.pk) := zs8 (by
     unfold V.pkgs
     split
     · rw [List.take_length]
     · rename_i h
       rw [HK0.out (by simpa using h)]
       rfl)
   go_wp2
   go_ret
   exact ⟨_, rfl, by rw [HR.out]; exact GRow.gsl zia HROW.out, HBE.out⟩
open Go.RowKit
theorem zr8 : Tryz.prog.eqGuardType Tryz.prog.depth 79 = false := by kernel_rfl
theorem eq_pkg (x y : Int × V.Bs) (w : World) : (Op.equalIn 10000 79 (.agg #[.int .i64 x.1, .string ⟨x.2.toArray⟩]) (.agg #[.int .i64 y.1, .string ⟨y.2.toArray⟩])).run Tryz.prog w = .ok (decide (x = y)) w := by
 rw [run_equalIn_agg w 9999 79 _ _ (by kernel_rfl) (by kernel_rfl)]
 unfold Program.fieldsOf
 rw [Tryz.underlying79]
 simp only [Op.eqFields]
 simp [go_sem]
 obtain ⟨a, b⟩ := x
 obtain ⟨c, d⟩ := y
 by_cases h1 : a = c
 ·by_cases h2 : b = d
  ·simp [h1, h2]
  ·simp [h1, h2]
 ·simp [h1]
theorem neq_pkg (x : Int × V.Bs) (w : World) : (binOp .neq 79 (.agg #[.int .i64 x.1, .string ⟨x.2.toArray⟩]) (.agg #[.int .i64 x.1, .string ⟨x.2.toArray⟩])).run Tryz.prog w = .ok (.bool false) w := by
 rw [run_neq_struct, eq_pkg, decide_eq_true rfl]
 rfl
theorem GSl.pk {w : World} {a : Option Addr} {n cap : Nat} {l : List (Int × V.Bs)} (h : GSl 2 pE w (.slice a n cap) l) (j : Nat) (hj : j < l.length) : ∃ g off, a = some ⟨g, off, none⟩ /\ g < w.heap.size /\ w.cell? ⟨g, off + j * 2, none⟩ = some (.int .i64 l[j].1) /\ w.cell? ⟨g, off + j * 2 + 1, none⟩ = some (.string ⟨l[j].2.toArray⟩) := by
 obtain ⟨g, off, e, hg, hc⟩ := h.at j hj
 exact ⟨g, off, e, hg, hc 0 _ rfl, hc 1 _ rfl⟩
theorem zi6 (u v : Value) (l : List (Int × V.Bs)) (w : World) (hu : GSl 2 pE w u l) (hv : GSl 2 pE w v l) (hl : l.length ≤ maxLen) :
  Calls Tryz.prog 41 #[u, v] w fun e w' => e = .returned (.bool true) /\ Below w.heap.size w w' := by
 obtain ⟨ua, uc, rfl⟩ := hu.slice
 obtain ⟨va, vc, rfl⟩ := hv.slice
 have HU := zs8 hu
 have HV := zs8 hv
 unfold maxLen at hl
 clear hu hv
 go_enter Tryz.func41, Tryz.ntmps41
 go_wp2_with fail
 go_loopw [5] (fun iv W => ∃ k : Nat, k ≤ l.length /\ iv = .int .i64 k /\ Below w.heap.size w W) (fun iv _ => l.length - (intOf iv).toNat)
 case atStart => exact ⟨0, Nat.zero_le _, rfl, ztb _ _⟩
 case round =>
  obtain ⟨k, hk, rfl, hbr⟩ := hrel
  have HBR := zs8 hbr
  by_cases hlt : k < l.length
  ·obtain ⟨g, off, rfl, hg, x0, x1⟩ := HU.out.pk k hlt
   obtain ⟨g2, off2, rfl, hg2, y0, y1⟩ := HV.out.pk k hlt
   replace x0 := zb hbr x0
   replace x1 := zb hbr x1
   replace y0 := zb hbr y0
   replace y1 := zb hbr y1
   have i1 : (0 : Int) ≤ (k : Int) := by omega
   have i2 : (k : Int) < (l.length : Int) := by omega
   have wr1 : IntKind.i64.wrap ((k : Int) + 1) = (k : Int) + 1 := IntWalk.i64_in _ (by omega)
   have hgd := zr8
   have hneq := neq_pkg l[k]
   generalize l[k] = x at *
   clear HU HV hbr
   go_wp2_with fail
   go_quiet (fail)
   rename_i nq
   go_wp2
   go_roundw
   case rel => exact ⟨k + 1, by omega, by go_num, below_drewN HBR.out nq⟩
   case measure => simp [intOf]; omega
  ·obtain rfl : k = l.length := by omega
   go_wp2
   go_ret
   exact ⟨zc rfl, HBR.out⟩
end Go.Proofs.YtnhfaincdabdkaaGreatDoor
