/-
  Lemmas for the law.
-/
import Derived.Test.YtnhfaincdabdkaaGreatDoorC32x40
import Derived.Test.YtnhfaincdabdkaaGreatDoorC32x32
import Derived.Test.YtnhfaincdabdkaaGreatDoorC32x20
import Derived.Test.YtnhfaincdabdkaaGreatDoorC32x16
import Derived.Test.YtnhfaincdabdkaaGreatDoorC32x19
import Derived.Test.YtnhfaincdabdkaaGreatDoorC32x35
import Derived.Test.YtnhfaincdabdkaaGreatDoorC32x34
import Derived.Test.YtnhfaincdabdkaaGreatDoorC32x38
import Derived.Laws.StructEq
set_option linter.all false
set_option maxRecDepth 100000
set_option maxHeartbeats 6400000
namespace Go.Proofs.YtnhfaincdabdkaaGreatDoor
open Go.RowKit
def V.pkgs (x : V.Adv) : List (Int × V.Bs) := if V.jk x = true then x.aff.map V.pk else []
def pE (p : Int × V.Bs) : List Value := [.int .i64 p.1, .string ⟨p.2.toArray⟩]
theorem zcs (p : Int × V.Bs) : (pE p).length = 2 := rfl
theorem zgi (p : Int × V.Bs) : ∀ u ∈ pE p, u.oneCell' = true := by
 intro u hu
 simp [pE] at hu
 rcases hu with rfl | rfl <;> rfl
theorem zm3 : xj 79 2 24 := by
 have h : (match Tryz.prog.info? 79 with | some i => i.size == 2 && (i.bytes == 24 && (match i.zero with | some z => z.cells.size == 2 | none => false)) | none => false) = true := by kernel_rfl
 unfold xj
 cases hq : Tryz.prog.info? 79 with
 | none => rw [hq] at h; cases h
 | some i =>
  exact zu6
def PkgPost (l : List (Int × V.Bs)) (w : World) (e : Ending) (w' : World) : Prop := ∃ u, e = .returned u /\ GSl 2 pE w' u l /\ Below w.heap.size w w'
theorem pk_step {l : List V.Aff} {k : Nat} (h : k < l.length) : (l.take (k + 1)).map V.pk = (l.take k).map V.pk ++ [V.pk l[k]] := by
 rw [List.take_succ_eq_append_getElem h, List.map_append]
 rfl
theorem pk_box {w W : World} {B : Nat} {a : V.Aff} {t : TypeId} (h : W = w.alloc (.cells #[.int .i64 a.sch, .string ⟨a.name.toArray⟩] t)) (hB : B = w.heap.size) : ∀ j u, (pE (V.pk a))[j]? = some u -> W.cell? ⟨B, j, none⟩ = some u := by
 intro j u hj
 rw [h, hB, zc, if_pos rfl]
 simpa [pE, V.pk] using hj
theorem zcx (x : V.Adv) (v : Value) (w : World) (hm : zg w) (hv : Affs w v x.aff) (hid : x.id.length ≤ maxLen) (hl : x.aff.length ≤ maxLen) :
  Calls Tryz.prog 42 #[advV x v] w (PkgPost (V.pkgs x) w) := by
 obtain ⟨pa, pc, rfl⟩ := hv.slice
 obtain ⟨hb, c0, c1, c2, c3⟩ := zau x (.slice pa x.aff.length pc) w
 have HM1 := zuq (hm.below hb)
 have HV1 := zuq (hv.below hb)
 have HB1 := zuq hb
 have HL := zuq (And.intro hid hl)
 clear hm hv hid hl hb
 unfold advV
 go_enter Tryz.func42, Tryz.ntmps42
 go_wp2_with fail
 generalize w.alloc (.cells #[.string ⟨x.id.toArray⟩, .int .i64 x.rev, .int .i64 x.sev, .slice pa x.aff.length pc] 41) = W1 at *
 refine (uo x (.slice pa x.aff.length pc) W1 HM1.out HV1.out HL.out.1 HL.out.2).mono ?_
 rintro e w2 ⟨rfl, hb2⟩
 replace c3 := zb hb2 c3
 have HV2 := zuq (HV1.out.below hb2)
 have HBW := zur HB1 hb2
 clear hb2 c0 c1 c2 HM1 HV1 HB1
 rcases hok : V.jk x with _ | _
 ·have HR : Hid (V.pkgs x = []) := zuq (by unfold V.pkgs; rw [if_neg (by rw [hok]; simp)])
  clear hok
  go_wp2
  go_ret
  exact ⟨_, rfl, by rw [HR.out]; exact GSl.nil _, HBW.out⟩
 ·have HR : Hid (V.pkgs x = x.aff.map V.pk) := zuq (by unfold V.pkgs; rw [if_pos hok])
  have hl16 := (V.xm hok).len
  clear hok
  go_wp2_with fail
  go_loopw [3, 12] (fun ov iv wx => ∃ k : Nat, k ≤ x.aff.length /\ iv = .int .i64 k /\ GRow 79 2 pE wx w2.heap.size ov ((x.aff.take k).map V.pk) /\ Below w2.heap.size w2 wx) (fun _ iv _ => x.aff.length - (intOf iv).toNat)
  case atStart => exact ⟨0, Nat.zero_le _, rfl, GRow.nil _ _, zut _ _⟩
  case round =>
   obtain ⟨k, hk, rfl, hrow, hbl⟩ := hrel
   obtain ⟨oa, oc, hov⟩ := hrow.slice
   subst hov
   have HROW := zuq hrow
   have HBR := zuq hbl
   clear hrow hbl
   by_cases hlt : k < x.aff.length
   ·obtain ⟨hwf, b, off, ua, uc, rfl, hblt, ha⟩ := HV2.out.at k hlt
    have HA := zuq (ha.below HBR.out)
    have HST := zuq (pk_step hlt)
    have hi1 : (0 : Int) ≤ (k : Int) := by omega
    have hi2 : (k : Int) < (x.aff.length : Int) := by omega
    have wr1 : IntKind.i64.wrap ((k : Int) + 1) = (k : Int) + 1 := IntWalk.i64_in _ (by omega)
    have HLK : Hid (((x.aff.take k).map V.pk).length ≤ 16) := zuq (by rw [List.length_map, List.length_take]; omega)
    clear hwf ha hblt
    generalize x.aff[k] = a at *
    have e0 := HA.out.c0
    have e1 := HA.out.c1
    have e2 := HA.out.c2
    have e3 := HA.out.c3
    obtain ⟨hbZ, x0, x1, x2, x3⟩ := zcn a (.slice ua a.its.length uc) wr
    have hbY : Below wr.heap.size wr ((wr.alloc (.cells #[.int .i64 a.sch, .string ⟨a.name.toArray⟩, .int .i64 a.rs, .slice ua a.its.length uc] 50)).alloc (.cells #[.int .i64 a.sch, .string ⟨a.name.toArray⟩] 79)) := hbZ.alloc hbZ.size _
    have HRZ := zuq (GRow.below HROW.out hbY)
    have HBY := zur HBR hbY
    have HNW : Hid (∀ j u, (pE (V.pk a))[j]? = some u -> ((wr.alloc (.cells #[.int .i64 a.sch, .string ⟨a.name.toArray⟩, .int .i64 a.rs, .slice ua a.its.length uc] 50)).alloc (.cells #[.int .i64 a.sch, .string ⟨a.name.toArray⟩] 79)).cell? ⟨wr.heap.size + 1, j, none⟩ = some u) := zuq (pk_box (w := wr.alloc (.cells #[.int .i64 a.sch, .string ⟨a.name.toArray⟩, .int .i64 a.rs, .slice ua a.its.length uc] 50)) (t := 79) rfl (by simp))
    have HNN : Hid (w2.heap.size ≤ ((wr.alloc (.cells #[.int .i64 a.sch, .string ⟨a.name.toArray⟩, .int .i64 a.rs, .slice ua a.its.length uc] 50)).alloc (.cells #[.int .i64 a.sch, .string ⟨a.name.toArray⟩] 79)).heap.size) := zuq HBY.out.size
    clear hbZ hbY HROW HBR
    go_wp2_with (first | (refine zp zcs (by decide) zgi zm3 (by decide) rfl _ _ 74 rfl Tryz.underlying74 w2.heap.size (.slice oa ((x.aff.take k).map V.pk).length oc) ((x.aff.take k).map V.pk) rfl HRZ.out (wr.heap.size + 1) (V.pk a) rfl HNW.out (by have := HLK.out; omega) HNN.out ?_
                          intro v8 w8 hr8 hg8
                          have HB8 := zuq (HBY.out.trans (zl hg8 (GRow.block HRZ.out) (zus _) HNN.out))
                          have HR8 := zuq hr8
                          clear hr8 hg8) | fail)
    go_roundw
    case rel => exact ⟨k + 1, by omega, by go_num, by rw [HST.out]; exact HR8.out, HB8.out⟩
    case measure => simp [intOf]; omega
   ·obtain rfl : k = x.aff.length := by omega
    have HBE := zuq (HBW.out.trans (HBR.out.mono HBW.out.size))
    rw [List.take_length] at HROW
    have hlen : ((x.aff.take x.aff.length).map V.pk).length = (x.aff.map V.pk).length := by rw [List.take_length]
    clear HBR
    go_wp2
    go_ret
    exact ⟨_, rfl, by rw [HR.out, hlen]; exact GRow.gsl zcs HROW.out, HBE.out⟩
theorem zgk : Tryz.prog.eqGuardType Tryz.prog.depth 79 = false := by kernel_rfl
theorem eq_pkg (x y : Int × V.Bs) (w : World) : (Op.equalIn 10000 79 (.agg #[.int .i64 x.1, .string ⟨x.2.toArray⟩]) (.agg #[.int .i64 y.1, .string ⟨y.2.toArray⟩])).run Tryz.prog w = .ok (decide (x = y)) w := by
 rw [run_equalIn_agg w 9999 79 _ _ (by kernel_rfl) (by kernel_rfl)]
 unfold Program.fieldsOf
 rw [Tryz.underlying79]
 simp only [Op.eqFields]
 simp [go_sem]
 obtain ⟨a, b⟩ := x
 obtain ⟨c, d⟩ := y
 by_cases h1 : a = c
 ·by_cases h2 : b = d
  ·simp [h1, h2]
  ·simp [h1, h2]
 ·simp [h1]
theorem znk (x y : Int × V.Bs) (w : World) : (binOp .eql 79 (.agg #[.int .i64 x.1, .string ⟨x.2.toArray⟩]) (.agg #[.int .i64 y.1, .string ⟨y.2.toArray⟩])).run Tryz.prog w = .ok (.bool (decide (x = y))) w := by
 rw [run_eql_struct, eq_pkg]
 rfl
theorem zf2 (n m : Int) (s t : V.Bs) (w : World) :
  Calls Tryz.prog 75 #[.agg #[.int .i64 n, .string ⟨s.toArray⟩], .agg #[.int .i64 m, .string ⟨t.toArray⟩]] w fun e w' => e = .returned (.bool (decide (V.pkC (n, s) (m, t) < 0))) /\ Below w.heap.size w w' := zpa n m s t w
theorem GSl.pk {w : World} {a : Option Addr} {n cap : Nat} {l : List (Int × V.Bs)} (h : GSl 2 pE w (.slice a n cap) l) (j : Nat) (hj : j < l.length) : ∃ g off, a = some ⟨g, off, none⟩ /\ g < w.heap.size /\ w.cell? ⟨g, off + j * 2, none⟩ = some (.int .i64 l[j].1) /\ w.cell? ⟨g, off + j * 2 + 1, none⟩ = some (.string ⟨l[j].2.toArray⟩) := by
 obtain ⟨g, off, e, hg, hc⟩ := h.at j hj
 exact ⟨g, off, e, hg, hc 0 _ rfl, hc 1 _ rfl⟩
theorem zfy {w W : World} {B : Nat} {a : Int × V.Bs} {t : TypeId} (h : W = w.alloc (.cells #[.int .i64 a.1, .string ⟨a.2.toArray⟩] t)) (hB : B = w.heap.size) : ∀ j u, (pE a)[j]? = some u -> W.cell? ⟨B, j, none⟩ = some u := by
 intro j u hj
 rw [h, hB, zc, if_pos rfl]
 simpa [pE] using hj
theorem zxp {P : Prop} (h : P := by
 (try dsimp only); exact ⟨hHeld.1.trans (hb7.mono hHeld.1.size), zb hb7 hHeld.2.1, zb hb7 hHeld.2.2.1, zb hb7 hHeld.2.2.2.1, zb hb7 hHeld.2.2.2.2⟩) : P := h
theorem zq9 (v : Value) (l : List (Int × V.Bs)) (p : Int × V.Bs) (w : World) (hv : GSl 2 pE w v l) (hl : l.length ≤ 1000) :
  Calls Tryz.prog 62 #[v, .agg #[.int .i64 p.1, .string ⟨p.2.toArray⟩]] w fun e w' => ∃ u, e = .returned u /\ GRow 79 2 pE w' w.heap.size u (V.addP p l) /\ Below w.heap.size w w' := by
 obtain ⟨va, vc, rfl⟩ := hv.slice
 have hb0 : Below w.heap.size w (w.alloc (.cells #[.int .i64 p.1, .string ⟨p.2.toArray⟩] 79)) := (zut _ w).alloc (zus _) _
 have HB0 := zuq hb0
 have HV := zuq (hv.below hb0)
 have p0 : (w.alloc (.cells #[.int .i64 p.1, .string ⟨p.2.toArray⟩] 79)).cell? ⟨w.heap.size, 0, none⟩ = some (.int .i64 p.1) := by rw [World.cell?_alloc_new]; rfl
 have p1 : (w.alloc (.cells #[.int .i64 p.1, .string ⟨p.2.toArray⟩] 79)).cell? ⟨w.heap.size, 1, none⟩ = some (.string ⟨p.2.toArray⟩) := by rw [World.cell?_alloc_new]; rfl
 have Z0 := zuq p0
 have Z1 := zuq p1
 clear hb0 hv p0 p1
 go_enter Tryz.func62, Tryz.ntmps62
 go_wp2_with fail
 generalize w.alloc (.cells #[.int .i64 p.1, .string ⟨p.2.toArray⟩] 79) = w0 at *
 go_loopw [5, 6, 7] (fun ov dv iv wx => ∃ (k : Nat) (q : List (Int × V.Bs) × Bool), k ≤ l.length /\ iv = .int .i64 k /\ (q = V.kd p l k /\ dv = .bool q.2) /\ GRow 79 2 pE wx w0.heap.size ov q.1 /\ Below w0.heap.size w0 wx) (fun _ _ iv _ => l.length - (intOf iv).toNat)
 case atStart => exact ⟨0, _, Nat.zero_le _, rfl, ⟨rfl, rfl⟩, GRow.nil _ _, zut _ _⟩
 case round =>
  obtain ⟨k, ⟨o, d⟩, hk, rfl, ⟨hq, hdv⟩, hrow, hbl⟩ := hrel
  simp only at hdv hrow
  subst hdv
  obtain ⟨oa, oc, hov⟩ := hrow.slice
  subst hov
  have HROW := zuq hrow
  have HBR := zuq hbl
  have HQ := zuq hq
  have P0 := zuq (zb hbl Z0.out)
  have P1 := zuq (zb hbl Z1.out)
  have HLO : Hid (o.length ≤ 1001) := zuq (by have := (V.zel (p := p) (l := l) k hk).2.1; rw [← hq] at this; simp only at this; omega)
  clear hrow hbl hq
  by_cases hlt : k < l.length
  ·obtain ⟨g, off, rfl, hg, hx0, hx1⟩ := HV.out.pk k hlt
   have X0 := zuq hx0
   have X1 := zuq hx1
   have x0 := zb HBR.out hx0
   have x1 := zb HBR.out hx1
   have HST := zuq (V.zcd (p := p) hlt)
   rw [← HQ.out] at HST
   simp only at HST
   have i1 : (0 : Int) ≤ (k : Int) := by omega
   have i2 : (k : Int) < (l.length : Int) := by omega
   have wr1 : IntKind.i64.wrap ((k : Int) + 1) = (k : Int) + 1 := IntWalk.i64_in _ (by omega)
   generalize l[k] = x at *
   clear hx0 hx1 HV
   rcases d with _ | _
   ·by_cases hls : V.pkC p x < 0
    ·have HN : Hid (V.kd p l (k + 1) = (o ++ [p] ++ [x], true)) := zuq (by rw [HST.out]; simp [hls])
     have hld : decide (V.pkC p x < 0) = true := decide_eq_true hls
     clear HST hls
     go_wp2_with fail
     refine wp_region_held_drew (S := (fun W' => Below wr.heap.size wr W' /\ W'.cell? ⟨w.heap.size, 0, none⟩ = some (.int .i64 p.1) /\ W'.cell? ⟨w.heap.size, 1, none⟩ = some (.string ⟨p.2.toArray⟩) /\ W'.cell? ⟨g, off + k * 2, none⟩ = some (.int .i64 x.1) /\ W'.cell? ⟨g, off + k * 2 + 1, none⟩ = some (.string ⟨x.2.toArray⟩))) (by kernel_rfl) (⟨(zut _ _).drew, zb (zut _ _).drew P0.out, zb (zut _ _).drew P1.out, zb (zut _ _).drew x0, zb (zut _ _).drew x1⟩) (fun hHeld => ?_)
     refine tk 0 ?_
     refine tk 1 ?_
     refine tk 2 ?_
     refine tk 3 ?_
     refine tk 4 ?_
     refine tk 5 ?_
     refine tk 6 ?_
     refine tk 7 ?_
     refine rd 8 fun K hK => ?_
     go_simp
     refine (zf2 p.1 x.1 p.2 x.2 _).mono ?_
     rintro e w7 ⟨rfl, hb7⟩
     try dsimp only
     refine hK.out _ _ ?_ (fun hHeld => nx ?_)
     ·exact zxp
     clear hK K
     refine tk 9 ?_
     refine wpAnyH_done (by kernel_rfl) ?_ _
     rw [show V.pkC (p.1, p.2) (x.1, x.2) = V.pkC p x from rfl, hld]
     have HBR7 := zuq (HBR.out.trans (hHeld.1.mono HBR.out.size))
     have HROW7 := zuq (GRow.below HROW.out hHeld.1)
     have q0 := hHeld.2.1
     have q1 := hHeld.2.2.1
     clear hb7 hHeld x0 x1 hld
     have hbYf : Below w7.heap.size w7 (w7.alloc (.cells #[.int .i64 p.1, .string ⟨p.2.toArray⟩] 79)) := (zut _ _).alloc (zus _) _
     have HRZf := zuq (GRow.below HROW7.out hbYf)
     have HBYf := zur HBR7 hbYf
     have HNWf : Hid (∀ j u, (pE p)[j]? = some u -> (w7.alloc (.cells #[.int .i64 p.1, .string ⟨p.2.toArray⟩] 79)).cell? ⟨w7.heap.size, j, none⟩ = some u) := zuq (zfy (w := w7) (t := 79) rfl rfl)
     clear hbYf
     go_wp2_with (first | (refine zp zcs (by decide) zgi zm3 (by decide) rfl _ _ 74 rfl Tryz.underlying74 w0.heap.size _ o rfl HRZf.out w7.heap.size p rfl HNWf.out (by have := HLO.out; (try simp only [List.length_append, List.length_cons, List.length_nil]); omega) HBYf.out.size ?_
                           intro vf wf hrf hgf
                           have HBRf := zuq (HBYf.out.trans (zl hgf (GRow.block HRZf.out) (zus _) HBYf.out.size))
                           have HROWf := zuq hrf
                           clear hgf hrf) | fail)
     clear q0 q1
     have HX : Hid (Below w0.heap.size w0 wf) := HBRf
     have y0 := zb HX.out X0.out
     have y1 := zb HX.out X1.out
     have z0 := zb HX.out Z0.out
     have z1 := zb HX.out Z1.out
     have hgd := zgk
     have heq := znk x p
     by_cases hxp : x = p
     all_goals
      first | (rw [decide_eq_true hxp] at heq) | (rw [decide_eq_false hxp] at heq)
      have HXP := zuq hxp
      clear hxp
      go_wp2_with fail
      go_quiet (fail)
      rename_i nq
      have hbq : Below wf.heap.size wf (wf.drewN nq) := below_drewN (zut _ _) nq
      have HROWq := zuq (GRow.below HROWf.out hbq)
      have HBRq := zur HX hbq
      replace y0 := zb hbq y0
      replace y1 := zb hbq y1
      generalize wf.drewN nq = wq at *
      clear hbq z0 z1 heq hgd
      have hbYe : Below wq.heap.size wq (wq.alloc (.cells #[.int .i64 x.1, .string ⟨x.2.toArray⟩] 79)) := (zut _ _).alloc (zus _) _
      have HRZe := zuq (GRow.below HROWq.out hbYe)
      have HBYe := zur HBRq hbYe
      have HNWe : Hid (∀ j u, (pE x)[j]? = some u -> (wq.alloc (.cells #[.int .i64 x.1, .string ⟨x.2.toArray⟩] 79)).cell? ⟨wq.heap.size, j, none⟩ = some u) := zuq (zfy (w := wq) (t := 79) rfl rfl)
      clear hbYe
      go_wp2_with (first | (refine zp zcs (by decide) zgi zm3 (by decide) rfl _ _ 74 rfl Tryz.underlying74 w0.heap.size _ (o ++ [p]) rfl HRZe.out wq.heap.size x rfl HNWe.out (by have := HLO.out; (try simp only [List.length_append, List.length_cons, List.length_nil]); omega) HBYe.out.size ?_
                            intro ve we hre hge
                            have HBRe := zuq (HBYe.out.trans (zl hge (GRow.block HRZe.out) (zus _) HBYe.out.size))
                            have HROWe := zuq hre
                            clear hge hre) | fail)
      go_roundw
      case rel => exact ⟨k + 1, _, by omega, by go_num, ⟨HN.out.symm, rfl⟩, HROWe.out, HBRe.out⟩
      case measure => simp [intOf]; omega
    ·have hld : decide (V.pkC p x < 0) = false := decide_eq_false hls
     have HN : Hid (V.kd p l (k + 1) = (o ++ [x], decide (x = p))) := zuq (by rw [HST.out]; simp [hls])
     clear HST hls
     go_wp2_with fail
     refine wp_region_held_drew (S := (fun W' => Below wr.heap.size wr W' /\ W'.cell? ⟨w.heap.size, 0, none⟩ = some (.int .i64 p.1) /\ W'.cell? ⟨w.heap.size, 1, none⟩ = some (.string ⟨p.2.toArray⟩) /\ W'.cell? ⟨g, off + k * 2, none⟩ = some (.int .i64 x.1) /\ W'.cell? ⟨g, off + k * 2 + 1, none⟩ = some (.string ⟨x.2.toArray⟩))) (by kernel_rfl) (⟨(zut _ _).drew, zb (zut _ _).drew P0.out, zb (zut _ _).drew P1.out, zb (zut _ _).drew x0, zb (zut _ _).drew x1⟩) (fun hHeld => ?_)
     refine tk 0 ?_
     refine tk 1 ?_
     refine tk 2 ?_
     refine tk 3 ?_
     refine tk 4 ?_
     refine tk 5 ?_
     refine tk 6 ?_
     refine tk 7 ?_
     refine rd 8 fun K hK => ?_
     go_simp
     refine (zf2 p.1 x.1 p.2 x.2 _).mono ?_
     rintro e w7 ⟨rfl, hb7⟩
     try dsimp only
     refine hK.out _ _ ?_ (fun hHeld => nx ?_)
     ·exact zxp
     clear hK K
     refine tk 9 ?_
     refine wpAnyH_done (by kernel_rfl) ?_ _
     rw [show V.pkC (p.1, p.2) (x.1, x.2) = V.pkC p x from rfl, hld]
     have HBR7 := zuq (HBR.out.trans (hHeld.1.mono HBR.out.size))
     have HROW7 := zuq (GRow.below HROW.out hHeld.1)
     clear hb7 hHeld x0 x1 hld
     have HX : Hid (Below w0.heap.size w0 w7) := HBR7
     have y0 := zb HX.out X0.out
     have y1 := zb HX.out X1.out
     have z0 := zb HX.out Z0.out
     have z1 := zb HX.out Z1.out
     have hgd := zgk
     have heq := znk x p
     by_cases hxp : x = p
     all_goals
      first | (rw [decide_eq_true hxp] at heq) | (rw [decide_eq_false hxp] at heq)
      have HXP := zuq hxp
      clear hxp
      go_wp2_with fail
      go_quiet (fail)
      rename_i nq
      have hbq : Below w7.heap.size w7 (w7.drewN nq) := below_drewN (zut _ _) nq
      have HROWq := zuq (GRow.below HROW7.out hbq)
      have HBRq := zur HX hbq
      replace y0 := zb hbq y0
      replace y1 := zb hbq y1
      generalize w7.drewN nq = wq at *
      clear hbq z0 z1 heq hgd
      have hbYe : Below wq.heap.size wq (wq.alloc (.cells #[.int .i64 x.1, .string ⟨x.2.toArray⟩] 79)) := (zut _ _).alloc (zus _) _
      have HRZe := zuq (GRow.below HROWq.out hbYe)
      have HBYe := zur HBRq hbYe
      have HNWe : Hid (∀ j u, (pE x)[j]? = some u -> (wq.alloc (.cells #[.int .i64 x.1, .string ⟨x.2.toArray⟩] 79)).cell? ⟨wq.heap.size, j, none⟩ = some u) := zuq (zfy (w := wq) (t := 79) rfl rfl)
      clear hbYe
      go_wp2_with (first | (refine zp zcs (by decide) zgi zm3 (by decide) rfl _ _ 74 rfl Tryz.underlying74 w0.heap.size _ o rfl HRZe.out wq.heap.size x rfl HNWe.out (by have := HLO.out; (try simp only [List.length_append, List.length_cons, List.length_nil]); omega) HBYe.out.size ?_
                            intro ve we hre hge
                            have HBRe := zuq (HBYe.out.trans (zl hge (GRow.block HRZe.out) (zus _) HBYe.out.size))
                            have HROWe := zuq hre
                            clear hge hre) | fail)
      go_roundw
      case rel => exact ⟨k + 1, _, by omega, by go_num, ⟨HN.out.symm, by first | (rw [decide_eq_true HXP.out]) | (rw [decide_eq_false HXP.out])⟩, HROWe.out, HBRe.out⟩
      case measure => simp [intOf]; omega
   ·have HN : Hid (V.kd p l (k + 1) = (o ++ [x], true)) := zuq (by rw [HST.out]; simp)
    clear HST
    go_wp2_with fail
    go_quiet (fail)
    have hbr : Below wr.heap.size wr (wr.drewN nq) := below_drewN (zut _ _) nq
    have HROW7 := zuq (GRow.below HROW.out hbr)
    have HBR7 := zur HBR hbr
    generalize wr.drewN nq = w7 at *
    clear nq
    clear hbr x0 x1
    have HX : Hid (Below w0.heap.size w0 w7) := HBR7
    have y0 := zb HX.out X0.out
    have y1 := zb HX.out X1.out
    have z0 := zb HX.out Z0.out
    have z1 := zb HX.out Z1.out
    have hgd := zgk
    have heq := znk x p
    by_cases hxp : x = p
    all_goals
     first | (rw [decide_eq_true hxp] at heq) | (rw [decide_eq_false hxp] at heq)
     have HXP := zuq hxp
     clear hxp
     go_wp2_with fail
     go_quiet (fail)
     rename_i nq
     have hbq : Below w7.heap.size w7 (w7.drewN nq) := below_drewN (zut _ _) nq
     have HROWq := zuq (GRow.below HROW7.out hbq)
     have HBRq := zur HX hbq
     replace y0 := zb hbq y0
     replace y1 := zb hbq y1
     generalize w7.drewN nq = wq at *
     clear hbq z0 z1 heq hgd
     have hbYe : Below wq.heap.size wq (wq.alloc (.cells #[.int .i64 x.1, .string ⟨x.2.toArray⟩] 79)) := (zut _ _).alloc (zus _) _
     have HRZe := zuq (GRow.below HROWq.out hbYe)
     have HBYe := zur HBRq hbYe
     have HNWe : Hid (∀ j u, (pE x)[j]? = some u -> (wq.alloc (.cells #[.int .i64 x.1, .string ⟨x.2.toArray⟩] 79)).cell? ⟨wq.heap.size, j, none⟩ = some u) := zuq (zfy (w := wq) (t := 79) rfl rfl)
     clear hbYe
     go_wp2_with (first | (refine zp zcs (by decide) zgi zm3 (by decide) rfl _ _ 74 rfl Tryz.underlying74 w0.heap.size _ o rfl HRZe.out wq.heap.size x rfl HNWe.out (by have := HLO.out; (try simp only [List.length_append, List.length_cons, List.length_nil]); omega) HBYe.out.size ?_
                           intro ve we hre hge
                           have HBRe := zuq (HBYe.out.trans (zl hge (GRow.block HRZe.out) (zus _) HBYe.out.size))
                           have HROWe := zuq hre
                           clear hge hre) | fail)
     go_roundw
     case rel => exact ⟨k + 1, _, by omega, by go_num, ⟨HN.out.symm, rfl⟩, HROWe.out, HBRe.out⟩
     case measure => simp [intOf]; omega
  ·obtain rfl : k = l.length := by omega
   have HBE := zuq (HB0.out.trans (HBR.out.mono HB0.out.size))
   have q0 := P0.out
   have q1 := P1.out
   rcases d with _ | _
   ·have HR : Hid (V.addP p l = o ++ [p]) := zuq (by unfold V.addP; rw [← HQ.out]; rfl)
    clear HQ
    have hbYf : Below wr.heap.size wr (wr.alloc (.cells #[.int .i64 p.1, .string ⟨p.2.toArray⟩] 79)) := (zut _ _).alloc (zus _) _
    have HRZf := zuq (GRow.below HROW.out hbYf)
    have HBYf := zur HBR hbYf
    have HNWf : Hid (∀ j u, (pE p)[j]? = some u -> (wr.alloc (.cells #[.int .i64 p.1, .string ⟨p.2.toArray⟩] 79)).cell? ⟨wr.heap.size, j, none⟩ = some u) := zuq (zfy (w := wr) (t := 79) rfl rfl)
    clear hbYf
    go_wp2_with (first | (refine zp zcs (by decide) zgi zm3 (by decide) rfl _ _ 74 rfl Tryz.underlying74 w0.heap.size _ o rfl HRZf.out wr.heap.size p rfl HNWf.out (by have := HLO.out; (try simp only [List.length_append, List.length_cons, List.length_nil]); omega) HBYf.out.size ?_
                          intro vf wf hrf hgf
                          have HBRf := zuq (HBYf.out.trans (zl hgf (GRow.block HRZf.out) (zus _) HBYf.out.size))
                          have HROWf := zuq hrf
                          clear hgf hrf) | fail)
    have HBF := zuq (HB0.out.trans (HBRf.out.mono HB0.out.size))
    go_ret
    exact ⟨_, rfl, by rw [HR.out]; exact GRow.weaken HROWf.out HB0.out.size, HBF.out⟩
   ·have HR : Hid (V.addP p l = o) := zuq (by unfold V.addP; rw [← HQ.out]; rfl)
    clear HQ q0 q1
    go_wp2
    go_ret
    exact ⟨_, rfl, by rw [HR.out]; exact GRow.weaken HROW.out HB0.out.size, HBE.out⟩
open Go.RowKit
theorem zbm {α : Type} {enc : α -> List Value} {k : Nat} {T : TypeId} {ops : Array Oper} {o : Oper} {a : Act} {w : World} {K : Act -> World -> Prop} {Q : Exit -> Act -> World -> Prop} {E : Prop} (hk : ∀ x, (enc x).length = k) (hk0 : 0 < k) (h1c : ∀ x, ∀ u ∈ enc x, u.oneCell' = true) {bytes : Nat} (hi : xj T k bytes) (hby : bytes ≤ 1000) (hgd : o.guard = none) (s x : Operand) (S : TypeId)
  (ho : o.op = .call { callee := .builtin .append, args := #[s, x], argTypes := #[S, S] }) (hu : Tryz.prog.underlying S = some (.slice T))
  (N : Nat) (v : Value) (l : List α) (hs : a.eval s = v) (hown : GRow T k enc w N v l) (b : Nat) (c : α) (hx : a.eval x = .slice (some ⟨b, 0, none⟩) 1 1) (hr : ∀ j u, (enc c)[j]? = some u -> w.cell? ⟨b, j, none⟩ = some u) (hl : l.length ≤ 900000) (hN : N ≤ w.heap.size)
  (h : ∀ v' w', GRow T k enc w' N v' (l ++ [c]) -> w.grownBy w' v.ownBlock -> (v'.ownBlock = v.ownBlock ∨ v'.ownBlock = some w.heap.size) -> K (a.put o.dst v') w') : if Region.wanted o (yielded ops a.tmps) = true then Oper.wp Tryz.prog o a w K Q else E := by
 rw [if_pos (by simp [Region.wanted, hgd])]
 obtain ⟨ie, z, hie, hz, h1, h2, h3⟩ := hi
 obtain ⟨v', w', hr', ho', hg, _, hob⟩ := run_append_own_at (P := Tryz.prog) w N S o.type T ie z k bytes hu hie hz h1 h2 h3 hk0 v l.length (l.flatMap enc) hown ⟨b, 0, none⟩ 1 1 (enc c) (by rw [hk]; omega) (fun j u hj => by
   rw [Addr.add_mid, Nat.zero_add]
   exact hr j u hj) (h1c c) (by unfold maxLen; omega) (by
     have : (l.length + 1) * bytes ≤ 1000001 * 1000 := Nat.mul_le_mul (by omega) hby
     omega) hN
 unfold Oper.wp execOp
 simp only [ho, resolve, invoke, builtin, Sem.run_bind, Sem.run_pure, Result.andThen_ok, List.map_toArray, List.map_cons, List.map_nil, hs, hx, hr']
 refine h v' w' ?_ hg hob
 unfold GRow
 rw [List.length_append, List.flatMap_append]
 simpa using ho'
open Go.RowKit
theorem zgg {ops : Array Oper} {o : Oper} {a : Act} {w : World} {K : Act -> World -> Prop} {Q : Exit -> Act -> World -> Prop} {E : Prop} (hgd : o.guard = none) (v : Value) (he : (execOp a.eval o).run Tryz.prog w = .ok (.value v) w)
  (h : K (a.put o.dst v) w) : if Region.wanted o (yielded ops a.tmps) = true then Oper.wp Tryz.prog o a w K Q else E := by
 rw [if_pos (by simp [Region.wanted, hgd])]
 unfold Oper.wp
 rw [he]
 exact h
theorem zgh {ops : Array Oper} {o : Oper} {a : Act} {w : World} {K : Act -> World -> Prop} {Q : Exit -> Act -> World -> Prop} {E : Prop} (hgd : o.guard = none) (ty : TypeId) (x y : Operand) (ho : o.op = .store ty x y)
  (b off : Nat) (hx : a.eval x = .pointer (some ⟨b, off, none⟩)) (v : Value) (hy : a.eval y = v) (u : Value) (hc : w.cell? ⟨b, off, none⟩ = some u) (hf : w.frozen? ⟨b, off, none⟩ = false) (hi : (Tryz.prog.info? ty).map (·.size) = some 1) (h1 : v.oneCell' = true)
  (h : K (a.put o.dst undef) (w.setCell ⟨b, off, none⟩ v)) : if Region.wanted o (yielded ops a.tmps) = true then Oper.wp Tryz.prog o a w K Q else E := by
 rw [if_pos (by simp [Region.wanted, hgd])]
 unfold Oper.wp execOp
 simp only [ho, hx, hy, Instr.storeAt, Instr.sureAddr, Sem.run_bind, Sem.run_pure, Result.andThen_ok, zsc hc hf hi h1]
 exact h
theorem zw {W W' : World} {row : Option Nat} {b o : Nat} {u : Value} (hg : W.grownBy W' row) (hb : row ≠ some b) (h : W.cell? ⟨b, o, none⟩ = some u) : W'.cell? ⟨b, o, none⟩ = some u := hg.cell h (fun e => hb e.symm)
structure R18 (wr W : World) (X : Nat) (rs : Int) (u : Value) (its : List V.Itv) : Prop where
 below : Below wr.heap.size wr W
 heap : W.heap[X]? = some (.cells #[.int .i64 rs, u] 48 (0, 0))
 itvs : Itvs W u its
 own : ∀ c, u.ownBlock = some c -> wr.heap.size ≤ c
 base : wr.heap.size ≤ X
theorem R18.two {wr wd w7 W9 : World} {o : Obj} {rs : Int} {u : Value} {its : List V.Itv} (hz : wr.heap.size ≤ wd.heap.size) (hu : Itvs w7 u its) (how : ∀ c, u.ownBlock = some c -> wd.heap.size ≤ c) (hb7 : Below wd.heap.size wd w7) (hb : Below wr.heap.size wr (w7.alloc o)) (hp : PutAt (w7.alloc o) W9 w7.heap.size #[.int .i64 rs, u] 48) : R18 wr W9 w7.heap.size rs u its := by
 have hz7 : wr.heap.size ≤ w7.heap.size := Nat.le_trans hz hb7.size
 refine ⟨hp.below hb hz7, hp.here, (hu.below ((zut _ w7).alloc (zus _) o)).grown hp.grown (fun hne c hc e => ?_), (fun c hc => by have := how c hc; omega), hz7⟩
 have := hu.lt hne hc
 cases e
 omega
theorem VInv.fin {V0 : World} {N0 O : Nat} {i r s v : Value} {us : List Fs} {W w8 : World} {p : Fs} {v8 : Value} (h : VInv V0 N0 O i r s v us W) (hr8 : GRow 50 4 fE w8 O v8 (us ++ [p])) (hg8 : W.grownBy w8 v.ownBlock) (ho8 : v8.ownBlock = v.ownBlock ∨ v8.ownBlock = some W.heap.size) (hp : FOk W v p) (how : ∀ c, p.2.v.ownBlock = some c -> O < c) :
  ∃ va vc, v8 = .slice va (us.length + 1) vc /\ w8.cell? ⟨O, 3, none⟩ = some v /\ w8.frozen? ⟨O, 3, none⟩ = false /\ VInv V0 N0 O i r s v8 (us ++ [p]) (w8.setCell ⟨O, 3, none⟩ v8) := by
 have hk8 := h.invKept hg8
 have hfr := h.row.add hr8 hg8 ho8 hp
 obtain ⟨va, vc, e⟩ := hfr.slice
 exact ⟨va, vc, by rw [e]; simp, (yx hk8).2.2.2, zi4 hk8, h.append hfr hg8 how⟩
end Go.Proofs.YtnhfaincdabdkaaGreatDoor
