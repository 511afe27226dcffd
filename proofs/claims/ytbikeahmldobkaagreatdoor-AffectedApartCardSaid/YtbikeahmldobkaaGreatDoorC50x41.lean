/-
  Lemmas for the law.
-/
import Derived.Test.YtbikeahmldobkaaGreatDoorC50x40
import Derived.Test.YtbikeahmldobkaaGreatDoorC50x17
import Derived.Test.YtbikeahmldobkaaGreatDoorC50x16
import Derived.Test.YtbikeahmldobkaaGreatDoorC50x20
import Derived.Test.YtbikeahmldobkaaGreatDoorC50x38
import Derived.Test.YtbikeahmldobkaaGreatDoorC50x39
import Derived.Test.YtbikeahmldobkaaGreatDoorC50x19
import Derived.Test.YtbikeahmldobkaaGreatDoorC50x31
import Derived.Test.YtbikeahmldobkaaGreatDoorC50x34
import Derived.Test.YtbikeahmldobkaaGreatDoorC50x21
import Derived.Test.YtbikeahmldobkaaGreatDoorC50x04
import Derived.Test.YtbikeahmldobkaaGreatDoorC50x26
import Derived.Test.YtbikeahmldobkaaGreatDoorC50x22
import Derived.Laws.StructEq
import Derived.Deep.RegionHeld3
import Derived.Lib.BufferRead
import Derived.Lib.Bytes
import Derived.RangeFuncLeaves
import Derived.Shelf.Bytes.SlCut
import Derived.WalkMore
set_option linter.all false
set_option maxRecDepth 100000
set_option maxHeartbeats 6400000
namespace Go.Proofs.YtbikeahmldobkaaGreatDoor
open Go.RowKit
theorem zg8 : Tryz.prog.eqGuardType Tryz.prog.depth 100 = false := by kernel_rfl
theorem eq_pkg (x y : Int × V.Bs) (w : World) : (Op.equalIn 10000 100 (.agg #[.int .i64 x.1, .string ⟨x.2.toArray⟩]) (.agg #[.int .i64 y.1, .string ⟨y.2.toArray⟩])).run Tryz.prog w = .ok (decide (x = y)) w := by
 rw [run_equalIn_agg w 9999 100 _ _ (by kernel_rfl) (by kernel_rfl)]
 unfold Program.fieldsOf
 rw [Tryz.underlying100]
 simp only [Op.eqFields]
 simp [go_sem]
 obtain ⟨a, b⟩ := x
 obtain ⟨c, d⟩ := y
 by_cases h1 : a = c
 ·by_cases h2 : b = d
  ·simp [h1, h2]
  ·simp [h1, h2]
 ·simp [h1]
theorem znr (x y : Int × V.Bs) (w : World) : (binOp .eql 100 (.agg #[.int .i64 x.1, .string ⟨x.2.toArray⟩]) (.agg #[.int .i64 y.1, .string ⟨y.2.toArray⟩])).run Tryz.prog w = .ok (.bool (decide (x = y))) w := by
 rw [run_eql_struct, eq_pkg]
 rfl
theorem zgp (n m : Int) (s t : V.Bs) (w : World) :
  Calls Tryz.prog 95 #[.agg #[.int .i64 n, .string ⟨s.toArray⟩], .agg #[.int .i64 m, .string ⟨t.toArray⟩]] w fun e w' => e = .returned (.bool (decide (V.pkC (n, s) (m, t) < 0))) /\ Below w.heap.size w w' := zhs n m s t w
theorem GSl.pk {w : World} {a : Option Addr} {n cap : Nat} {l : List (Int × V.Bs)} (h : GSl 2 pE w (.slice a n cap) l) (j : Nat) (hj : j < l.length) : ∃ g off, a = some ⟨g, off, none⟩ /\ g < w.heap.size /\ w.cell? ⟨g, off + j * 2, none⟩ = some (.int .i64 l[j].1) /\ w.cell? ⟨g, off + j * 2 + 1, none⟩ = some (.string ⟨l[j].2.toArray⟩) := by
 obtain ⟨g, off, e, hg, hc⟩ := h.at j hj
 exact ⟨g, off, e, hg, hc 0 _ rfl, hc 1 _ rfl⟩
theorem zgg {w W : World} {B : Nat} {a : Int × V.Bs} {t : TypeId} (h : W = w.alloc (.cells #[.int .i64 a.1, .string ⟨a.2.toArray⟩] t)) (hB : B = w.heap.size) : ∀ j u, (pE a)[j]? = some u -> W.cell? ⟨B, j, none⟩ = some u := by
 intro j u hj
 rw [h, hB, zh, if_pos rfl]
 simpa [pE] using hj
theorem zzh {P : Prop} (h : P := by
 (try dsimp only); exact ⟨hHeld.1.trans (hb7.mono hHeld.1.size), zf hb7 hHeld.2.1, zf hb7 hHeld.2.2.1, zf hb7 hHeld.2.2.2.1, zf hb7 hHeld.2.2.2.2⟩) : P := h
theorem zry (v : Value) (l : List (Int × V.Bs)) (p : Int × V.Bs) (w : World) (hv : GSl 2 pE w v l) (hl : l.length ≤ 1000) :
  Calls Tryz.prog 61 #[v, .agg #[.int .i64 p.1, .string ⟨p.2.toArray⟩]] w fun e w' => ∃ u, e = .returned u /\ GRow 100 2 pE w' w.heap.size u (V.addP p l) /\ Below w.heap.size w w' := by
 obtain ⟨va, vc, rfl⟩ := hv.slice
 have j8 : Below w.heap.size w (w.alloc (.cells #[.int .i64 p.1, .string ⟨p.2.toArray⟩] 100)) := (zwj _ w).alloc (zwi _) _
 have HB0 := zwg j8
 have HV := zwg (hv.below j8)
 have p0 : (w.alloc (.cells #[.int .i64 p.1, .string ⟨p.2.toArray⟩] 100)).cell? ⟨w.heap.size, 0, none⟩ = some (.int .i64 p.1) := by rw [World.cell?_alloc_new]; rfl
 have p1 : (w.alloc (.cells #[.int .i64 p.1, .string ⟨p.2.toArray⟩] 100)).cell? ⟨w.heap.size, 1, none⟩ = some (.string ⟨p.2.toArray⟩) := by rw [World.cell?_alloc_new]; rfl
 have Z0 := zwg p0
 have Z1 := zwg p1
 clear j8 hv p0 p1
 go_enter Tryz.func61, Tryz.ntmps61
 go_wp2_with fail
 generalize w.alloc (.cells #[.int .i64 p.1, .string ⟨p.2.toArray⟩] 100) = w0 at *
 go_loopw [5, 6, 7] (fun ov dv iv wx => ∃ (k : Nat) (q : List (Int × V.Bs) × Bool), k ≤ l.length /\ iv = .int .i64 k /\ (q = V.kp p l k /\ dv = .bool q.2) /\ GRow 100 2 pE wx w0.heap.size ov q.1 /\ Below w0.heap.size w0 wx) (fun _ _ iv _ => l.length - (intOf iv).toNat)
 case atStart => exact ⟨0, _, Nat.zero_le _, rfl, ⟨rfl, rfl⟩, GRow.nil _ _, zwj _ _⟩
 case round =>
  obtain ⟨k, ⟨o, d⟩, hk, rfl, ⟨hq, k2⟩, h8, j6⟩ := hrel
  simp only at k2 h8
  subst k2
  obtain ⟨oa, oc, k3⟩ := h8.slice
  subst k3
  have h2 := zwg h8
  have g7 := zwg j6
  have HQ := zwg hq
  have P0 := zwg (zf j6 Z0.out)
  have P1 := zwg (zf j6 Z1.out)
  have HLO : Hid (o.length ≤ 1001) := zwg (by have := (V.zew (p := p) (l := l) k hk).2.1; rw [← hq] at this; simp only at this; omega)
  clear h8 j6 hq
  by_cases hlt : k < l.length
  ·obtain ⟨g, off, rfl, hg, j9, k0⟩ := HV.out.pk k hlt
   have X0 := zwg j9
   have X1 := zwg k0
   have x0 := zf g7.out j9
   have x1 := zf g7.out k0
   have HST := zwg (V.zcy (p := p) hlt)
   rw [← HQ.out] at HST
   simp only at HST
   have i1 : (0 : Int) ≤ (k : Int) := by omega
   have i2 : (k : Int) < (l.length : Int) := by omega
   have wr1 : IntKind.i64.wrap ((k : Int) + 1) = (k : Int) + 1 := IntWalk.i64_in _ (by omega)
   generalize l[k] = x at *
   clear j9 k0 HV
   rcases d with _ | _
   ·by_cases hls : V.pkC p x < 0
    ·have HN : Hid (V.kp p l (k + 1) = (o ++ [p] ++ [x], true)) := zwg (by rw [HST.out]; simp [hls])
     have j0 : decide (V.pkC p x < 0) = true := decide_eq_true hls
     clear HST hls
     go_wp2_with fail
     refine wp_region_held_drew (S := (fun W' => Below wr.heap.size wr W' /\ W'.cell? ⟨w.heap.size, 0, none⟩ = some (.int .i64 p.1) /\ W'.cell? ⟨w.heap.size, 1, none⟩ = some (.string ⟨p.2.toArray⟩) /\ W'.cell? ⟨g, off + k * 2, none⟩ = some (.int .i64 x.1) /\ W'.cell? ⟨g, off + k * 2 + 1, none⟩ = some (.string ⟨x.2.toArray⟩))) (by kernel_rfl) (⟨(zwj _ _).drew, zf (zwj _ _).drew P0.out, zf (zwj _ _).drew P1.out, zf (zwj _ _).drew x0, zf (zwj _ _).drew x1⟩) (fun hHeld => ?_)
     refine tk 0 ?_
     refine tk 1 ?_
     refine tk 2 ?_
     refine tk 3 ?_
     refine tk 4 ?_
     refine tk 5 ?_
     refine tk 6 ?_
     refine tk 7 ?_
     refine rd 8 fun K hK => ?_
     go_simp
     refine (zgp p.1 x.1 p.2 x.2 _).mono ?_
     rintro e w7 ⟨rfl, hb7⟩
     try dsimp only
     refine hK.out _ _ ?_ (fun hHeld => nx ?_)
     ·exact zzh
     clear hK K
     refine tk 9 ?_
     refine wpAnyH_done (by kernel_rfl) ?_ _
     rw [show V.pkC (p.1, p.2) (x.1, x.2) = V.pkC p x from rfl, j0]
     have h3 := zwg (g7.out.trans (hHeld.1.mono g7.out.size))
     have g8 := zwg (GRow.below h2.out hHeld.1)
     have q0 := hHeld.2.1
     have q1 := hHeld.2.2.1
     clear hb7 hHeld x0 x1 j0
     have g5 : Below w7.heap.size w7 (w7.alloc (.cells #[.int .i64 p.1, .string ⟨p.2.toArray⟩] 100)) := (zwj _ _).alloc (zwi _) _
     have h4 := zwg (GRow.below g8.out g5)
     have g6 := zwh h3 g5
     have j4 : Hid (∀ j u, (pE p)[j]? = some u -> (w7.alloc (.cells #[.int .i64 p.1, .string ⟨p.2.toArray⟩] 100)).cell? ⟨w7.heap.size, j, none⟩ = some u) := zwg (zgg (w := w7) (t := 100) rfl rfl)
     clear g5
     go_wp2_with (first | (refine yf zfq (by decide) zji zrc (by decide) rfl _ _ 97 rfl Tryz.underlying97 w0.heap.size _ o rfl h4.out w7.heap.size p rfl j4.out (by have := HLO.out; (try simp only [List.length_append, List.length_cons, List.length_nil]); omega) g6.out.size ?_
                           intro vf wf j1 j2
                           have j5 := zwg (g6.out.trans (zx j2 (GRow.block h4.out) (zwi _) g6.out.size))
                           have h9 := zwg j1
                           clear j2 j1) | fail)
     clear q0 q1
     have HX : Hid (Below w0.heap.size w0 wf) := j5
     have y0 := zf HX.out X0.out
     have y1 := zf HX.out X1.out
     have z0 := zf HX.out Z0.out
     have z1 := zf HX.out Z1.out
     have j3 := zg8
     have g3 := znr x p
     by_cases hxp : x = p
     all_goals
      first | (rw [decide_eq_true hxp] at g3) | (rw [decide_eq_false hxp] at g3)
      have j7 := zwg hxp
      clear hxp
      go_wp2_with fail
      go_quiet (fail)
      rename_i nq
      have g0 : Below wf.heap.size wf (wf.drewN nq) := below_drewN (zwj _ _) nq
      have g9 := zwg (GRow.below h9.out g0)
      have h5 := zwh HX g0
      replace y0 := zf g0 y0
      replace y1 := zf g0 y1
      generalize wf.drewN nq = wq at *
      clear g0 z0 z1 g3 j3
      have g1 : Below wq.heap.size wq (wq.alloc (.cells #[.int .i64 x.1, .string ⟨x.2.toArray⟩] 100)) := (zwj _ _).alloc (zwi _) _
      have g4 := zwg (GRow.below g9.out g1)
      have g2 := zwh h5 g1
      have h6 : Hid (∀ j u, (pE x)[j]? = some u -> (wq.alloc (.cells #[.int .i64 x.1, .string ⟨x.2.toArray⟩] 100)).cell? ⟨wq.heap.size, j, none⟩ = some u) := zwg (zgg (w := wq) (t := 100) rfl rfl)
      clear g1
      go_wp2_with (first | (refine yf zfq (by decide) zji zrc (by decide) rfl _ _ 97 rfl Tryz.underlying97 w0.heap.size _ (o ++ [p]) rfl g4.out wq.heap.size x rfl h6.out (by have := HLO.out; (try simp only [List.length_append, List.length_cons, List.length_nil]); omega) g2.out.size ?_
                            intro ve we h1 hge
                            have h7 := zwg (g2.out.trans (zx hge (GRow.block g4.out) (zwi _) g2.out.size))
                            have h0 := zwg h1
                            clear hge h1) | fail)
      go_roundw
      case rel => exact ⟨k + 1, _, by omega, by go_num, ⟨HN.out.symm, rfl⟩, h0.out, h7.out⟩
      case measure => simp [intOf]; omega
    ·have j0 : decide (V.pkC p x < 0) = false := decide_eq_false hls
     have HN : Hid (V.kp p l (k + 1) = (o ++ [x], decide (x = p))) := zwg (by rw [HST.out]; simp [hls])
     clear HST hls
     go_wp2_with fail
     refine wp_region_held_drew (S := (fun W' => Below wr.heap.size wr W' /\ W'.cell? ⟨w.heap.size, 0, none⟩ = some (.int .i64 p.1) /\ W'.cell? ⟨w.heap.size, 1, none⟩ = some (.string ⟨p.2.toArray⟩) /\ W'.cell? ⟨g, off + k * 2, none⟩ = some (.int .i64 x.1) /\ W'.cell? ⟨g, off + k * 2 + 1, none⟩ = some (.string ⟨x.2.toArray⟩))) (by kernel_rfl) (⟨(zwj _ _).drew, zf (zwj _ _).drew P0.out, zf (zwj _ _).drew P1.out, zf (zwj _ _).drew x0, zf (zwj _ _).drew x1⟩) (fun hHeld => ?_)
     refine tk 0 ?_
     refine tk 1 ?_
     refine tk 2 ?_
     refine tk 3 ?_
     refine tk 4 ?_
     refine tk 5 ?_
     refine tk 6 ?_
     refine tk 7 ?_
     refine rd 8 fun K hK => ?_
     go_simp
     refine (zgp p.1 x.1 p.2 x.2 _).mono ?_
     rintro e w7 ⟨rfl, hb7⟩
     try dsimp only
     refine hK.out _ _ ?_ (fun hHeld => nx ?_)
     ·exact zzh
     clear hK K
     refine tk 9 ?_
     refine wpAnyH_done (by kernel_rfl) ?_ _
     rw [show V.pkC (p.1, p.2) (x.1, x.2) = V.pkC p x from rfl, j0]
     have h3 := zwg (g7.out.trans (hHeld.1.mono g7.out.size))
     have g8 := zwg (GRow.below h2.out hHeld.1)
     clear hb7 hHeld x0 x1 j0
     have HX : Hid (Below w0.heap.size w0 w7) := h3
     have y0 := zf HX.out X0.out
     have y1 := zf HX.out X1.out
     have z0 := zf HX.out Z0.out
     have z1 := zf HX.out Z1.out
     have j3 := zg8
     have g3 := znr x p
     by_cases hxp : x = p
     all_goals
      first | (rw [decide_eq_true hxp] at g3) | (rw [decide_eq_false hxp] at g3)
      have j7 := zwg hxp
      clear hxp
      go_wp2_with fail
      go_quiet (fail)
      rename_i nq
      have g0 : Below w7.heap.size w7 (w7.drewN nq) := below_drewN (zwj _ _) nq
      have g9 := zwg (GRow.below g8.out g0)
      have h5 := zwh HX g0
      replace y0 := zf g0 y0
      replace y1 := zf g0 y1
      generalize w7.drewN nq = wq at *
      clear g0 z0 z1 g3 j3
      have g1 : Below wq.heap.size wq (wq.alloc (.cells #[.int .i64 x.1, .string ⟨x.2.toArray⟩] 100)) := (zwj _ _).alloc (zwi _) _
      have g4 := zwg (GRow.below g9.out g1)
      have g2 := zwh h5 g1
      have h6 : Hid (∀ j u, (pE x)[j]? = some u -> (wq.alloc (.cells #[.int .i64 x.1, .string ⟨x.2.toArray⟩] 100)).cell? ⟨wq.heap.size, j, none⟩ = some u) := zwg (zgg (w := wq) (t := 100) rfl rfl)
      clear g1
      go_wp2_with (first | (refine yf zfq (by decide) zji zrc (by decide) rfl _ _ 97 rfl Tryz.underlying97 w0.heap.size _ o rfl g4.out wq.heap.size x rfl h6.out (by have := HLO.out; (try simp only [List.length_append, List.length_cons, List.length_nil]); omega) g2.out.size ?_
                            intro ve we h1 hge
                            have h7 := zwg (g2.out.trans (zx hge (GRow.block g4.out) (zwi _) g2.out.size))
                            have h0 := zwg h1
                            clear hge h1) | fail)
      go_roundw
      case rel => exact ⟨k + 1, _, by omega, by go_num, ⟨HN.out.symm, by first | (rw [decide_eq_true j7.out]) | (rw [decide_eq_false j7.out])⟩, h0.out, h7.out⟩
      case measure => simp [intOf]; omega
   ·have HN : Hid (V.kp p l (k + 1) = (o ++ [x], true)) := zwg (by rw [HST.out]; simp)
    clear HST
    go_wp2_with fail
    go_quiet (fail)
    have k1 : Below wr.heap.size wr (wr.drewN nq) := below_drewN (zwj _ _) nq
    have g8 := zwg (GRow.below h2.out k1)
    have h3 := zwh g7 k1
    generalize wr.drewN nq = w7 at *
    clear nq
    clear k1 x0 x1
    have HX : Hid (Below w0.heap.size w0 w7) := h3
    have y0 := zf HX.out X0.out
    have y1 := zf HX.out X1.out
    have z0 := zf HX.out Z0.out
    have z1 := zf HX.out Z1.out
    have j3 := zg8
    have g3 := znr x p
    by_cases hxp : x = p
    all_goals
     first | (rw [decide_eq_true hxp] at g3) | (rw [decide_eq_false hxp] at g3)
     have j7 := zwg hxp
     clear hxp
     go_wp2_with fail
     go_quiet (fail)
     rename_i nq
     have g0 : Below w7.heap.size w7 (w7.drewN nq) := below_drewN (zwj _ _) nq
     have g9 := zwg (GRow.below g8.out g0)
     have h5 := zwh HX g0
     replace y0 := zf g0 y0
     replace y1 := zf g0 y1
     generalize w7.drewN nq = wq at *
     clear g0 z0 z1 g3 j3
     have g1 : Below wq.heap.size wq (wq.alloc (.cells #[.int .i64 x.1, .string ⟨x.2.toArray⟩] 100)) := (zwj _ _).alloc (zwi _) _
     have g4 := zwg (GRow.below g9.out g1)
     have g2 := zwh h5 g1
     have h6 : Hid (∀ j u, (pE x)[j]? = some u -> (wq.alloc (.cells #[.int .i64 x.1, .string ⟨x.2.toArray⟩] 100)).cell? ⟨wq.heap.size, j, none⟩ = some u) := zwg (zgg (w := wq) (t := 100) rfl rfl)
     clear g1
     go_wp2_with (first | (refine yf zfq (by decide) zji zrc (by decide) rfl _ _ 97 rfl Tryz.underlying97 w0.heap.size _ o rfl g4.out wq.heap.size x rfl h6.out (by have := HLO.out; (try simp only [List.length_append, List.length_cons, List.length_nil]); omega) g2.out.size ?_
                           intro ve we h1 hge
                           have h7 := zwg (g2.out.trans (zx hge (GRow.block g4.out) (zwi _) g2.out.size))
                           have h0 := zwg h1
                           clear hge h1) | fail)
     go_roundw
     case rel => exact ⟨k + 1, _, by omega, by go_num, ⟨HN.out.symm, rfl⟩, h0.out, h7.out⟩
     case measure => simp [intOf]; omega
  ·obtain rfl : k = l.length := by omega
   have HBE := zwg (HB0.out.trans (g7.out.mono HB0.out.size))
   have q0 := P0.out
   have q1 := P1.out
   rcases d with _ | _
   ·have HR : Hid (V.addP p l = o ++ [p]) := zwg (by unfold V.addP; rw [← HQ.out]; rfl)
    clear HQ
    have g5 : Below wr.heap.size wr (wr.alloc (.cells #[.int .i64 p.1, .string ⟨p.2.toArray⟩] 100)) := (zwj _ _).alloc (zwi _) _
    have h4 := zwg (GRow.below h2.out g5)
    have g6 := zwh g7 g5
    have j4 : Hid (∀ j u, (pE p)[j]? = some u -> (wr.alloc (.cells #[.int .i64 p.1, .string ⟨p.2.toArray⟩] 100)).cell? ⟨wr.heap.size, j, none⟩ = some u) := zwg (zgg (w := wr) (t := 100) rfl rfl)
    clear g5
    go_wp2_with (first | (refine yf zfq (by decide) zji zrc (by decide) rfl _ _ 97 rfl Tryz.underlying97 w0.heap.size _ o rfl h4.out wr.heap.size p rfl j4.out (by have := HLO.out; (try simp only [List.length_append, List.length_cons, List.length_nil]); omega) g6.out.size ?_
                          intro vf wf j1 j2
                          have j5 := zwg (g6.out.trans (zx j2 (GRow.block h4.out) (zwi _) g6.out.size))
                          have h9 := zwg j1
                          clear j2 j1) | fail)
    have HBF := zwg (HB0.out.trans (j5.out.mono HB0.out.size))
    go_ret
    exact ⟨_, rfl, by rw [HR.out]; exact GRow.weaken h9.out HB0.out.size, HBF.out⟩
   ·have HR : Hid (V.addP p l = o) := zwg (by unfold V.addP; rw [← HQ.out]; rfl)
    clear HQ q0 q1
    go_wp2
    go_ret
    exact ⟨_, rfl, by rw [HR.out]; exact GRow.weaken h2.out HB0.out.size, HBE.out⟩
namespace V
end V
open Go.RowKit
namespace V
end V
open Go.RowKit
namespace V
end V
open Go.RowKit
open Go.RowKit
namespace V
end V
open Go.RowKit
theorem adv_zero (w : World) : Below w.heap.size w (w.alloc (.cells #[.string ⟨#[]⟩, .int .i64 0, .int .i64 0, .slice none 0 0] 54)) /\ (w.alloc (.cells #[.string ⟨#[]⟩, .int .i64 0, .int .i64 0, .slice none 0 0] 54)).heap[w.heap.size]? = some (.cells #[.string ⟨#[]⟩, .int .i64 0, .int .i64 0, .slice none 0 0] 54 (0, 0)) /\ (w.alloc (.cells #[.string ⟨#[]⟩, .int .i64 0, .int .i64 0, .slice none 0 0] 54)).heap.size = w.heap.size + 1 :=
 ⟨(zwj _ w).alloc (zwi _) _, heap_alloc_new w _, by simp⟩
open Go.RowKit
open Go.RowKit Go.Shelf
attribute [local go_sem] Oper.semAt_some
open Go.RowKit Go.Shelf
attribute [local go_sem] Oper.semAt_some
section
variable {α : Type} {enc : α -> List Value} {k : Nat} {T : TypeId}
end
open Go.RowKit
theorem zb2 {α : Type} {enc : α -> List Value} {k : Nat} {T : TypeId} {ops : Array Oper} {o : Oper} {a : Act} {w : World} {K : Act -> World -> Prop} {Q : Exit -> Act -> World -> Prop} {E : Prop} (hk : ∀ x, (enc x).length = k) (g1 : 0 < k) (g2 : ∀ x, ∀ u ∈ enc x, u.oneCell' = true) {bytes : Nat} (hi : jp T k bytes) (g3 : bytes ≤ 1000) (g4 : o.guard = none) (s x : Operand) (S : TypeId)
  (ho : o.op = .call { callee := .builtin .append, args := #[s, x], argTypes := #[S, S] }) (hu : Tryz.prog.underlying S = some (.slice T))
  (N : Nat) (v : Value) (l : List α) (hs : a.eval s = v) (g0 : GRow T k enc w N v l) (b : Nat) (c : α) (hx : a.eval x = .slice (some ⟨b, 0, none⟩) 1 1) (hr : ∀ j u, (enc c)[j]? = some u -> w.cell? ⟨b, j, none⟩ = some u) (hl : l.length ≤ 900000) (hN : N ≤ w.heap.size)
  (h : ∀ v' w', GRow T k enc w' N v' (l ++ [c]) -> w.grownBy w' v.ownBlock -> (v'.ownBlock = v.ownBlock ∨ v'.ownBlock = some w.heap.size) -> K (a.put o.dst v') w') : if Region.wanted o (yielded ops a.tmps) = true then Oper.wp Tryz.prog o a w K Q else E := by
 rw [if_pos (by simp [Region.wanted, g4])]
 obtain ⟨ie, z, g5, hz, h1, h2, h3⟩ := hi
 obtain ⟨v', w', g6, g7, hg, _, g8⟩ := run_append_own_at (P := Tryz.prog) w N S o.type T ie z k bytes hu g5 hz h1 h2 h3 g1 v l.length (l.flatMap enc) g0 ⟨b, 0, none⟩ 1 1 (enc c) (by rw [hk]; omega) (fun j u hj => by
   rw [Addr.add_mid, Nat.zero_add]
   exact hr j u hj) (g2 c) (by unfold maxLen; omega) (by
     have : (l.length + 1) * bytes ≤ 1000001 * 1000 := Nat.mul_le_mul (by omega) g3
     omega) hN
 unfold Oper.wp execOp
 simp only [ho, resolve, invoke, builtin, Sem.run_bind, Sem.run_pure, Result.andThen_ok, List.map_toArray, List.map_cons, List.map_nil, hs, hx, g6]
 refine h v' w' ?_ hg g8
 unfold GRow
 rw [List.length_append, List.flatMap_append]
 simpa using g7
open Go.RowKit
open Go.RowKit
theorem zg6 {ops : Array Oper} {o : Oper} {a : Act} {w : World} {K : Act -> World -> Prop} {Q : Exit -> Act -> World -> Prop} {E : Prop} (g0 : o.guard = none) (v : Value) (he : (execOp a.eval o).run Tryz.prog w = .ok (.value v) w)
  (h : K (a.put o.dst v) w) : if Region.wanted o (yielded ops a.tmps) = true then Oper.wp Tryz.prog o a w K Q else E := by
 rw [if_pos (by simp [Region.wanted, g0])]
 unfold Oper.wp
 rw [he]
 exact h
theorem zg7 {ops : Array Oper} {o : Oper} {a : Act} {w : World} {K : Act -> World -> Prop} {Q : Exit -> Act -> World -> Prop} {E : Prop} (g0 : o.guard = none) (ty : TypeId) (x y : Operand) (ho : o.op = .store ty x y)
  (b off : Nat) (hx : a.eval x = .pointer (some ⟨b, off, none⟩)) (v : Value) (hy : a.eval y = v) (u : Value) (hc : w.cell? ⟨b, off, none⟩ = some u) (hf : w.frozen? ⟨b, off, none⟩ = false) (hi : (Tryz.prog.info? ty).map (·.size) = some 1) (h1 : v.oneCell' = true)
  (h : K (a.put o.dst undef) (w.setCell ⟨b, off, none⟩ v)) : if Region.wanted o (yielded ops a.tmps) = true then Oper.wp Tryz.prog o a w K Q else E := by
 rw [if_pos (by simp [Region.wanted, g0])]
 unfold Oper.wp execOp
 simp only [ho, hx, hy, Instr.storeAt, Instr.sureAddr, Sem.run_bind, Sem.run_pure, Result.andThen_ok, run_set hc hf hi h1]
 exact h
theorem qp {W W' : World} {row : Option Nat} {b o : Nat} {u : Value} (hg : W.grownBy W' row) (hb : row ≠ some b) (h : W.cell? ⟨b, o, none⟩ = some u) : W'.cell? ⟨b, o, none⟩ = some u := hg.cell h (fun e => hb e.symm)
theorem VInv.fin {V0 : World} {N0 O : Nat} {i r s v : Value} {us : List Fs} {W w8 : World} {p : Fs} {v8 : Value} (h : VInv V0 N0 O i r s v us W) (hr8 : GRow 70 4 fE w8 O v8 (us ++ [p])) (hg8 : W.grownBy w8 v.ownBlock) (ho8 : v8.ownBlock = v.ownBlock ∨ v8.ownBlock = some W.heap.size) (hp : FOk W v p) (how : ∀ c, p.2.v.ownBlock = some c -> O < c) :
  ∃ va vc, v8 = .slice va (us.length + 1) vc /\ w8.cell? ⟨O, 3, none⟩ = some v /\ w8.frozen? ⟨O, 3, none⟩ = false /\ VInv V0 N0 O i r s v8 (us ++ [p]) (w8.setCell ⟨O, 3, none⟩ v8) := by
 have g0 := h.invKept hg8
 have g1 := h.row.add hr8 hg8 ho8 hp
 obtain ⟨va, vc, e⟩ := g1.slice
 exact ⟨va, vc, by rw [e]; simp, (za6 g0).2.2.2, ko g0, h.append g1 hg8 how⟩
end Go.Proofs.YtbikeahmldobkaaGreatDoor
