/-
  Lemmas for the law.
-/
import Derived.Test.YtbikeahmldobkaaGreatDoorC50x02
import Derived.Test.YtbikeahmldobkaaGreatDoorC50x18
import Derived.Test.YtbikeahmldobkaaGreatDoorC50x17
import Derived.Deep.RegionHeld3
import Derived.Laws.AppendOwn
import Derived.OwnWalk
import Derived.Maps.AppendAt
import Derived.Deep.MidRow
set_option linter.all false
set_option maxRecDepth 100000
set_option maxHeartbeats 3200000
namespace Go.Proofs.YtbikeahmldobkaaGreatDoor
open Go.RowKit
section
variable {P : Program} {ops : Array Oper} {Q : Exit -> Act -> World -> Prop} {md : Region.Mode} {S : World -> Prop}
theorem tk (i : Nat) {oi : Oper} {v : Value} {fuel : Nat} {l l' : Array Bool} {a a' : Act} {w : World}
  (h : wpAnyH P md ops Q S fuel l' a' w)
  (hi : ops[i]? = some oi := by rfl) (hs : Region.noSelect ops = true := by kernel_rfl) (hf : Region.free md ops l i = true := by kernel_rfl)
  (hr : (Region.ready md ops l).contains i = true := by kernel_rfl)
  (hQ : ∀ c a w, Q (.panic c) (a.put oi.dst v) w -> Q (.panic c) a w := by exact fun _ _ _ h => h)
  (hw : Region.wanted oi (yielded ops a.tmps) = true := by rfl)
  (hy : ∀ w, S w -> (execOp a.eval oi).run P w = .ok (.value v) w := by intro w' hSw; (try dsimp only at hSw); go_simp; try with_reducible rfl)
  (hS : S w := by assumption)
  (hl : l.setIfInBounds i true = l' := by (try simp only [zwe, List.set_cons_succ, List.set_cons_zero]); exact rfl)
  (ha : a.put oi.dst v = a' := by (try simp only [zwb, zwc, zwd, Act.put, zwe, List.set_cons_succ, List.set_cons_zero]); exact rfl) :
  wpAnyH P md ops Q S (fuel + 1) l a w := by
 subst hl ha
 exact wpAnyH_take hi hs hf hr hQ (Or.inl ⟨hw, hy⟩) hS h
theorem tu (i : Nat) {oi : Oper} {fuel : Nat} {l l' : Array Bool} {a a' : Act} {w : World}
  (h : wpAnyH P md ops Q S fuel l' a' w)
  (hi : ops[i]? = some oi := by rfl) (hs : Region.noSelect ops = true := by kernel_rfl) (hf : Region.free md ops l i = true := by kernel_rfl)
  (hr : (Region.ready md ops l).contains i = true := by kernel_rfl)
  (hQ : ∀ c a w, Q (.panic c) (a.put oi.dst undef) w -> Q (.panic c) a w := by exact fun _ _ _ h => h)
  (hw : Region.wanted oi (yielded ops a.tmps) = false := by rfl)
  (hS : S w := by assumption)
  (hl : l.setIfInBounds i true = l' := by (try simp only [zwe, List.set_cons_succ, List.set_cons_zero]); exact rfl)
  (ha : a.put oi.dst undef = a' := by (try simp only [zwb, zwc, zwd, Act.put, zwe, List.set_cons_succ, List.set_cons_zero]); exact rfl) :
  wpAnyH P md ops Q S (fuel + 1) l a w := by
 subst hl ha
 exact wpAnyH_take hi hs hf hr hQ (Or.inr ⟨hw, rfl⟩) hS h
theorem rd (i : Nat) {o : Oper} {fuel : Nat} {l : Array Bool} {a : Act} {w : World}
  (h : ∀ K' : Act -> World -> Prop, Shut (∀ a w, S w -> (S w -> wpAnyH P md ops Q S fuel (l.setIfInBounds i true) a w) -> K' a w) -> if Region.wanted o (yielded ops a.tmps) = true then Oper.wp P o a w K' Q else K' (a.put o.dst undef) w)
  (hi : ops[i]? = some o := by exact rfl) (hr : Region.ready md ops l = [i] := by kernel_rfl) :
  wpAnyH P md ops Q S (fuel + 1) l a w :=
 wpAnyH_ready hr (by simp) (AllReadyH.cons hi h AllReadyH.nil)
theorem nx {i : Nat} {fuel : Nat} {l l' : Array Bool} {a a' : Act} {w : World}
  (h : wpAnyH P md ops Q S fuel l' a' w)
  (hl : l.setIfInBounds i true = l' := by (try simp only [zwe, List.set_cons_succ, List.set_cons_zero]); exact rfl)
  (ha : a = a' := by (try simp only [zwb, zwc, zwd, Act.put, zwe, List.set_cons_succ, List.set_cons_zero]); exact rfl) :
  wpAnyH P md ops Q S fuel (l.setIfInBounds i true) a w := by
 subst hl ha
 exact h
theorem tv (i : Nat) {oi : Oper} (v : Value) {fuel : Nat} {l l' : Array Bool} {a a' : Act} {w : World}
  (hy : ∀ w, S w -> (execOp a.eval oi).run P w = .ok (.value v) w)
  (h : wpAnyH P md ops Q S fuel l' a' w)
  (hi : ops[i]? = some oi := by exact rfl) (hs : Region.noSelect ops = true := by kernel_rfl) (hf : Region.free md ops l i = true := by kernel_rfl)
  (hr : (Region.ready md ops l).contains i = true := by kernel_rfl)
  (hQ : ∀ c a w, Q (.panic c) (a.put oi.dst v) w -> Q (.panic c) a w := by exact fun _ _ _ h => h)
  (hw : Region.wanted oi (yielded ops a.tmps) = true := by rfl)
  (hS : S w := by assumption)
  (hl : l.setIfInBounds i true = l' := by (try simp only [zwe, List.set_cons_succ, List.set_cons_zero]); exact rfl)
  (ha : a.put oi.dst v = a' := by (try simp only [zwb, zwc, zwd, Act.put, zwe, List.set_cons_succ, List.set_cons_zero]); exact rfl) :
  wpAnyH P md ops Q S (fuel + 1) l a w := by
 subst hl ha
 exact wpAnyH_take hi hs hf hr hQ (Or.inl ⟨hw, hy⟩) hS h
end
open Go.RowKit
theorem zxq {P : Prop} (h : P := by
 go_enter Tryz.func96, Tryz.ntmps96
 go_wp2_with fail
 generalize w.alloc (.cells #[.int .i64 n, .slice va l.length vc] 68) = w0 at *
 refine (xf n w0).mono ?_
 rintro e w' ⟨rfl, rfl⟩
 rw [HSC.out]
 go_wp2
 go_ret
 exact ⟨zg HR.out.symm, HB0.out⟩) : P := h
theorem zyu {P : Prop} (h : P := by
 (try dsimp only); go_split_ands; exact ⟨zj.below (by assumption) hbc23, zwm hbc23, zwm hbc23, zwm hbc23, zwm hbc23, zwm hbc23, zwm hbc23, zwm hbc23, zwm hbc23, zwm hbc23, zwm hbc23⟩) : P := h
theorem zyv {P : Prop} (h : P := by
 (try dsimp only); go_split_ands; exact ⟨zj.below (by assumption) hbc22, zwm hbc22, zwm hbc22, zwm hbc22, zwm hbc22, zwm hbc22, zwm hbc22, zwm hbc22, zwm hbc22, zwm hbc22, zwm hbc22⟩) : P := h
theorem zzw {P : Prop} (h : P := by
 (try dsimp only); go_split_ands; exact ⟨zj.below (by assumption) hbc6, zwm hbc6, zwm hbc6, zwm hbc6, zwm hbc6, zwm hbc6, zwm hbc6⟩) : P := h
theorem zzx {P : Prop} (h : P := by
 (try dsimp only); go_split_ands; exact ⟨zj.below (by assumption) hbc5, zwm hbc5, zwm hbc5, zwm hbc5, zwm hbc5, zwm hbc5, zwm hbc5⟩) : P := h
theorem zzy {P : Prop} (h : P := by
 (try dsimp only); go_split_ands; exact ⟨zj.below (by assumption) hbc3, zwm hbc3, zwm hbc3, zwm hbc3, zwm hbc3, zwm hbc3, zwm hbc3⟩) : P := h
theorem zbs (n : Int) (v : Value) (l : List V.Itv) (w : World) (hm : zj w) (hv : Itvs w v l) (hs : Lens l) (hl : l.length ≤ maxLen) :
  Calls Tryz.prog 96 #[setV n v] w fun e w' => e = .returned (.bool (V.okR n l)) /\ Below w.heap.size w w' := by
 have HV := zwg hv
 obtain ⟨va, vc, rfl⟩ := hv.slice
 unfold maxLen at hl
 have HS := zwg hs
 have HF : Hid (V.okR n l = (V.scheme n && (decide (l.length ≤ 32) && (l.all (V.zr n) && V.ordB n l)))) := zwg rfl
 have g4 : Below w.heap.size w (w.alloc (.cells #[.int .i64 n, .slice va l.length vc] 68)) := (zwj _ w).alloc (zwi _) _
 have HB0 := zwg g4
 have HM := zwg (hm.below g4)
 have c0 : (w.alloc (.cells #[.int .i64 n, .slice va l.length vc] 68)).cell? ⟨w.heap.size, 0, none⟩ = some (.int .i64 n) := by simp [zh]
 have c1 : (w.alloc (.cells #[.int .i64 n, .slice va l.length vc] 68)).cell? ⟨w.heap.size, 1, none⟩ = some (.slice va l.length vc) := by simp [zh]
 clear hv hs g4 hm
 unfold setV
 rcases g5 : V.scheme n with _ | _
 ·have HR : Hid (V.okR n l = false) := zwg (by rw [HF.out, g5]; rfl)
  have HSC := zwg g5
  clear g5
  exact zxq
 ·have HSC := zwg g5
  clear g5
  by_cases h32 : 32 < l.length
  ·have HR : Hid (V.okR n l = false) := zwg (by rw [HF.out, decide_eq_false (show ¬ l.length ≤ 32 by omega), Bool.false_and, Bool.and_false])
   exact zxq
  ·have j7 : l.length ≤ 32 := by omega
   have HF2 : Hid (V.okR n l = (l.all (V.zr n) && V.ordB n l)) := zwg (by rw [HF.out, HSC.out, decide_eq_true j7]; rfl)
   have g3 : w.heap.size < (w.alloc (.cells #[.int .i64 n, .slice va l.length vc] 68)).heap.size := by simp
   go_enter Tryz.func96, Tryz.ntmps96
   go_wp2_with fail
   generalize w.alloc (.cells #[.int .i64 n, .slice va l.length vc] 68) = w0 at *
   refine (xf n w0).mono ?_
   rintro e w' ⟨rfl, rfl⟩
   rw [HSC.out]
   go_wp2
   go_loopw [3] (fun iv wx => ∃ k : Nat, k ≤ l.length /\ iv = .int .i64 k /\ (l.take k).all (V.zr n) = true /\ Below w0.heap.size w0 wx) (fun iv _ => l.length - (intOf iv).toNat)
   case atStart => exact ⟨0, Nat.zero_le _, rfl, rfl, zwj _ _⟩
   case round =>
    obtain ⟨k, hk, rfl, hz, g2⟩ := hrel
    have HZ := zwg hz
    have HBX := zwg g2
    have HBF := zwh HB0 g2
    have d0 := (g2.cell (p := ⟨w.heap.size, 0, none⟩) g3).trans c0
    have d1 := (g2.cell (p := ⟨w.heap.size, 1, none⟩) g3).trans c1
    clear hz g2
    by_cases hlt : k < l.length
    ·obtain ⟨b, off, rfl, g4, hx⟩ := HV.out.at k hlt
     obtain ⟨h0, h1, h2, h3⟩ := hx.below g4 HBF.out
     have j9 : (0 : Int) ≤ (k : Int) := by omega
     have k1 : (k : Int) < (l.length : Int) := by omega
     have h6 := HS.out _ (List.getElem_mem hlt)
     have HBD : Hid (V.zr n l[k] = (V.jn n l[k].lo l[k].lk && V.jn n l[k].hi l[k].hk)) := zwg rfl
     have HYES := zwg (fun hb => zo0 (n := n) HZ.out hlt hb)
     have HNO := zwg (fun hb => bnd_no (n := n) hlt hb)
     clear hx
     generalize l[k] = x at *
     have hbA : Below wr.heap.size wr (wr.alloc (.cells #[.string ⟨x.lo.toArray⟩, .int .i64 x.lk, .string ⟨x.hi.toArray⟩, .int .i64 x.hk] 83)) := (zwj _ wr).alloc (zwi _) _
     have g6 := zwg ((HM.out.below HBX.out).below hbA)
     have g7 := zwh HBX hbA
     have e0 := ze hbA d0
     have g8 : zcb (wr.alloc (.cells #[.string ⟨x.lo.toArray⟩, .int .i64 x.lk, .string ⟨x.hi.toArray⟩, .int .i64 x.hk] 83)) wr.heap.size 0 x := by
      exact z0p
     have h8 := zwg g8
     clear hbA g8
     go_wp2_with fail
     generalize wr.alloc (.cells #[.string ⟨x.lo.toArray⟩, .int .i64 x.lk, .string ⟨x.hi.toArray⟩, .int .i64 x.hk] 83) = W1 at *
     obtain ⟨f0, f1, f2, f3⟩ := h8.out
     rw [Nat.zero_add] at f1 f2 f3
     clear h0 h1 h2 h3 d0 d1
     refine (zh4 n x.lo x.lk W1 g6.out h6.1).mono ?_
     rintro e W2 ⟨rfl, hb2⟩
     have k0 := ze hb2 e0
     have k2 := ze hb2 f2
     have k3 := ze hb2 f3
     have HB2 := zwh g7 hb2
     have k4 := zwg (g6.out.below hb2)
     clear hb2 e0 f0 f1 f2 f3
     rcases hlo : V.jn n x.lo x.lk with _ | _
     ·exact zyr
     ·have HLO := zwg hlo
      clear hlo
      go_wp2_with fail
      refine (zh4 n x.hi x.hk W2 k4.out h6.2).mono ?_
      exact zw8
    ·obtain rfl : k = l.length := by omega
     have g9 : Hid (∀ x ∈ l, V.zr n x = true) := zwg (by have := HZ.out; rw [List.take_length] at this; exact List.all_eq_true.1 this)
     have HF3 : Hid (V.okR n l = V.ordB n l) := zwg (by rw [HF2.out, List.all_eq_true.2 g9.out]; rfl)
     have k5 := zwg (HM.out.below HBX.out)
     have j6 : w.heap.size < wr.heap.size := Nat.lt_of_lt_of_le g3 HBX.out.size
     have HD := zwg (And.intro d0 d1)
     obtain ⟨wo, k6⟩ : ∃ wo : World, wo = wr := ⟨_, rfl⟩
     subst k6
     go_wp2
     clear d0 d1
     go_loopw [5] (fun iv wx => ∃ k : Nat, k ≤ l.length /\ iv = .int .i64 k /\ (∀ i, i < k -> V.okAt n l i = true) /\ Below wo.heap.size wo wx) (fun iv _ => l.length - (intOf iv).toNat)
     case atStart => exact ⟨0, Nat.zero_le _, rfl, fun i hi => by omega, zwj _ _⟩
     case round =>
      obtain ⟨k, hk, rfl, hz, g2⟩ := hrel
      have HZ := zwg hz
      have HBX := zwg g2
      have h9 := zwh HBF g2
      have d0 := (g2.cell (p := ⟨w.heap.size, 0, none⟩) j6).trans HD.out.1
      have d1 := (g2.cell (p := ⟨w.heap.size, 1, none⟩) j6).trans HD.out.2
      clear hz g2
      by_cases hlt : k < l.length
      ·obtain ⟨b, off, rfl, g4, hx⟩ := HV.out.at k hlt
       obtain ⟨h0, h1, h2, h3⟩ := hx.below g4 h9.out
       have j9 : (0 : Int) ≤ (k : Int) := by omega
       have k1 : (k : Int) < (l.length : Int) := by omega
       have HBK : Hid (V.zr n l[k] = true) := zwg (g9.out _ (List.getElem_mem hlt))
       have HG := zwg (ziy hlt)
       clear hx
       generalize l[k] = x at *
       have hbA : Below wr.heap.size wr (wr.alloc (.cells #[.string ⟨x.lo.toArray⟩, .int .i64 x.lk, .string ⟨x.hi.toArray⟩, .int .i64 x.hk] 83)) := (zwj _ wr).alloc (zwi _) _
       have g6 := zwg ((k5.out.below HBX.out).below hbA)
       have g7 := zwh h9 hbA
       have h4 := zwh HBX hbA
       have e0 := ze hbA d0
       have e1 := ze hbA d1
       have g8 : zcb (wr.alloc (.cells #[.string ⟨x.lo.toArray⟩, .int .i64 x.lk, .string ⟨x.hi.toArray⟩, .int .i64 x.hk] 83)) wr.heap.size 0 x := by
        exact z0p
       have h8 := zwg g8
       clear hbA g8
       go_wp2_with fail
       generalize wr.alloc (.cells #[.string ⟨x.lo.toArray⟩, .int .i64 x.lk, .string ⟨x.hi.toArray⟩, .int .i64 x.hk] 83) = W1 at *
       obtain ⟨f0, f1, f2, f3⟩ := h8.out
       rw [Nat.zero_add] at f1 f2 f3
       clear h0 h1 h2 h3 d0 d1
       obtain ⟨z, hz⟩ : ∃ z, z = V.ecmp n (V.eLow x) (V.ky x) := ⟨_, rfl⟩
       have HIN : Hid (V.yk n x = decide (z < 0)) := zwg (by rw [hz]; exact (V.zqu HBK.out).symm)
       have hc1 := yq n (V.eLow x) (V.ky x)
       rw [← hz] at hc1
       have j0 := zwg hc1
       clear hz hc1
       have j1 : Hid (V.okAt n l k = (decide (z < 0) && (decide (k = 0) || V.za8 n (l.getD (k - 1) V.noI) x))) := zwg (by unfold V.okAt; rw [HG.out, HIN.out])
       by_cases g3 : 0 ≤ z
       ·have HNO : Hid (V.ordB n l = false) := zwg (zhb hlt (by rw [j1.out, decide_eq_false (show ¬ z < 0 by omega)]; rfl))
        have hd : decide (0 ≤ z) = true := decide_eq_true g3
        clear g3
        refine wp_region_held_drew (S := (fun W' => zj W' /\ W'.cell? ⟨w.heap.size, 0, none⟩ = some (.int .i64 n) /\ W'.cell? ⟨w.heap.size, 1, none⟩ = some (.slice (some ⟨b, off, none⟩) l.length vc) /\ W'.cell? ⟨wr.heap.size, 0, none⟩ = some (.string ⟨x.lo.toArray⟩) /\ W'.cell? ⟨wr.heap.size, 1, none⟩ = some (.int .i64 x.lk) /\ W'.cell? ⟨wr.heap.size, 2, none⟩ = some (.string ⟨x.hi.toArray⟩) /\ W'.cell? ⟨wr.heap.size, 3, none⟩ = some (.int .i64 x.hk))) (by kernel_rfl) (by (try dsimp only); (try simp only [World.cell?_drew]); exact ⟨g6.out.below (zwj _ _).drew, e0, e1, f0, f1, f2, f3⟩) (fun hHeld => ?_)
        refine tk 0 ?_
        refine tk 1 ?_
        refine tk 2 ?_
        refine tk 4 ?_
        refine rd 3 fun K hK => ?_
        go_simp
        refine (vu x _).mono ?_
        rintro e wc3 ⟨rfl, hbc3⟩
        try dsimp only
        refine hK.out _ _ ?_ (fun hHeld => ?_)
        ·exact zzy
        clear hK K
        try simp only [zwb, zwc, zwd, Act.put, zwe, List.set_cons_succ, List.set_cons_zero]
        refine rd 5 fun K hK => ?_
        go_simp
        refine (wi x _).mono ?_
        rintro e wc5 ⟨rfl, hbc5⟩
        try dsimp only
        refine hK.out _ _ ?_ (fun hHeld => ?_)
        ·exact zzx
        clear hK K
        try simp only [zwb, zwc, zwd, Act.put, zwe, List.set_cons_succ, List.set_cons_zero]
        refine rd 6 fun K hK => ?_
        go_simp
        refine (j0.out _ (by first | assumption | exact And.left (by assumption)) HSC.out (V.zar HBK.out) (V.za5 HBK.out)).mono ?_
        rintro e wc6 ⟨rfl, hbc6⟩
        try dsimp only
        refine hK.out _ _ ?_ (fun hHeld => ?_)
        ·exact zzw
        clear hK K
        try simp only [zwb, zwc, zwd, Act.put, zwe, List.set_cons_succ, List.set_cons_zero]
        refine tk 7 ?_
        refine tk 8 ?_
        refine tu 9 ?_
        refine tu 10 ?_
        refine tu 11 ?_
        refine tu 12 ?_
        refine tu 13 ?_
        refine tu 14 ?_
        refine tu 15 ?_
        refine tu 16 ?_
        refine tu 17 ?_
        refine tu 18 ?_
        refine tu 19 ?_
        refine tu 20 ?_
        refine tu 21 ?_
        refine tu 22 ?_
        refine tu 23 ?_
        refine tu 24 ?_
        refine tu 25 ?_
        refine tk 26 ?_
        refine wpAnyH_done (by kernel_rfl) ?_ _
        have g1 : Below W1.heap.size W1 wc6 := ((((zwj W1.heap.size W1).drew).trans (show Below W1.heap.size W1.drew wc3 from hbc3)).trans (hbc5.mono (show W1.heap.size ≤ wc3.heap.size from hbc3.size))).trans (hbc6.mono (Nat.le_trans (show W1.heap.size ≤ wc3.heap.size from hbc3.size) hbc5.size))
        have HBZ := zwh g7 g1
        clear g1
        clear hbc3 hbc5 hbc6 hHeld
        go_wp2
        go_ret
        exact ⟨zg (by rw [HF3.out, HNO.out]), HBZ.out⟩
       ·have hd : decide (0 ≤ z) = false := decide_eq_false g3
        have j2 : Hid (V.okAt n l k = (decide (k = 0) || V.za8 n (l.getD (k - 1) V.noI) x)) := zwg (by rw [j1.out, decide_eq_true (show z < 0 by omega)]; rfl)
        clear g3
        by_cases hk0 : k = 0
        ·have HOK : Hid (∀ i, i < k + 1 -> V.okAt n l i = true) := zwg (zep HZ.out (by rw [j2.out, decide_eq_true hk0]; rfl))
         have k7 : decide ((0 : Int) < (k : Int)) = false := decide_eq_false (by omega)
         have k8 : decide (0 < k) = false := decide_eq_false (by omega)
         clear hk0
         refine wp_region_held_drew (S := (fun W' => zj W' /\ W'.cell? ⟨w.heap.size, 0, none⟩ = some (.int .i64 n) /\ W'.cell? ⟨w.heap.size, 1, none⟩ = some (.slice (some ⟨b, off, none⟩) l.length vc) /\ W'.cell? ⟨wr.heap.size, 0, none⟩ = some (.string ⟨x.lo.toArray⟩) /\ W'.cell? ⟨wr.heap.size, 1, none⟩ = some (.int .i64 x.lk) /\ W'.cell? ⟨wr.heap.size, 2, none⟩ = some (.string ⟨x.hi.toArray⟩) /\ W'.cell? ⟨wr.heap.size, 3, none⟩ = some (.int .i64 x.hk))) (by kernel_rfl) (by (try dsimp only); (try simp only [World.cell?_drew]); exact ⟨g6.out.below (zwj _ _).drew, e0, e1, f0, f1, f2, f3⟩) (fun hHeld => ?_)
         refine tk 0 ?_
         refine tk 1 ?_
         refine tk 2 ?_
         refine tk 4 ?_
         refine rd 3 fun K hK => ?_
         go_simp
         refine (vu x _).mono ?_
         rintro e wc3 ⟨rfl, hbc3⟩
         try dsimp only
         refine hK.out _ _ ?_ (fun hHeld => ?_)
         ·exact zzy
         clear hK K
         try simp only [zwb, zwc, zwd, Act.put, zwe, List.set_cons_succ, List.set_cons_zero]
         refine rd 5 fun K hK => ?_
         go_simp
         refine (wi x _).mono ?_
         rintro e wc5 ⟨rfl, hbc5⟩
         try dsimp only
         refine hK.out _ _ ?_ (fun hHeld => ?_)
         ·exact zzx
         clear hK K
         try simp only [zwb, zwc, zwd, Act.put, zwe, List.set_cons_succ, List.set_cons_zero]
         refine rd 6 fun K hK => ?_
         go_simp
         refine (j0.out _ (by first | assumption | exact And.left (by assumption)) HSC.out (V.zar HBK.out) (V.za5 HBK.out)).mono ?_
         rintro e wc6 ⟨rfl, hbc6⟩
         try dsimp only
         refine hK.out _ _ ?_ (fun hHeld => ?_)
         ·exact zzw
         clear hK K
         try simp only [zwb, zwc, zwd, Act.put, zwe, List.set_cons_succ, List.set_cons_zero]
         refine tk 7 ?_
         refine tk 8 ?_
         refine tk 9 ?_
         refine tk 10 ?_
         refine tk 11 ?_
         refine tu 12 ?_
         refine tu 13 ?_
         refine tu 14 ?_
         refine tu 15 ?_
         refine tu 16 ?_
         refine tu 17 ?_
         refine tu 18 ?_
         refine tu 19 ?_
         refine tu 20 ?_
         refine tu 21 ?_
         refine tu 22 ?_
         refine tu 23 ?_
         refine tu 24 ?_
         refine tk 25 ?_
         refine tk 26 ?_
         refine wpAnyH_done (by kernel_rfl) ?_ _
         have g1 : Below W1.heap.size W1 wc6 := ((((zwj W1.heap.size W1).drew).trans (show Below W1.heap.size W1.drew wc3 from hbc3)).trans (hbc5.mono (show W1.heap.size ≤ wc3.heap.size from hbc3.size))).trans (hbc6.mono (Nat.le_trans (show W1.heap.size ≤ wc3.heap.size from hbc3.size) hbc5.size))
         have HBZ := zwh h4 g1
         clear g1
         clear hbc3 hbc5 hbc6 hHeld
         exact zyk
        ·have k7 : decide ((0 : Int) < (k : Int)) = true := decide_eq_true (by omega)
         have q1 : 0 < k := by omega
         have k8 : decide (0 < k) = true := decide_eq_true (by omega)
         have q2 : (1 : Int) ≤ (k : Int) := by omega
         have q3 : (k : Int) - 1 < (l.length : Int) := by omega
         have q4 : (0 : Int) ≤ (k : Int) - 1 := by omega
         have q5 : IntKind.i64.wrap ((k : Int) - 1) = (k : Int) - 1 := by rw [IntKind.wrap_i64]; omega
         have q6 : ((k : Int) - 1).toNat = k - 1 := by omega
         have j3 : k - 1 < l.length := by omega
         obtain ⟨b', off', eb, hb1, hy⟩ := HV.out.at (k - 1) j3
         cases eb
         obtain ⟨y0, y1, y2, y3⟩ := hy.below hb1 g7.out
         have HBY : Hid (V.zr n l[k - 1] = true) := zwg (g9.out _ (List.getElem_mem j3))
         have k9 := zwg (ziy j3)
         generalize l[k - 1] = y at *
         obtain ⟨z2, h7⟩ : ∃ z, z = V.ecmp n (V.ky y) (V.eLow x) := ⟨_, rfl⟩
         have j4 : Hid (V.okAt n l k = decide (z2 < 0)) := zwg (by rw [j2.out, decide_eq_false hk0, k9.out, h7]; exact (V.zu4 HBY.out HBK.out).symm)
         have j5 := yq n (V.ky y) (V.eLow x)
         rw [← h7] at j5
         have q0 := zwg j5
         clear h7 j5 hy hk0 hb1
         refine wp_region_held_drew (S := (fun W' => zj W' /\ W'.cell? ⟨w.heap.size, 0, none⟩ = some (.int .i64 n) /\ W'.cell? ⟨w.heap.size, 1, none⟩ = some (.slice (some ⟨b, off, none⟩) l.length vc) /\ W'.cell? ⟨wr.heap.size, 0, none⟩ = some (.string ⟨x.lo.toArray⟩) /\ W'.cell? ⟨wr.heap.size, 1, none⟩ = some (.int .i64 x.lk) /\ W'.cell? ⟨wr.heap.size, 2, none⟩ = some (.string ⟨x.hi.toArray⟩) /\ W'.cell? ⟨wr.heap.size, 3, none⟩ = some (.int .i64 x.hk) /\ W'.cell? ⟨b, off + (k - 1) * 4, none⟩ = some (.string ⟨y.lo.toArray⟩) /\ W'.cell? ⟨b, off + (k - 1) * 4 + 1, none⟩ = some (.int .i64 y.lk) /\ W'.cell? ⟨b, off + (k - 1) * 4 + 2, none⟩ = some (.string ⟨y.hi.toArray⟩) /\ W'.cell? ⟨b, off + (k - 1) * 4 + 3, none⟩ = some (.int .i64 y.hk))) (by kernel_rfl) (by (try dsimp only); (try simp only [World.cell?_drew]); exact ⟨g6.out.below (zwj _ _).drew, e0, e1, f0, f1, f2, f3, y0, y1, y2, y3⟩) (fun hHeld => ?_)
         refine tk 0 ?_
         refine tk 1 ?_
         refine tk 2 ?_
         refine tk 4 ?_
         refine rd 3 fun K hK => ?_
         go_simp
         refine (vu x _).mono ?_
         rintro e wc3 ⟨rfl, hbc3⟩
         try dsimp only
         refine hK.out _ _ ?_ (fun hHeld => ?_)
         ·(try dsimp only); go_split_ands; exact ⟨zj.below (by assumption) hbc3, zwm hbc3, zwm hbc3, zwm hbc3, zwm hbc3, zwm hbc3, zwm hbc3, zwm hbc3, zwm hbc3, zwm hbc3, zwm hbc3⟩
         clear hK K
         try simp only [zwb, zwc, zwd, Act.put, zwe, List.set_cons_succ, List.set_cons_zero]
         refine rd 5 fun K hK => ?_
         go_simp
         refine (wi x _).mono ?_
         rintro e wc5 ⟨rfl, hbc5⟩
         try dsimp only
         refine hK.out _ _ ?_ (fun hHeld => ?_)
         ·(try dsimp only); go_split_ands; exact ⟨zj.below (by assumption) hbc5, zwm hbc5, zwm hbc5, zwm hbc5, zwm hbc5, zwm hbc5, zwm hbc5, zwm hbc5, zwm hbc5, zwm hbc5, zwm hbc5⟩
         clear hK K
         try simp only [zwb, zwc, zwd, Act.put, zwe, List.set_cons_succ, List.set_cons_zero]
         refine rd 6 fun K hK => ?_
         go_simp
         refine (j0.out _ (by first | assumption | exact And.left (by assumption)) HSC.out (V.zar HBK.out) (V.za5 HBK.out)).mono ?_
         rintro e wc6 ⟨rfl, hbc6⟩
         try dsimp only
         refine hK.out _ _ ?_ (fun hHeld => ?_)
         ·(try dsimp only); go_split_ands; exact ⟨zj.below (by assumption) hbc6, zwm hbc6, zwm hbc6, zwm hbc6, zwm hbc6, zwm hbc6, zwm hbc6, zwm hbc6, zwm hbc6, zwm hbc6, zwm hbc6⟩
         clear hK K
         try simp only [zwb, zwc, zwd, Act.put, zwe, List.set_cons_succ, List.set_cons_zero]
         refine tk 7 ?_
         refine tk 8 ?_
         refine tk 9 ?_
         refine tk 10 ?_
         refine tk 11 ?_
         refine tk 12 ?_
         refine tk 13 ?_
         refine tk 14 ?_
         refine tk 15 ?_
         refine tk 16 ?_
         refine tk 17 ?_
         refine tk 18 ?_
         refine tk 19 ?_
         refine tk 21 ?_
         refine rd 20 fun K hK => ?_
         go_simp
         refine (wi y _).mono ?_
         rintro e wc20 ⟨rfl, g0⟩
         try dsimp only
         refine hK.out _ _ ?_ (fun hHeld => ?_)
         ·(try dsimp only); go_split_ands; exact ⟨zj.below (by assumption) g0, zwm g0, zwm g0, zwm g0, zwm g0, zwm g0, zwm g0, zwm g0, zwm g0, zwm g0, zwm g0⟩
         clear hK K
         try simp only [zwb, zwc, zwd, Act.put, zwe, List.set_cons_succ, List.set_cons_zero]
         refine rd 22 fun K hK => ?_
         go_simp
         refine (vu x _).mono ?_
         rintro e wc22 ⟨rfl, hbc22⟩
         try dsimp only
         refine hK.out _ _ ?_ (fun hHeld => ?_)
         ·exact zyv
         clear hK K
         try simp only [zwb, zwc, zwd, Act.put, zwe, List.set_cons_succ, List.set_cons_zero]
         refine rd 23 fun K hK => ?_
         go_simp
         refine (q0.out _ (by first | assumption | exact And.left (by assumption)) HSC.out (V.za5 HBY.out) (V.zar HBK.out)).mono ?_
         rintro e wc23 ⟨rfl, hbc23⟩
         try dsimp only
         refine hK.out _ _ ?_ (fun hHeld => ?_)
         ·exact zyu
         clear hK K
         try simp only [zwb, zwc, zwd, Act.put, zwe, List.set_cons_succ, List.set_cons_zero]
         refine tk 24 ?_
         refine tk 25 ?_
         refine tk 26 ?_
         refine wpAnyH_done (by kernel_rfl) ?_ _
         have g1 : Below W1.heap.size W1 wc6 := ((((zwj W1.heap.size W1).drew).trans (show Below W1.heap.size W1.drew wc3 from hbc3)).trans (hbc5.mono (show W1.heap.size ≤ wc3.heap.size from hbc3.size))).trans (hbc6.mono (Nat.le_trans (show W1.heap.size ≤ wc3.heap.size from hbc3.size) hbc5.size))
         have h5 : Below wc6.heap.size wc6 wc23 := (g0.trans (hbc22.mono g0.size)).trans (hbc23.mono (Nat.le_trans g0.size hbc22.size))
         have HBZ := zwg (h4.out.trans ((g1.trans (h5.mono g1.size)).mono h4.out.size))
         have j8 := zwg (g7.out.trans ((g1.trans (h5.mono g1.size)).mono g7.out.size))
         clear hbc3 hbc5 hbc6 g0 hbc22 hbc23 hHeld g1 h5
         by_cases h7 : 0 ≤ z2
         ·have HNO : Hid (V.ordB n l = false) := zwg (zhb hlt (by rw [j4.out]; exact decide_eq_false (by omega)))
          go_wp2
          go_ret
          exact ⟨zg (by rw [HF3.out, HNO.out]), j8.out⟩
         ·have HOK : Hid (∀ i, i < k + 1 -> V.okAt n l i = true) := zwg (zep HZ.out (by rw [j4.out]; exact decide_eq_true (by omega)))
          exact zyk
      ·obtain rfl : k = l.length := by omega
       have HR : Hid (V.okR n l = true) := zwg (by rw [HF3.out]; exact (V.zca n l).2 HZ.out)
       go_wp2
       go_ret
       exact ⟨zg HR.out.symm, h9.out⟩
open Go.RowKit
theorem zag (x : V.Bs) : (ByteArray.mk x.toArray).data.toList = x := by simp
theorem znk (x : V.Bs) : (ByteArray.mk x.toArray).size = x.length := by simp [ByteArray.size]
section
variable {α : Type} {enc : α -> List Value} {k : Nat}
theorem wu (hk : ∀ x, (enc x).length = k) : ∀ {l : List α} (j : Nat) (h : j < l.length) (i : Nat), i < k -> (l.flatMap enc)[j * k + i]? = (enc l[j])[i]?
 | [], j, h, _, _ => by simp at h
 | c :: l, 0, _, i, hi => by
  rw [List.flatMap_cons, List.getElem?_append_left (by rw [hk]; omega)]
  simp
 | c :: l, j + 1, h, i, hi => by
  have hl := hk c
  have e : (j + 1) * k = j * k + k := Nat.succ_mul j k
  rw [List.flatMap_cons, List.getElem?_append_right (by rw [hl]; omega), hl, show (j + 1) * k + i - k = j * k + i by omega]
  rw [wu hk j (by simpa using h) i hi]
  simp
theorem za4 (hk : ∀ x, (enc x).length = k) : ∀ (l : List α), (l.flatMap enc).length = l.length * k
 | [] => by simp
 | c :: l => by
  have e : (l.length + 1) * k = l.length * k + k := Nat.succ_mul _ k
  rw [List.flatMap_cons, List.length_append, hk, za4 hk l, List.length_cons]
  omega
def GRow (T : TypeId) (k : Nat) (enc : α -> List Value) (w : World) (N : Nat) (v : Value) (l : List α) : Prop := w.ownsRow N T k v l.length (l.flatMap enc)
variable {T : TypeId}
theorem GRow.nil (w : World) (N : Nat) : GRow T k enc w N (.slice none 0 0) [] := ⟨by simp, .inl ⟨rfl, rfl⟩⟩
theorem z0g {P : Prop} (h : P := by
 rcases h.2 with ⟨rfl, hn⟩ | ⟨g, cap, cur, rfl, _⟩
 ·exact ⟨none, 0, by rw [hn]⟩
 ·exact ⟨_, cap, rfl⟩) : P := h
theorem GRow.slice {w : World} {N : Nat} {v : Value} {l : List α} (h : GRow T k enc w N v l) : ∃ a cap, v = .slice a l.length cap := by
 exact z0g
theorem zem {w : World} {g i : Nat} {cur : Array Value} {fr : Nat × Nat} (hg : w.heap[g]? = some (.cells cur T fr)) : w.cell? ⟨g, i, none⟩ = cur[i]? := by
 unfold World.cell?
 rw [hg]
 rfl
theorem GRow.at (hk : ∀ x, (enc x).length = k) {w : World} {N : Nat} {v : Value} {l : List α} (h : GRow T k enc w N v l) (j : Nat) (hj : j < l.length) :
  ∃ g cap, v = .slice (some ⟨g, 0, none⟩) l.length cap /\ N ≤ g /\ g < w.heap.size /\ ∀ i u, (enc l[j])[i]? = some u -> w.cell? ⟨g, j * k + i, none⟩ = some u := by
 rcases h.2 with ⟨rfl, hn⟩ | ⟨g, cap, cur, rfl, hb, hg, g1, hm, g2, g0⟩
 ·omega
 ·refine ⟨g, cap, rfl, hb, (Array.getElem?_eq_some_iff.1 hg).1, fun i u hu => ?_⟩
  have hi : i < k := by
   have := (List.getElem?_eq_some_iff.1 hu).1
   rwa [hk] at this
  rw [zem hg]
  have h1 := wu hk j hj i hi
  rw [hu, ← g0, List.getElem?_take] at h1
  split at h1
  ·simpa using h1
  ·cases h1
theorem GRow.kept {w w' : World} {N : Nat} {v : Value} {l : List α} (h : GRow T k enc w N v l) {row : Option Nat} (hg : w.grownBy w' row) (hr : ∀ b, row = some b -> b < N) : GRow T k enc w' N v l := by
 refine ⟨h.1, ?_⟩
 rcases h.2 with h | ⟨g, cap, cur, rfl, hb, hgg, rest⟩
 ·exact .inl h
 ·exact zzc
theorem GRow.below {w w' : World} {N : Nat} {v : Value} {l : List α} (h : GRow T k enc w N v l) (hb : Below w.heap.size w w') : GRow T k enc w' N v l :=
 h.kept (row := none) ⟨hb.os, hb.tape, hb.output, hb.size, fun k hk _ => hb.block k hk⟩ (fun b e => by cases e)
theorem z0b {P : Prop} (h : P := by
 intro b hb
 rcases h.2 with ⟨rfl, _⟩ | ⟨g, cap, cur, rfl, hbb, _⟩
 ·cases hb
 ·simp [Value.ownBlock] at hb; omega) : P := h
theorem GRow.block {w : World} {N : Nat} {v : Value} {l : List α} (h : GRow T k enc w N v l) : ∀ b, v.ownBlock = some b -> N ≤ b := by
 exact z0b
theorem zx {w w' : World} {N B : Nat} {v : Value} (h : w.grownBy w' v.ownBlock) (hv : ∀ b, v.ownBlock = some b -> N ≤ b) (g0 : B ≤ N) (hB : N ≤ w.heap.size) : Below B w w' :=
 ⟨h.os, h.tape, h.output, h.size, fun k hk => h.block k (by omega) (fun e => by have := hv k e.symm; omega)⟩
theorem zl {w w' : World} {v : Value} (h : w.grownBy w' v.ownBlock) {N b o : Nat} {u : Value} (hv : ∀ b, v.ownBlock = some b -> N ≤ b) (hb : b < N) (hc : w.cell? ⟨b, o, none⟩ = some u) : w'.cell? ⟨b, o, none⟩ = some u :=
 h.cell hc (fun e => by have := hv _ e.symm; simp at this; omega)
theorem GRow.lt {w : World} {N : Nat} {v : Value} {l : List α} (h : GRow T k enc w N v l) : ∀ b, v.ownBlock = some b -> b < w.heap.size := fun b hb => (World.ownsRow.lt h b hb).2
theorem zpv {w w' : World} {v : Value} (h : w.grownBy w' v.ownBlock) {N i : Nat} {o : Obj} (hv : ∀ b, v.ownBlock = some b -> N ≤ b) (hi : i < N) (ho : w.heap[i]? = some o) : w'.heap[i]? = some o :=
 (h.block i (Array.getElem?_eq_some_iff.1 ho).1 (fun e => by have := hv _ e.symm; omega)).trans ho
def jp (T : TypeId) (k bytes : Nat) : Prop := ∃ i z, Tryz.prog.info? T = some i /\ i.zero = some z /\ i.size = k /\ i.bytes = bytes /\ z.cells.size = k
theorem yf {ops : Array Oper} {rest : List Oper} {o : Oper} {a : Act} {w : World} {Q : Exit -> Act -> World -> Prop} (hk : ∀ x, (enc x).length = k) (g1 : 0 < k) (g2 : ∀ x, ∀ u ∈ enc x, u.oneCell' = true) {bytes : Nat} (hi : jp T k bytes) (g3 : bytes ≤ 1000) (g4 : o.guard = none) (s x : Operand) (S : TypeId)
  (ho : o.op = .call { callee := .builtin .append, args := #[s, x], argTypes := #[S, S] }) (hu : Tryz.prog.underlying S = some (.slice T))
  (N : Nat) (v : Value) (l : List α) (hs : a.eval s = v) (g0 : GRow T k enc w N v l) (b : Nat) (c : α) (hx : a.eval x = .slice (some ⟨b, 0, none⟩) 1 1) (hr : ∀ j u, (enc c)[j]? = some u -> w.cell? ⟨b, j, none⟩ = some u) (hl : l.length ≤ 1000000) (hN : N ≤ w.heap.size)
  (h : ∀ v' w', GRow T k enc w' N v' (l ++ [c]) -> w.grownBy w' v.ownBlock -> wpList Tryz.prog ops Q rest (a.put o.dst v') w') : wpList Tryz.prog ops Q (o :: rest) a w := by
 obtain ⟨ie, z, g5, hz, h1, h2, h3⟩ := hi
 refine wpList_append_own w g4 s x S ho N T ie z k bytes hu g5 hz h1 h2 h3 g1 v l.length (l.flatMap enc) hs g0 ⟨b, 0, none⟩ 1 1 (enc c) hx (by rw [hk]; omega) ?_ (g2 c) (by unfold maxLen; omega) ?_ hN ?_
 ·intro j u hj
  rw [Addr.add_mid, Nat.zero_add]
  exact hr j u hj
 ·have : (l.length + 1) * bytes ≤ 1000001 * 1000 := Nat.mul_le_mul (by omega) g3
  omega
 ·intro v' w' g6 hg _
  refine h v' w' ?_ hg
  unfold GRow
  rw [List.length_append, List.flatMap_append]
  simpa using g6
end
end Go.Proofs.YtbikeahmldobkaaGreatDoor
