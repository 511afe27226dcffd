/-
  Lemmas for the law.
-/
import Derived.Test.YtbikeahmldobkaaGreatDoorC51x19
import Derived.Test.YtbikeahmldobkaaGreatDoorC51x20
import Derived.Test.YtbikeahmldobkaaGreatDoorC51x18
import Derived.Test.YtbikeahmldobkaaGreatDoorC51x02
import Derived.Deep.RegionHeld3
set_option linter.all false
set_option maxRecDepth 100000
set_option maxHeartbeats 1600000
namespace Go.Proofs.YtbikeahmldobkaaGreatDoor
open Go.RowKit
def ecV (x : V.Ec) : Value := .agg #[.int .i64 x.e, .string ⟨x.v.toArray⟩, .int .i64 x.s]
theorem uu (x : V.Itv) (w : World) : Calls Tryz.prog 130 #[itvV x] w fun e w' => e = .returned (ecV (V.eLow x)) /\ Below w.heap.size w w' := by
 obtain ⟨lo, lk, hi, hk⟩ := x
 have HF : Hid (V.eLow ⟨lo, lk, hi, hk⟩ = if lk = 1 then ⟨0, lo, 0⟩ else if lk = 2 then ⟨0, lo, 1⟩ else V.ebot) := zu8 rfl
 unfold itvV ecV
 simp only
 by_cases h1 : lk = 1
 ·subst h1
  have HR : Hid (V.eLow ⟨lo, 1, hi, hk⟩ = ⟨0, lo, 0⟩) := zu8 rfl
  rw [HR.out]
  go_enter Tryz.func130, Tryz.ntmps130
  go_wp2
  exact bodyPost_ret (v := .agg #[.int .i64 0, .string ⟨lo.toArray⟩, .int .i64 0]) (by simp [results, Tryz.results130, go_sem]) rfl ⟨rfl, ((((zvb _ _).alloc (zva _) _).alloc (by simp) _))⟩
 ·by_cases h2 : lk = 2
  ·subst h2
   have HR : Hid (V.eLow ⟨lo, 2, hi, hk⟩ = ⟨0, lo, 1⟩) := zu8 rfl
   rw [HR.out]
   go_enter Tryz.func130, Tryz.ntmps130
   go_wp2
   exact bodyPost_ret (v := .agg #[.int .i64 0, .string ⟨lo.toArray⟩, .int .i64 1]) (by simp [results, Tryz.results130, go_sem]) rfl ⟨rfl, ((((zvb _ _).alloc (zva _) _).alloc (by simp) _))⟩
  ·have b1 : (lk == 1) = false := by simpa using h1
   have b2 : (lk == 2) = false := by simpa using h2
   have HR : Hid (V.eLow ⟨lo, lk, hi, hk⟩ = ⟨-1, [], 0⟩) := zu8 (by rw [HF.out, if_neg h1, if_neg h2]; rfl)
   rw [HR.out]
   clear h1 h2
   go_enter Tryz.func130, Tryz.ntmps130
   go_wp2
   exact bodyPost_ret (v := .agg #[.int .i64 (-1), .string ⟨#[]⟩, .int .i64 0]) (by simp [results, Tryz.results130, go_sem]) rfl ⟨rfl, ((((zvb _ _).alloc (zva _) _).alloc (by simp) _))⟩
theorem vi (x : V.Itv) (w : World) : Calls Tryz.prog 131 #[itvV x] w fun e w' => e = .returned (ecV (V.km x)) /\ Below w.heap.size w w' := by
 obtain ⟨lo, lk, hi, hk⟩ := x
 have HF : Hid (V.km ⟨lo, lk, hi, hk⟩ = if hk = 1 then ⟨0, hi, 1⟩ else if hk = 2 then ⟨0, hi, 0⟩ else V.etop) := zu8 rfl
 unfold itvV ecV
 simp only
 by_cases h1 : hk = 1
 ·subst h1
  have HR : Hid (V.km ⟨lo, lk, hi, 1⟩ = ⟨0, hi, 1⟩) := zu8 rfl
  rw [HR.out]
  go_enter Tryz.func131, Tryz.ntmps131
  go_wp2
  exact bodyPost_ret (v := .agg #[.int .i64 0, .string ⟨hi.toArray⟩, .int .i64 1]) (by simp [results, Tryz.results131, go_sem]) rfl ⟨rfl, ((((zvb _ _).alloc (zva _) _).alloc (by simp) _))⟩
 ·by_cases h2 : hk = 2
  ·subst h2
   have HR : Hid (V.km ⟨lo, lk, hi, 2⟩ = ⟨0, hi, 0⟩) := zu8 rfl
   rw [HR.out]
   go_enter Tryz.func131, Tryz.ntmps131
   go_wp2
   exact bodyPost_ret (v := .agg #[.int .i64 0, .string ⟨hi.toArray⟩, .int .i64 0]) (by simp [results, Tryz.results131, go_sem]) rfl ⟨rfl, ((((zvb _ _).alloc (zva _) _).alloc (by simp) _))⟩
  ·have b1 : (hk == 1) = false := by simpa using h1
   have b2 : (hk == 2) = false := by simpa using h2
   have HR : Hid (V.km ⟨lo, lk, hi, hk⟩ = ⟨1, [], 0⟩) := zu8 (by rw [HF.out, if_neg h1, if_neg h2]; rfl)
   rw [HR.out]
   clear h1 h2
   go_enter Tryz.func131, Tryz.ntmps131
   go_wp2
   exact bodyPost_ret (v := .agg #[.int .i64 1, .string ⟨#[]⟩, .int .i64 0]) (by simp [results, Tryz.results131, go_sem]) rfl ⟨rfl, ((((zvb _ _).alloc (zva _) _).alloc (by simp) _))⟩
theorem ye (n : Int) (a b : V.Ec) (w : World) (hm : zj w) (hn : V.scheme n = true) (ha : V.EcOk n a) (hb : V.EcOk n b) :
  Calls Tryz.prog 129 #[.int .i64 n, ecV a, ecV b] w fun e w' => e = .returned (.int .i64 (V.ecmp n a b)) /\ Below w.heap.size w w' := by
 have HZ : Hid (V.ecmp n a b = if a.e ≠ b.e ∨ a.e ≠ 0 then a.e - b.e else if V.cmpV n a.v b.v ≠ 0 then V.cmpV n a.v b.v else a.s - b.s) := zu8 rfl
 have HB := zu8 (show Below w.heap.size w ((w.alloc (.cells #[.int .i64 a.e, .string ⟨a.v.toArray⟩, .int .i64 a.s] 168)).alloc (.cells #[.int .i64 b.e, .string ⟨b.v.toArray⟩, .int .i64 b.s] 168)) from ((zvb _ _).alloc (zva _) _).alloc (by simp) _)
 have HM := zu8 hm
 have HN := zu8 hn
 clear hm hn
 unfold ecV
 rcases ha with rfl | rfl | ⟨⟨x, p⟩, hx, rfl⟩ <;> rcases hb with rfl | rfl | ⟨⟨y, q⟩, hy, rfl⟩
 rotate_right
 ·have HX := zu8 (show V.valid n x = true from hx)
  have HY := zu8 (show V.valid n y = true from hy)
  clear hx hy
  unfold V.eat at HB HZ ⊢
  simp only at HB HZ ⊢
  obtain ⟨sp, g0⟩ : ∃ sp : Int, sp = if p then 1 else 0 := ⟨_, rfl⟩
  obtain ⟨sq, g1⟩ : ∃ sq : Int, sq = if q then 1 else 0 := ⟨_, rfl⟩
  have g2 : 0 ≤ sp /\ sp ≤ 1 := by rw [g0]; cases p <;> simp
  have g3 : 0 ≤ sq /\ sq ≤ 1 := by rw [g1]; cases q <;> simp
  obtain ⟨g2, g5⟩ := g2
  obtain ⟨g3, g6⟩ := g3
  rw [← g0, ← g1] at HB HZ ⊢
  clear g0 g1
  have g4 := zu8 (HM.out.below HB.out)
  obtain ⟨z, hz⟩ : ∃ z, V.cmpV n x y = z := ⟨_, rfl⟩
  rw [hz] at HZ
  have HC := zu8 hz
  clear hz
  have e1 : ((w.alloc (.cells #[.int .i64 0, .string ⟨x.toArray⟩, .int .i64 sp] 168)).alloc (.cells #[.int .i64 0, .string ⟨y.toArray⟩, .int .i64 sq] 168)).cell? ⟨w.heap.size, 2, none⟩ = some (.int .i64 sp) := by simp [zg]
  have e2 : ((w.alloc (.cells #[.int .i64 0, .string ⟨x.toArray⟩, .int .i64 sp] 168)).alloc (.cells #[.int .i64 0, .string ⟨y.toArray⟩, .int .i64 sq] 168)).cell? ⟨w.heap.size + 1, 2, none⟩ = some (.int .i64 sq) := by simp [zg]
  have hw := zr2 n ⟨x.toArray⟩ ⟨y.toArray⟩ ((w.alloc (.cells #[.int .i64 0, .string ⟨x.toArray⟩, .int .i64 sp] 168)).alloc (.cells #[.int .i64 0, .string ⟨y.toArray⟩, .int .i64 sq] 168)) g4.out HN.out (by rw [za5]; exact HX.out) (by rw [za5]; exact HY.out)
  rw [za5, za5, HC.out] at hw
  have HW := zu8 hw
  have HE := zu8 (And.intro e1 e2)
  clear hw e1 e2
  go_enter Tryz.func129, Tryz.ntmps129
  go_wp2_with fail
  refine HW.out.mono ?_
  rintro e w1 ⟨rfl, hb1⟩
  have c1 := (hb1.cell (p := ⟨w.heap.size, 2, none⟩) (by simp; omega)).trans HE.out.1
  have c2 := (hb1.cell (p := ⟨w.heap.size + 1, 2, none⟩) (by simp)).trans HE.out.2
  have HB1 := zu9 HB hb1
  clear hb1
  by_cases h0 : z = 0
  ·subst h0
   have HF2 : Hid (V.ecmp n ⟨0, x, sp⟩ ⟨0, y, sq⟩ = sp - sq) := zu8 (by rw [HZ.out]; simp)
   clear HZ
   go_wp2
   go_ret
   exact ⟨zu HF2.out.symm, HB1.out⟩
  ·have g7 : (z != 0) = true := by simpa using h0
   have HF2 : Hid (V.ecmp n ⟨0, x, sp⟩ ⟨0, y, sq⟩ = z) := zu8 (by
     rw [HZ.out, if_neg (by simp), if_pos h0])
   clear h0 HZ
   go_wp2
   go_ret
   exact ⟨zu HF2.out.symm, HB1.out⟩
 all_goals try (cases p)
 all_goals try (cases q)
 all_goals
  try unfold V.ebot at HB HZ ⊢
  try unfold V.etop at HB HZ ⊢
  try unfold V.eat at HB HZ ⊢
  simp only at HB HZ ⊢
  go_enter Tryz.func129, Tryz.ntmps129
  go_wp2
  go_ret
  exact ⟨zu (by unfold V.ecmp; simp), HB.out⟩
theorem zg9 (n : Int) (v : V.Bs) (k : Int) (w : World) (hm : zj w) (hv : v.length ≤ maxLen) :
  Calls Tryz.prog 128 #[.int .i64 n, .int .i64 k, .string ⟨v.toArray⟩] w fun e w' => e = .returned (.bool (V.jg n v k)) /\ Below w.heap.size w w' := by
 have HF : Hid (V.jg n v k = if k = 0 then v.isEmpty else (decide (k = 1) || decide (k = 2)) && V.valid n v) := rfl
 by_cases h0 : k = 0
 ·subst h0
  rw [if_pos rfl] at HF
  by_cases hv0 : v = []
  ·subst hv0
   go_enter Tryz.func128, Tryz.ntmps128
   go_wp2
   go_ret
   exact ⟨rfl, zvb _ _⟩
  ·have HFE : Hid (V.jg n v 0 = false) := zu8 (by rw [HF.out]; simpa using hv0)
   have g1 : ¬ v = [] := hv0
   clear hv0 HF
   go_enter Tryz.func128, Tryz.ntmps128
   go_wp2
   go_ret
   exact ⟨ze (by rw [HFE.out]; simpa using g1), zvb _ _⟩
 ·rw [if_neg h0] at HF
  have b0 : (k == 0) = false := by simpa using h0
  by_cases g0 : k = 1 ∨ k = 2
  ·have HF2 : Hid (V.jg n v k = V.valid n v) := zu8 (by rw [HF.out]; rcases g0 with h | h <;> simp [h])
   have HM := zu8 hm
   clear HF hm
   rcases g0 with rfl | rfl
   all_goals
    go_enter Tryz.func128, Tryz.ntmps128
    go_wp2_with fail
    refine (vl n ⟨v.toArray⟩ _ HM.out hv).mono ?_
    rintro e w1 ⟨rfl, hb1⟩
    rw [za5]
    have HB1 := zu8 hb1
    clear hb1
    go_wp2
    go_ret
    exact ⟨ze HF2.out.symm, HB1.out⟩
  ·have b1 : (k == 1) = false := by simpa using fun h => g0 (.inl h)
   have b2 : (k == 2) = false := by simpa using fun h => g0 (.inr h)
   have HF2 : Hid (V.jg n v k = false) := zu8 (by rw [HF.out, decide_eq_false (fun h => g0 (.inl h)), decide_eq_false (fun h => g0 (.inr h))]; rfl)
   clear HF g0 h0
   go_enter Tryz.func128, Tryz.ntmps128
   go_wp2
   go_ret
   exact ⟨ze HF2.out.symm, zvb _ _⟩
theorem zb {W W' : World} {b o : Nat} {v : Value} (hb : Below W.heap.size W W') (h : W.cell? ⟨b, o, none⟩ = some v) : W'.cell? ⟨b, o, none⟩ = some v :=
 (hb.cell (p := ⟨b, o, none⟩) (World.block_lt_of_cell? _ _ h)).trans h
theorem zve {W W' : World} {b o : Nat} {v : Value} (hb : Below W.heap.size W W') (h : W.cell? ⟨b, o, none⟩ = some v := by assumption) : W'.cell? ⟨b, o, none⟩ = some v := zb hb h
theorem zd0 {n : Int} {l : List V.Itv} {k : Nat} (h : ∀ i, i < k -> V.okAt n l i = true) (hk : V.okAt n l k = true) : ∀ i, i < k + 1 -> V.okAt n l i = true := fun i hi => by
 by_cases e : i = k
 ·subst e; exact hk
 ·exact h i (by omega)
theorem zgd {n : Int} {l : List V.Itv} {k : Nat} (hk : k < l.length) (h : V.okAt n l k = false) : V.ordB n l = false := by
 rcases hb : V.ordB n l with _ | _
 ·rfl
 ·rw [(V.zbm n l).1 hb k hk] at h; cases h
theorem zh2 {l : List V.Itv} {k : Nat} (h : k < l.length) : l.getD k V.noI = l[k] := by rw [List.getD_eq_getElem?_getD, List.getElem?_eq_getElem h]; rfl
theorem zwz {P : Prop} (h : P := by
 go_wp2
 go_roundw
 case rel => exact ⟨k + 1, by omega, by go_num, HOK.out, HBZ.out⟩
 case measure => simp [intOf]; omega) : P := h
theorem zx0 {P : Prop} (h : P := by
 go_quiet (fail)
 have HBZ := zu8 (below_drewN HBV.out nq)
 generalize W2.drewN nq = W3 at *
 go_wp2
 go_ret
 exact ⟨ze HNO.out.symm, HBZ.out⟩) : P := h
theorem zkr (n : Int) (v : Value) (l : List V.Itv) (w : World) (hm : zj w) (hn : V.scheme n = true) (hv : Itvs w v l) (hb : ∀ x ∈ l, V.zt n x = true) (hl : l.length ≤ 1000) :
  Calls Tryz.prog 151 #[.int .i64 n, v] w fun e w' => e = .returned (.bool (V.ordB n l)) /\ Below w.heap.size w w' := by
 have HV := zu8 hv
 obtain ⟨va, vc, rfl⟩ := hv.slice
 have HN := zu8 hn
 have HM := zu8 hm
 have HB := zu8 hb
 clear hn hm hb hv
 go_enter Tryz.func151, Tryz.ntmps151
 go_wp2
 go_loopw [10] (fun iv wx => ∃ k : Nat, k ≤ l.length /\ iv = .int .i64 k /\ (∀ i, i < k -> V.okAt n l i = true) /\ Below w.heap.size w wx) (fun iv _ => l.length - (intOf iv).toNat)
 case atStart => exact ⟨0, Nat.zero_le _, rfl, fun i hi => by omega, zvb _ _⟩
 case round =>
  obtain ⟨k, hk, rfl, hz, g7⟩ := hrel
  have HZ := zu8 hz
  have HBX := zu8 g7
  clear hz g7
  by_cases hlt : k < l.length
  ·obtain ⟨b, off, rfl, j6, hx⟩ := HV.out.at k hlt
   have j7 := hx.below j6 HBX.out
   obtain ⟨h0, h1, h2, h3⟩ := j7
   have k4 : (0 : Int) ≤ (k : Int) := by omega
   have k5 : (k : Int) < (l.length : Int) := by omega
   have g7 : V.zt n l[k] = true := HB.out _ (List.getElem_mem hlt)
   have j0 := zu8 g7
   have HG := zu8 (zh2 hlt)
   clear hx g7
   have j1 : wr.heap.size < (wr.alloc (.cells #[.string ⟨l[k].lo.toArray⟩, .int .i64 l[k].lk, .string ⟨l[k].hi.toArray⟩, .int .i64 l[k].hk] 83)).heap.size := by simp
   have hbW : Below w.heap.size w (wr.alloc (.cells #[.string ⟨l[k].lo.toArray⟩, .int .i64 l[k].lk, .string ⟨l[k].hi.toArray⟩, .int .i64 l[k].hk] 83)) := HBX.out.alloc HBX.out.size _
   have j2 : zcv (wr.alloc (.cells #[.string ⟨l[k].lo.toArray⟩, .int .i64 l[k].lk, .string ⟨l[k].hi.toArray⟩, .int .i64 l[k].hk] 83)) wr.heap.size 0 l[k] := by
    refine ⟨?_, ?_, ?_, ?_⟩ <;> simp [zg]
   have j8 := zu8 j2
   have g8 := zu8 hbW
   clear j2 hbW
   go_wp2_with fail
   generalize wr.alloc (.cells #[.string ⟨l[k].lo.toArray⟩, .int .i64 l[k].lk, .string ⟨l[k].hi.toArray⟩, .int .i64 l[k].hk] 83) = W0 at *
   obtain ⟨d0, d1, d2, d3⟩ := j8.out
   rw [Nat.zero_add] at d1 d2 d3
   have h5 := zu8 (fun (h1 : l[k].lk ≠ 0) => V.xz j0.out h1)
   have j3 := zu8 (fun (h1 : l[k].hk ≠ 0) => V.jn j0.out h1)
   have h4 : Hid (zj W0) := zu8 (HM.out.below g8.out)
   have j4 : Hid (V.xw n l[k] = (decide (l[k].lk = 0) || (decide (l[k].hk = 0) || decide (V.cutC n l[k].low l[k].high < 0)))) := zu8 rfl
   generalize l[k] = x at *
   clear h0 h1 h2 h3
   rcases g3 : V.xw n x with _ | _
   ·have HIN := zu8 g3
    rw [j4.out] at g3
    simp only [Bool.or_eq_false_iff, decide_eq_false_iff_not] at g3
    obtain ⟨i1, i2, i3⟩ := g3
    have g5 := h5.out i1
    have g4 := j3.out i2
    have g1 : (x.lk != 0) = true := by simpa using i1
    have g2 : (x.hk != 0) = true := by simpa using i2
    have i4 : 0 ≤ V.cutC n x.low x.high := by omega
    have HNO : Hid (V.ordB n l = false) := zu8 (zgd hlt (by unfold V.okAt; rw [HG.out, HIN.out]; rfl))
    clear i1 i2 i3
    go_region_held3 (fun W' => zj W' /\ W'.cell? ⟨wr.heap.size, 0, none⟩ = some (.string ⟨x.lo.toArray⟩) /\ W'.cell? ⟨wr.heap.size, 1, none⟩ = some (.int .i64 x.lk) /\ W'.cell? ⟨wr.heap.size, 2, none⟩ = some (.string ⟨x.hi.toArray⟩) /\ W'.cell? ⟨wr.heap.size, 3, none⟩ = some (.int .i64 x.hk))
     (first
       | (go_split_ands; exact ⟨zj.below (by assumption) g0, zve g0, zve g0, zve g0, zve g0⟩)
       | (exact ⟨h4.out, d0, d1, d2, d3⟩)
       | go_keep)
     (first
       | (go_at_call 113; refine (zd6 x _).mono ?_; rintro e wq ⟨rfl, g0⟩)
       | (go_at_call 114; refine (zan x _).mono ?_; rintro e wq ⟨rfl, g0⟩)
       | (go_at_call 112; refine (xg n x.low x.high _ (by first | assumption | exact And.left (by assumption)) HN.out g5 g4).mono ?_; rintro e wq ⟨rfl, g0⟩))
    rename_i wa hba wb hbb hS
    have HBZ := zu8 (g8.out.trans ((((zvb W0.heap.size W0).drew).trans (Below.trans (show Below W0.heap.size W0.drew wa from hba) ((hbb.trans (g0.mono hbb.size)).mono hba.size))).mono g8.out.size))
    clear hba hbb g0 hS
    generalize V.cutC n x.low x.high = z at *
    go_wp2
    go_ret
    exact ⟨ze HNO.out.symm, HBZ.out⟩
   ·have HIN := zu8 g3
    have h9 : (x.lk != 0) = false ∨ ((x.lk != 0) = true /\ (x.hk != 0) = false) ∨ ((x.lk != 0) = true /\ (x.hk != 0) = true) := by
     cases (x.lk != 0) <;> cases (x.hk != 0) <;> simp
    rcases h9 with g1 | ⟨g1, g2⟩ | ⟨g1, g2⟩
    focus
     clear g3
     go_quiet (fail)
     have HB1 := zu8 (below_drewN (zvb W0.heap.size W0) nq)
     generalize W0.drewN nq = W1 at *
    rotate_left
    focus
     clear g3
     go_quiet (fail)
     have HB1 := zu8 (below_drewN (zvb W0.heap.size W0) nq)
     generalize W0.drewN nq = W1 at *
    rotate_left
    focus
     have i1 : x.lk ≠ 0 := by simpa using g1
     have i2 : x.hk ≠ 0 := by simpa using g2
     have g5 := h5.out i1
     have g4 := j3.out i2
     have i4 : ¬ (0 ≤ V.cutC n x.low x.high) := by
      rw [j4.out] at g3
      simp only [Bool.or_eq_true, decide_eq_true_eq] at g3
      omega
     clear i1 i2 g3
     go_region_held3 (fun W' => zj W' /\ W'.cell? ⟨wr.heap.size, 0, none⟩ = some (.string ⟨x.lo.toArray⟩) /\ W'.cell? ⟨wr.heap.size, 1, none⟩ = some (.int .i64 x.lk) /\ W'.cell? ⟨wr.heap.size, 2, none⟩ = some (.string ⟨x.hi.toArray⟩) /\ W'.cell? ⟨wr.heap.size, 3, none⟩ = some (.int .i64 x.hk))
      (first
        | (go_split_ands; exact ⟨zj.below (by assumption) g0, zve g0, zve g0, zve g0, zve g0⟩)
        | (exact ⟨h4.out, d0, d1, d2, d3⟩)
        | go_keep)
      (first
        | (go_at_call 113; refine (zd6 x _).mono ?_; rintro e wq ⟨rfl, g0⟩)
        | (go_at_call 114; refine (zan x _).mono ?_; rintro e wq ⟨rfl, g0⟩)
        | (go_at_call 112; refine (xg n x.low x.high _ (by first | assumption | exact And.left (by assumption)) HN.out g5 g4).mono ?_; rintro e wq ⟨rfl, g0⟩))
     rename_i wa hba wb hbb hS
     have HB1 := zu8 ((((zvb W0.heap.size W0).drew).trans (Below.trans (show Below W0.heap.size W0.drew wa from hba) ((hbb.trans (g0.mono hbb.size)).mono hba.size))))
     clear hba hbb g0 hS
     generalize V.cutC n x.low x.high = z at *
     generalize wq = W1 at *
    rotate_left
    all_goals
     have g6 := zu8 (g8.out.trans (HB1.out.mono g8.out.size))
     have e0 := zb HB1.out d0
     have e1 := zb HB1.out d1
     have e2 := zb HB1.out d2
     have e3 := zb HB1.out d3
     have k6 : wr.heap.size < W1.heap.size := Nat.lt_of_lt_of_le j1 HB1.out.size
     have j9 := zu8 (h4.out.below HB1.out)
     clear d0 d1 d2 d3 HB1 h4 j1
     by_cases hk0 : k = 0
     ·have k0 : ((k : Int) == 0) = true := by rw [hk0]; rfl
      have HOK : Hid (∀ i, i < k + 1 -> V.okAt n l i = true) := zu8 (zd0 HZ.out (by unfold V.okAt; rw [HG.out, HIN.out, hk0]; rfl))
      clear hk0 e0 e1 e2 e3
      go_wp2
      go_roundw
      case rel => exact ⟨k + 1, by omega, by go_num, HOK.out, g6.out⟩
      case measure => simp [intOf]; omega
     ·have k0 : ((k : Int) == 0) = false := by rw [zvc]; omega
      have k7 : (1 : Int) ≤ (k : Int) := by omega
      have k8 : (k : Int) - 1 < (l.length : Int) := by omega
      have h6 : k - 1 < l.length := by omega
      obtain ⟨b', off', eb, hb1, hy⟩ := HV.out.at (k - 1) h6
      cases eb
      obtain ⟨y0, y1, y2, y3⟩ := hy.below hb1 g6.out
      have HBY : Hid (V.zt n l[k - 1] = true) := zu8 (HB.out _ (List.getElem_mem h6))
      have k1 := zu8 (zh2 h6)
      generalize l[k - 1] = y at *
      have HNB : Hid (V.zap n y x = (!decide (y.hk = 0) && (!decide (x.lk = 0) && decide (V.cutC n y.high x.low < 0)))) := zu8 rfl
      have g9 : Hid (V.okAt n l k = V.zap n y x) := zu8 (by unfold V.okAt; rw [HG.out, k1.out, HIN.out, decide_eq_false hk0]; rfl)
      have hbV : Below w.heap.size w (W1.alloc (.cells #[.string ⟨y.lo.toArray⟩, .int .i64 y.lk, .string ⟨y.hi.toArray⟩, .int .i64 y.hk] 83)) := g6.out.alloc g6.out.size _
      have HBV := zu8 hbV
      have hbA : Below W1.heap.size W1 (W1.alloc (.cells #[.string ⟨y.lo.toArray⟩, .int .i64 y.lk, .string ⟨y.hi.toArray⟩, .int .i64 y.hk] 83)) := (zvb _ W1).alloc (zva _) _
      have e0' := zb hbA e0
      have e1' := zb hbA e1
      have e2' := zb hbA e2
      have e3' := zb hbA e3
      have j5 : zcv (W1.alloc (.cells #[.string ⟨y.lo.toArray⟩, .int .i64 y.lk, .string ⟨y.hi.toArray⟩, .int .i64 y.hk] 83)) W1.heap.size 0 y := by
       refine ⟨?_, ?_, ?_, ?_⟩ <;> simp [zg]
      have k2 := zu8 j5
      have k3 := zu8 (j9.out.below hbA)
      clear hy j5 hbV hbA hk0 hb1
      go_wp2_with fail
      generalize W1.alloc (.cells #[.string ⟨y.lo.toArray⟩, .int .i64 y.lk, .string ⟨y.hi.toArray⟩, .int .i64 y.hk] 83) = W2 at *
      obtain ⟨f0, f1, f2, f3⟩ := k2.out
      rw [Nat.zero_add] at f1 f2 f3
      clear y0 y1 y2 y3 e0 e1 e2 e3
      have h7 : (y.hk == 0) = true ∨ ((y.hk == 0) = false /\ (x.lk == 0) = true) ∨ ((y.hk == 0) = false /\ (x.lk == 0) = false) := by
       cases (y.hk == 0) <;> cases (x.lk == 0) <;> simp
      rcases h7 with q1 | ⟨q1, q2⟩ | ⟨q1, q2⟩
      ·have HNO : Hid (V.ordB n l = false) := zu8 (zgd hlt (by rw [g9.out, HNB.out, decide_eq_true (eq_of_beq q1)]; rfl))
       exact zx0
      ·have HNO : Hid (V.ordB n l = false) := zu8 (zgd hlt (by rw [g9.out, HNB.out, decide_eq_true (eq_of_beq q2)]; simp))
       exact zx0
      ·have i1 : y.hk ≠ 0 := by simpa using q1
       have i2 : x.lk ≠ 0 := by simpa using q2
       have g5 := h5.out i2
       have g4 := V.jn HBY.out i1
       have h8 : Hid (V.okAt n l k = decide (V.cutC n y.high x.low < 0)) := zu8 (by rw [g9.out, HNB.out, decide_eq_false i1, decide_eq_false i2]; simp)
       clear i1 i2
       go_region_held3 (fun W' => zj W' /\ W'.cell? ⟨wr.heap.size, 0, none⟩ = some (.string ⟨x.lo.toArray⟩) /\ W'.cell? ⟨wr.heap.size, 1, none⟩ = some (.int .i64 x.lk) /\ W'.cell? ⟨wr.heap.size, 2, none⟩ = some (.string ⟨x.hi.toArray⟩) /\ W'.cell? ⟨wr.heap.size, 3, none⟩ = some (.int .i64 x.hk) /\
         W'.cell? ⟨W1.heap.size, 0, none⟩ = some (.string ⟨y.lo.toArray⟩) /\ W'.cell? ⟨W1.heap.size, 1, none⟩ = some (.int .i64 y.lk) /\ W'.cell? ⟨W1.heap.size, 2, none⟩ = some (.string ⟨y.hi.toArray⟩) /\ W'.cell? ⟨W1.heap.size, 3, none⟩ = some (.int .i64 y.hk))
        (first
          | (go_split_ands; exact ⟨zj.below (by assumption) g0, zve g0, zve g0, zve g0, zve g0, zve g0, zve g0, zve g0, zve g0⟩)
          | (exact ⟨k3.out, e0', e1', e2', e3', f0, f1, f2, f3⟩)
          | go_keep)
        (first
          | (go_at_call 113; refine (zd6 x _).mono ?_; rintro e wq ⟨rfl, g0⟩)
          | (go_at_call 114; refine (zan y _).mono ?_; rintro e wq ⟨rfl, g0⟩)
          | (go_at_call 112; refine (xg n y.high x.low _ (by first | assumption | exact And.left (by assumption)) HN.out g4 g5).mono ?_; rintro e wq ⟨rfl, g0⟩))
       rename_i wa hba wb hbb hS
       have HBZ := zu8 (HBV.out.trans ((((zvb W2.heap.size W2).drew).trans (Below.trans (show Below W2.heap.size W2.drew wa from hba) ((hbb.trans (g0.mono hbb.size)).mono hba.size))).mono HBV.out.size))
       clear hba hbb g0 hS f0 f1 f2 f3 e0' e1' e2' e3'
       generalize V.cutC n y.high x.low = z2 at *
       by_cases hzz : 0 ≤ z2
       ·have HNO : Hid (V.ordB n l = false) := zu8 (zgd hlt (by rw [h8.out]; exact decide_eq_false (by omega)))
        go_wp2
        go_ret
        exact ⟨ze HNO.out.symm, HBZ.out⟩
       ·have HOK : Hid (∀ i, i < k + 1 -> V.okAt n l i = true) := zu8 (zd0 HZ.out (by rw [h8.out]; exact decide_eq_true (by omega)))
        exact zwz
  ·obtain rfl : k = l.length := by omega
   have HR : Hid (V.ordB n l = true) := zu8 ((V.zbm n l).2 HZ.out)
   go_wp2
   go_ret
   exact ⟨ze HR.out.symm, HBX.out⟩
open Go.RowKit
def setV (n : Int) (v : Value) : Value := .agg #[.int .i64 n, v]
def Lens (l : List V.Itv) : Prop := ∀ x ∈ l, x.lo.length ≤ maxLen /\ x.hi.length ≤ maxLen
theorem zn8 {n : Int} {l : List V.Itv} {k : Nat} (h : (l.take k).all (V.zt n) = true) (hk : k < l.length) (hb : V.zt n l[k] = true) : (l.take (k + 1)).all (V.zt n) = true := by
 rw [List.take_succ_eq_append_getElem hk, List.all_append, h]
 simpa using hb
theorem bnd_no {n : Int} {l : List V.Itv} {k : Nat} (hk : k < l.length) (hb : V.zt n l[k] = false) : l.all (V.zt n) = false := by
 rw [List.all_eq_false]
 exact ⟨l[k], List.getElem_mem hk, by rw [hb]; decide⟩
theorem zvx {P : Prop} (h : P := by
 rintro e W3 ⟨rfl, hb3⟩
 have HB3 := zu9 HB2 hb3
 clear hb3 k0 k2 k3
 rcases hhi : V.jg n x.hi x.hk with _ | _
 ·have HR : Hid (V.okR n l = false) := zu8 (by rw [HF2.out, HNO.out (by rw [HBD.out, HLO.out, hhi]; rfl)]; rfl)
  clear hhi
  go_wp2
  go_ret
  exact ⟨ze HR.out.symm, HB0.out.trans (HB3.out.mono HB0.out.size)⟩
 ·have HY : Hid ((l.take (k + 1)).all (V.zt n) = true) := zu8 (HYES.out (by rw [HBD.out, HLO.out, hhi]; rfl))
  clear hhi
  go_wp2
  go_roundw
  case rel => exact ⟨k + 1, by omega, by go_num, HY.out, HB3.out⟩
  case measure => simp [intOf]; omega) : P := h
theorem zwc {P : Prop} (h : P := by
 go_enter Tryz.func111, Tryz.ntmps111
 go_wp2_with fail
 generalize w.alloc (.cells #[.int .i64 n, .slice va l.length vc] 68) = w0 at *
 refine (zcc n w0).mono ?_
 rintro e w' ⟨rfl, rfl⟩
 rw [HSC.out]
 go_wp2
 go_ret
 exact ⟨ze HR.out.symm, HB0.out⟩) : P := h
theorem zw5 {P : Prop} (h : P := by
 have HR : Hid (V.okR n l = false) := zu8 (by rw [HF2.out, HNO.out (by rw [HBD.out, hlo]; rfl)]; rfl)
 clear hlo
 go_wp2
 go_ret
 exact ⟨ze HR.out.symm, HB0.out.trans (HB2.out.mono HB0.out.size)⟩) : P := h
theorem zhc (n : Int) (v : Value) (l : List V.Itv) (w : World) (hm : zj w) (hv : Itvs w v l) (hs : Lens l) (hl : l.length ≤ maxLen) :
  Calls Tryz.prog 111 #[setV n v] w fun e w' => e = .returned (.bool (V.okR n l)) /\ Below w.heap.size w w' := by
 have HV := zu8 hv
 obtain ⟨va, vc, rfl⟩ := hv.slice
 unfold maxLen at hl
 have HS := zu8 hs
 have HF : Hid (V.okR n l = (V.scheme n && (decide (l.length ≤ 32) && (l.all (V.zt n) && V.ordB n l)))) := zu8 rfl
 have g1 : Below w.heap.size w (w.alloc (.cells #[.int .i64 n, .slice va l.length vc] 68)) := (zvb _ w).alloc (zva _) _
 have HB0 := zu8 g1
 have HM := zu8 (hm.below g1)
 have c0 : (w.alloc (.cells #[.int .i64 n, .slice va l.length vc] 68)).cell? ⟨w.heap.size, 0, none⟩ = some (.int .i64 n) := by simp [zg]
 have c1 : (w.alloc (.cells #[.int .i64 n, .slice va l.length vc] 68)).cell? ⟨w.heap.size, 1, none⟩ = some (.slice va l.length vc) := by simp [zg]
 clear hv hs g1 hm
 unfold setV
 rcases g0 : V.scheme n with _ | _
 ·have HR : Hid (V.okR n l = false) := zu8 (by rw [HF.out, g0]; rfl)
  have HSC := zu8 g0
  clear g0
  exact zwc
 ·have HSC := zu8 g0
  clear g0
  by_cases h32 : 32 < l.length
  ·have HR : Hid (V.okR n l = false) := zu8 (by rw [HF.out, decide_eq_false (show ¬ l.length ≤ 32 by omega), Bool.false_and, Bool.and_false])
   exact zwc
  ·have g8 : l.length ≤ 32 := by omega
   have HF2 : Hid (V.okR n l = (l.all (V.zt n) && V.ordB n l)) := zu8 (by rw [HF.out, HSC.out, decide_eq_true g8]; rfl)
   have g5 : w.heap.size < (w.alloc (.cells #[.int .i64 n, .slice va l.length vc] 68)).heap.size := by simp
   go_enter Tryz.func111, Tryz.ntmps111
   go_wp2_with fail
   generalize w.alloc (.cells #[.int .i64 n, .slice va l.length vc] 68) = w0 at *
   refine (zcc n w0).mono ?_
   rintro e w' ⟨rfl, rfl⟩
   rw [HSC.out]
   go_wp2
   go_loopw [18] (fun iv wx => ∃ k : Nat, k ≤ l.length /\ iv = .int .i64 k /\ (l.take k).all (V.zt n) = true /\ Below w'.heap.size w' wx) (fun iv _ => l.length - (intOf iv).toNat)
   case atStart => exact ⟨0, Nat.zero_le _, rfl, rfl, zvb _ _⟩
   case round =>
    obtain ⟨k, hk, rfl, hz, g2⟩ := hrel
    have HZ := zu8 hz
    have HBX := zu8 g2
    have HBF := zu9 HB0 g2
    have d0 := (g2.cell (p := ⟨w.heap.size, 0, none⟩) g5).trans c0
    have d1 := (g2.cell (p := ⟨w.heap.size, 1, none⟩) g5).trans c1
    clear hz g2
    by_cases hlt : k < l.length
    ·obtain ⟨b, off, rfl, g1, hx⟩ := HV.out.at k hlt
     obtain ⟨h0, h1, h2, h3⟩ := hx.below g1 HBF.out
     have h6 : (0 : Int) ≤ (k : Int) := by omega
     have h7 : (k : Int) < (l.length : Int) := by omega
     have g3 := HS.out _ (List.getElem_mem hlt)
     have HBD : Hid (V.zt n l[k] = (V.jg n l[k].lo l[k].lk && V.jg n l[k].hi l[k].hk)) := zu8 rfl
     have HYES := zu8 (fun hb => zn8 (n := n) HZ.out hlt hb)
     have HNO := zu8 (fun hb => bnd_no (n := n) hlt hb)
     clear hx
     generalize l[k] = x at *
     have hbA : Below wr.heap.size wr (wr.alloc (.cells #[.string ⟨x.lo.toArray⟩, .int .i64 x.lk, .string ⟨x.hi.toArray⟩, .int .i64 x.hk] 83)) := (zvb _ wr).alloc (zva _) _
     have g6 := zu8 ((HM.out.below HBX.out).below hbA)
     have g9 := zu9 HBX hbA
     have e0 := zb hbA d0
     have g7 : zcv (wr.alloc (.cells #[.string ⟨x.lo.toArray⟩, .int .i64 x.lk, .string ⟨x.hi.toArray⟩, .int .i64 x.hk] 83)) wr.heap.size 0 x := by
      refine ⟨?_, ?_, ?_, ?_⟩ <;> simp [zg]
     have h4 := zu8 g7
     clear hbA g7
     go_wp2_with fail
     generalize wr.alloc (.cells #[.string ⟨x.lo.toArray⟩, .int .i64 x.lk, .string ⟨x.hi.toArray⟩, .int .i64 x.hk] 83) = W1 at *
     obtain ⟨f0, f1, f2, f3⟩ := h4.out
     rw [Nat.zero_add] at f1 f2 f3
     clear h0 h1 h2 h3 d0 d1
     refine (zgz n x.lo x.lk W1 g6.out g3.1).mono ?_
     rintro e W2 ⟨rfl, hb2⟩
     have k0 := zb hb2 e0
     have k2 := zb hb2 f2
     have k3 := zb hb2 f3
     have HB2 := zu9 g9 hb2
     have h5 := zu8 (g6.out.below hb2)
     clear hb2 e0 f0 f1 f2 f3
     rcases hlo : V.jg n x.lo x.lk with _ | _
     ·exact zw5
     ·have HLO := zu8 hlo
      clear hlo
      go_wp2_with fail
      refine (zgz n x.hi x.hk W2 h5.out g3.2).mono ?_
      exact zvx
    ·obtain rfl : k = l.length := by omega
     have g4 : Hid (l.all (V.zt n) = true) := zu8 (by have := HZ.out; rwa [List.take_length] at this)
     go_wp2_with fail
     refine (zkr n _ l wr (HM.out.below HBX.out) HSC.out (HV.out.below HBF.out) (fun x hx => List.all_eq_true.1 g4.out x hx) (by omega)).mono ?_
     rintro e W3 ⟨rfl, hb3⟩
     have HB3 := zu9 HBF hb3
     have HR : Hid (V.okR n l = V.ordB n l) := zu8 (by rw [HF2.out, g4.out]; rfl)
     clear hb3
     go_wp2
     go_ret
     exact ⟨ze HR.out.symm, HB3.out⟩
section
variable {P : Program} {ops : Array Oper} {Q : Exit -> Act -> World -> Prop} {md : Region.Mode} {S : World -> Prop}
theorem tk (i : Nat) {oi : Oper} {v : Value} {fuel : Nat} {l l' : Array Bool} {a a' : Act} {w : World}
  (h : wpAnyH P md ops Q S fuel l' a' w)
  (hi : ops[i]? = some oi := by rfl) (hs : Region.noSelect ops = true := by kernel_rfl) (hf : Region.free md ops l i = true := by kernel_rfl)
  (hr : (Region.ready md ops l).contains i = true := by kernel_rfl)
  (hQ : ∀ c a w, Q (.panic c) (a.put oi.dst v) w -> Q (.panic c) a w := by exact fun _ _ _ h => h)
  (hw : Region.wanted oi (yielded ops a.tmps) = true := by rfl)
  (hy : ∀ w, S w -> (execOp a.eval oi).run P w = .ok (.value v) w := by intro w' hSw; (try dsimp only at hSw); go_simp; try with_reducible rfl)
  (hS : S w := by assumption)
  (hl : l.setIfInBounds i true = l' := by (try simp only [zu6, List.set_cons_succ, List.set_cons_zero]); exact rfl)
  (ha : a.put oi.dst v = a' := by (try simp only [zu3, zu4, zu5, Act.put, zu6, List.set_cons_succ, List.set_cons_zero]); exact rfl) :
  wpAnyH P md ops Q S (fuel + 1) l a w := by
 subst hl ha
 exact wpAnyH_take hi hs hf hr hQ (Or.inl ⟨hw, hy⟩) hS h
theorem tu (i : Nat) {oi : Oper} {fuel : Nat} {l l' : Array Bool} {a a' : Act} {w : World}
  (h : wpAnyH P md ops Q S fuel l' a' w)
  (hi : ops[i]? = some oi := by rfl) (hs : Region.noSelect ops = true := by kernel_rfl) (hf : Region.free md ops l i = true := by kernel_rfl)
  (hr : (Region.ready md ops l).contains i = true := by kernel_rfl)
  (hQ : ∀ c a w, Q (.panic c) (a.put oi.dst undef) w -> Q (.panic c) a w := by exact fun _ _ _ h => h)
  (hw : Region.wanted oi (yielded ops a.tmps) = false := by rfl)
  (hS : S w := by assumption)
  (hl : l.setIfInBounds i true = l' := by (try simp only [zu6, List.set_cons_succ, List.set_cons_zero]); exact rfl)
  (ha : a.put oi.dst undef = a' := by (try simp only [zu3, zu4, zu5, Act.put, zu6, List.set_cons_succ, List.set_cons_zero]); exact rfl) :
  wpAnyH P md ops Q S (fuel + 1) l a w := by
 subst hl ha
 exact wpAnyH_take hi hs hf hr hQ (Or.inr ⟨hw, rfl⟩) hS h
theorem rd (i : Nat) {o : Oper} {fuel : Nat} {l : Array Bool} {a : Act} {w : World}
  (h : ∀ K' : Act -> World -> Prop, Shut (∀ a w, S w -> (S w -> wpAnyH P md ops Q S fuel (l.setIfInBounds i true) a w) -> K' a w) -> if Region.wanted o (yielded ops a.tmps) = true then Oper.wp P o a w K' Q else K' (a.put o.dst undef) w)
  (hi : ops[i]? = some o := by exact rfl) (hr : Region.ready md ops l = [i] := by kernel_rfl) :
  wpAnyH P md ops Q S (fuel + 1) l a w :=
 wpAnyH_ready hr (by simp) (AllReadyH.cons hi h AllReadyH.nil)
theorem nx {i : Nat} {fuel : Nat} {l l' : Array Bool} {a a' : Act} {w : World}
  (h : wpAnyH P md ops Q S fuel l' a' w)
  (hl : l.setIfInBounds i true = l' := by (try simp only [zu6, List.set_cons_succ, List.set_cons_zero]); exact rfl)
  (ha : a = a' := by (try simp only [zu3, zu4, zu5, Act.put, zu6, List.set_cons_succ, List.set_cons_zero]); exact rfl) :
  wpAnyH P md ops Q S fuel (l.setIfInBounds i true) a w := by
 subst hl ha
 exact h
theorem tv (i : Nat) {oi : Oper} (v : Value) {fuel : Nat} {l l' : Array Bool} {a a' : Act} {w : World}
  (hy : ∀ w, S w -> (execOp a.eval oi).run P w = .ok (.value v) w)
  (h : wpAnyH P md ops Q S fuel l' a' w)
  (hi : ops[i]? = some oi := by exact rfl) (hs : Region.noSelect ops = true := by kernel_rfl) (hf : Region.free md ops l i = true := by kernel_rfl)
  (hr : (Region.ready md ops l).contains i = true := by kernel_rfl)
  (hQ : ∀ c a w, Q (.panic c) (a.put oi.dst v) w -> Q (.panic c) a w := by exact fun _ _ _ h => h)
  (hw : Region.wanted oi (yielded ops a.tmps) = true := by rfl)
  (hS : S w := by assumption)
  (hl : l.setIfInBounds i true = l' := by (try simp only [zu6, List.set_cons_succ, List.set_cons_zero]); exact rfl)
  (ha : a.put oi.dst v = a' := by (try simp only [zu3, zu4, zu5, Act.put, zu6, List.set_cons_succ, List.set_cons_zero]); exact rfl) :
  wpAnyH P md ops Q S (fuel + 1) l a w := by
 subst hl ha
 exact wpAnyH_take hi hs hf hr hQ (Or.inl ⟨hw, hy⟩) hS h
end
end Go.Proofs.YtbikeahmldobkaaGreatDoor
