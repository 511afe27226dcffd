/-
  Lemmas for the law.
-/
import Derived.Test.YtbikeahmldobkaaGreatDoorC50x17
import Derived.Test.YtbikeahmldobkaaGreatDoorC50x15
import Derived.Test.YtbikeahmldobkaaGreatDoorC50x13
import Derived.Test.YtbikeahmldobkaaGreatDoorC50x16
import Derived.BigRegion
import Derived.Deep.RegionHeld3
set_option linter.all false
set_option maxRecDepth 100000
set_option maxHeartbeats 1600000
namespace Go.Proofs.YtbikeahmldobkaaGreatDoor
open Go.RowKit
def cutV (c : V.Cut) : Value := .agg #[.string ⟨c.1.toArray⟩, .bool c.2]
def itvV (x : V.Itv) : Value := .agg #[.string ⟨x.lo.toArray⟩, .int .i64 x.lk, .string ⟨x.hi.toArray⟩, .int .i64 x.hk]
def zcb (w : World) (b o : Nat) (x : V.Itv) : Prop := w.cell? ⟨b, o, none⟩ = some (.string ⟨x.lo.toArray⟩) /\ w.cell? ⟨b, o + 1, none⟩ = some (.int .i64 x.lk) /\ w.cell? ⟨b, o + 2, none⟩ = some (.string ⟨x.hi.toArray⟩) /\ w.cell? ⟨b, o + 3, none⟩ = some (.int .i64 x.hk)
def Itvs (w : World) (v : Value) (l : List V.Itv) : Prop := ∃ a cap, v = .slice a l.length cap /\ ∀ j (h : j < l.length), ∃ b off, a = some ⟨b, off, none⟩ /\ b < w.heap.size /\ zcb w b (off + j * 4) l[j]
theorem zcb.below {w w' : World} {b o : Nat} {x : V.Itv} (h : zcb w b o x) (hlt : b < w.heap.size) (hb : Below w.heap.size w w') : zcb w' b o x :=
 ⟨(hb.cell (p := ⟨b, o, none⟩) hlt).trans h.1, (hb.cell (p := ⟨b, o + 1, none⟩) hlt).trans h.2.1, (hb.cell (p := ⟨b, o + 2, none⟩) hlt).trans h.2.2.1, (hb.cell (p := ⟨b, o + 3, none⟩) hlt).trans h.2.2.2⟩
theorem Itvs.nil (w : World) : Itvs w (.slice none 0 0) [] := ⟨none, 0, rfl, fun j h => by simp at h⟩
theorem Itvs.below {w w' : World} {v : Value} {l : List V.Itv} (h : Itvs w v l) (hb : Below w.heap.size w w') : Itvs w' v l := by
 obtain ⟨a, cap, e, hc⟩ := h
 refine ⟨a, cap, e, fun j hj => ?_⟩
 obtain ⟨b, off, ea, hlt, hcell⟩ := hc j hj
 exact ⟨b, off, ea, Nat.lt_of_lt_of_le hlt hb.size, hcell.below hlt hb⟩
theorem Itvs.slice {w : World} {v : Value} {l : List V.Itv} (h : Itvs w v l) : ∃ a cap, v = .slice a l.length cap := by
 obtain ⟨a, c, e, _⟩ := h
 exact ⟨a, c, e⟩
theorem Itvs.at {w : World} {a : Option Addr} {n cap : Nat} {l : List V.Itv} (h : Itvs w (.slice a n cap) l) (j : Nat) (hj : j < l.length) : ∃ b off, a = some ⟨b, off, none⟩ /\ b < w.heap.size /\ zcb w b (off + j * 4) l[j] := by
 obtain ⟨a', c, e, hc⟩ := h
 obtain ⟨b, off, ea, hb, hcell⟩ := hc j hj
 cases e
 exact ⟨b, off, ea, hb, hcell⟩
theorem zyl {P : Prop} (h : P := by
 go_enter Tryz.func149, Tryz.ntmps149
 go_wp2
 go_ret
 exact ⟨rfl, rfl⟩) : P := h
theorem zc2 (n : Int) (w : World) : Calls Tryz.prog 149 #[.int .i64 n] w fun e w' => e = .returned (.bool (V.scheme n)) /\ w' = w := by
 have HS : Hid (V.scheme n = (n == 1 || (n == 3 || n == 2))) := zwg (by unfold V.scheme; cases (n == 1) <;> cases (n == 2) <;> cases (n == 3) <;> rfl)
 by_cases h1 : n = 1
 ·subst h1
  exact zyl
 ·by_cases h2 : n = 2
  ·subst h2
   exact zyl
  ·by_cases h3 : n = 3
   ·subst h3
    exact zyl
   ·have b1 : (n == 1) = false := by simpa using h1
    have b2 : (n == 2) = false := by simpa using h2
    have b3 : (n == 3) = false := by simpa using h3
    have HF : Hid (V.scheme n = false) := zwg (by rw [HS.out, b1, b2, b3]; rfl)
    clear h1 h2 h3
    go_enter Tryz.func149, Tryz.ntmps149
    go_wp2
    go_ret
    exact ⟨zg HF.out.symm, rfl⟩
theorem zeu (x : V.Itv) (w : World) : Calls Tryz.prog 113 #[itvV x] w fun e w' => e = .returned (cutV x.low) /\ Below w.heap.size w w' := by
 unfold itvV cutV V.Itv.low
 obtain ⟨lo, lk, hi, hk⟩ := x
 have HD : Hid (decide (lk = 2) = (lk == 2)) := zwg (by rw [Bool.eq_iff_iff]; simp)
 simp only
 rw [HD.out]
 generalize (⟨lo.toArray⟩ : ByteArray) = s
 generalize (⟨hi.toArray⟩ : ByteArray) = t
 go_enter Tryz.func113, Tryz.ntmps113
 go_wp2
 exact bodyPost_ret (v := .agg #[.string s, .bool (lk == 2)]) (by simp [results, Tryz.results113, go_sem]) rfl ⟨rfl, ((((zwj _ _).alloc (zwi _) _).alloc (by simp) _))⟩
theorem za7 (x : V.Itv) (w : World) : Calls Tryz.prog 114 #[itvV x] w fun e w' => e = .returned (cutV x.high) /\ Below w.heap.size w w' := by
 unfold itvV cutV V.Itv.high
 obtain ⟨lo, lk, hi, hk⟩ := x
 have HD : Hid (decide (hk = 1) = (hk == 1)) := zwg (by rw [Bool.eq_iff_iff]; simp)
 simp only
 rw [HD.out]
 generalize (⟨lo.toArray⟩ : ByteArray) = s
 generalize (⟨hi.toArray⟩ : ByteArray) = t
 go_enter Tryz.func114, Tryz.ntmps114
 go_wp2
 exact bodyPost_ret (v := .agg #[.string t, .bool (hk == 1)]) (by simp [results, Tryz.results114, go_sem]) rfl ⟨rfl, ((((zwj _ _).alloc (zwi _) _).alloc (by simp) _))⟩
theorem xu (n : Int) (c d : V.Cut) (w : World) (hm : zj w) (hn : V.scheme n = true) (hc : V.valid n c.1 = true) (hd : V.valid n d.1 = true) :
  Calls Tryz.prog 112 #[.int .i64 n, cutV c, cutV d] w fun e w' => e = .returned (.int .i64 (V.cutC n c d)) /\ Below w.heap.size w w' := by
 obtain ⟨a, p⟩ := c
 obtain ⟨b, q⟩ := d
 have HF : Hid (V.cutC n (a, p) (b, q) = if V.cmpV n a b ≠ 0 ∨ p = q then V.cmpV n a b else if q then -1 else 1) := rfl
 have HN := zwg hn
 have HC := zwg (show V.valid n a = true from hc)
 have HD := zwg (show V.valid n b = true from hd)
 have g0 : Below w.heap.size w ((w.alloc (.cells #[.string ⟨a.toArray⟩, .bool p] 152)).alloc (.cells #[.string ⟨b.toArray⟩, .bool q] 152)) := ((zwj _ _).alloc (zwi _) _).alloc (by simp) _
 have HB0 := zwg g0
 have HM := zwg (hm.below g0)
 clear hn hc hd g0 hm
 unfold cutV
 simp only
 obtain ⟨z, hz⟩ : ∃ z, V.cmpV n a b = z := ⟨_, rfl⟩
 have HZ := zwg hz
 rw [hz] at HF
 have e1 : ((w.alloc (.cells #[.string ⟨a.toArray⟩, .bool p] 152)).alloc (.cells #[.string ⟨b.toArray⟩, .bool q] 152)).cell? ⟨w.heap.size, 1, none⟩ = some (.bool p) := by simp [zh]
 have e2 : ((w.alloc (.cells #[.string ⟨a.toArray⟩, .bool p] 152)).alloc (.cells #[.string ⟨b.toArray⟩, .bool q] 152)).cell? ⟨w.heap.size + 1, 1, none⟩ = some (.bool q) := by simp [zh]
 have HE := zwg (And.intro e1 e2)
 clear hz e1 e2
 go_enter Tryz.func112, Tryz.ntmps112
 go_wp2_with fail
 refine (zsd n a b z _ HM.out HN.out HC.out HD.out HZ.out).mono ?_
 rintro e w1 ⟨rfl, hb1⟩
 have c1 := (hb1.cell (p := ⟨w.heap.size, 1, none⟩) (by simp; omega)).trans HE.out.1
 have c2 := (hb1.cell (p := ⟨w.heap.size + 1, 1, none⟩) (by simp)).trans HE.out.2
 have HB1 := zwh HB0 hb1
 clear hb1
 by_cases h0 : z = 0
 ·subst h0
  cases p <;> cases q
  all_goals
   go_wp2
   go_ret
   exact ⟨zv (by rw [HF.out]; rfl), HB1.out⟩
 ·have g1 : (z != 0) = true := by simpa using h0
  have g2 : (z == 0) = false := by simpa using h0
  have HF2 : Hid (V.cutC n (a, p) (b, q) = z) := zwg (by rw [HF.out, if_pos (.inl h0)])
  clear h0 HF
  go_wp2
  go_ret
  exact ⟨zv HF2.out.symm, HB1.out⟩
theorem zhv (n : Int) (v : V.Bs) (k : Int) (w : World) (hm : zj w) (hv : v.length ≤ maxLen) :
  Calls Tryz.prog 150 #[.int .i64 n, .string ⟨v.toArray⟩, .int .i64 k] w fun e w' => e = .returned (.bool (V.jn n v k)) /\ Below w.heap.size w w' := by
 have HF : Hid (V.jn n v k = if k = 0 then v.isEmpty else (decide (k = 1) || decide (k = 2)) && V.valid n v) := rfl
 by_cases h0 : k = 0
 ·subst h0
  rw [if_pos rfl] at HF
  by_cases hv0 : v = []
  ·subst hv0
   go_enter Tryz.func150, Tryz.ntmps150
   go_wp2
   go_ret
   exact ⟨rfl, zwj _ _⟩
  ·have HFE : Hid (V.jn n v 0 = false) := zwg (by rw [HF.out]; simpa using hv0)
   have g1 : ¬ v = [] := hv0
   clear hv0 HF
   go_enter Tryz.func150, Tryz.ntmps150
   go_wp2
   go_ret
   exact ⟨zg (by rw [HFE.out]; simpa using g1), zwj _ _⟩
 ·rw [if_neg h0] at HF
  have b0 : (k == 0) = false := by simpa using h0
  by_cases g0 : k = 1 ∨ k = 2
  ·have HF2 : Hid (V.jn n v k = V.valid n v) := zwg (by rw [HF.out]; rcases g0 with h | h <;> simp [h])
   have HM := zwg hm
   clear HF hm
   rcases g0 with rfl | rfl
   all_goals
    go_enter Tryz.func150, Tryz.ntmps150
    go_wp2_with fail
    refine (zhg n ⟨v.toArray⟩ _ HM.out hv).mono ?_
    rintro e w1 ⟨rfl, hb1⟩
    rw [jq]
    have HB1 := zwg hb1
    clear hb1
    go_wp2
    go_ret
    exact ⟨zg HF2.out.symm, HB1.out⟩
  ·have b1 : (k == 1) = false := by simpa using fun h => g0 (.inl h)
   have b2 : (k == 2) = false := by simpa using fun h => g0 (.inr h)
   have HF2 : Hid (V.jn n v k = false) := zwg (by rw [HF.out, decide_eq_false (fun h => g0 (.inl h)), decide_eq_false (fun h => g0 (.inr h))]; rfl)
   clear HF g0 h0
   go_enter Tryz.func150, Tryz.ntmps150
   go_wp2
   go_ret
   exact ⟨zg HF2.out.symm, zwj _ _⟩
def ecV (x : V.Ec) : Value := .agg #[.int .i64 x.e, .string ⟨x.v.toArray⟩, .int .i64 x.s]
theorem vu (x : V.Itv) (w : World) : Calls Tryz.prog 130 #[itvV x] w fun e w' => e = .returned (ecV (V.eLow x)) /\ Below w.heap.size w w' := by
 obtain ⟨lo, lk, hi, hk⟩ := x
 have HF : Hid (V.eLow ⟨lo, lk, hi, hk⟩ = if lk = 1 then ⟨0, lo, 0⟩ else if lk = 2 then ⟨0, lo, 1⟩ else V.ebot) := zwg rfl
 unfold itvV ecV
 simp only
 by_cases h1 : lk = 1
 ·subst h1
  have HR : Hid (V.eLow ⟨lo, 1, hi, hk⟩ = ⟨0, lo, 0⟩) := zwg rfl
  rw [HR.out]
  go_enter Tryz.func130, Tryz.ntmps130
  go_wp2
  exact bodyPost_ret (v := .agg #[.int .i64 0, .string ⟨lo.toArray⟩, .int .i64 0]) (by simp [results, Tryz.results130, go_sem]) rfl ⟨rfl, ((((zwj _ _).alloc (zwi _) _).alloc (by simp) _))⟩
 ·by_cases h2 : lk = 2
  ·subst h2
   have HR : Hid (V.eLow ⟨lo, 2, hi, hk⟩ = ⟨0, lo, 1⟩) := zwg rfl
   rw [HR.out]
   go_enter Tryz.func130, Tryz.ntmps130
   go_wp2
   exact bodyPost_ret (v := .agg #[.int .i64 0, .string ⟨lo.toArray⟩, .int .i64 1]) (by simp [results, Tryz.results130, go_sem]) rfl ⟨rfl, ((((zwj _ _).alloc (zwi _) _).alloc (by simp) _))⟩
  ·have b1 : (lk == 1) = false := by simpa using h1
   have b2 : (lk == 2) = false := by simpa using h2
   have HR : Hid (V.eLow ⟨lo, lk, hi, hk⟩ = ⟨-1, [], 0⟩) := zwg (by rw [HF.out, if_neg h1, if_neg h2]; rfl)
   rw [HR.out]
   clear h1 h2
   go_enter Tryz.func130, Tryz.ntmps130
   go_wp2
   exact bodyPost_ret (v := .agg #[.int .i64 (-1), .string ⟨#[]⟩, .int .i64 0]) (by simp [results, Tryz.results130, go_sem]) rfl ⟨rfl, ((((zwj _ _).alloc (zwi _) _).alloc (by simp) _))⟩
theorem wi (x : V.Itv) (w : World) : Calls Tryz.prog 131 #[itvV x] w fun e w' => e = .returned (ecV (V.ky x)) /\ Below w.heap.size w w' := by
 obtain ⟨lo, lk, hi, hk⟩ := x
 have HF : Hid (V.ky ⟨lo, lk, hi, hk⟩ = if hk = 1 then ⟨0, hi, 1⟩ else if hk = 2 then ⟨0, hi, 0⟩ else V.etop) := zwg rfl
 unfold itvV ecV
 simp only
 by_cases h1 : hk = 1
 ·subst h1
  have HR : Hid (V.ky ⟨lo, lk, hi, 1⟩ = ⟨0, hi, 1⟩) := zwg rfl
  rw [HR.out]
  go_enter Tryz.func131, Tryz.ntmps131
  go_wp2
  exact bodyPost_ret (v := .agg #[.int .i64 0, .string ⟨hi.toArray⟩, .int .i64 1]) (by simp [results, Tryz.results131, go_sem]) rfl ⟨rfl, ((((zwj _ _).alloc (zwi _) _).alloc (by simp) _))⟩
 ·by_cases h2 : hk = 2
  ·subst h2
   have HR : Hid (V.ky ⟨lo, lk, hi, 2⟩ = ⟨0, hi, 0⟩) := zwg rfl
   rw [HR.out]
   go_enter Tryz.func131, Tryz.ntmps131
   go_wp2
   exact bodyPost_ret (v := .agg #[.int .i64 0, .string ⟨hi.toArray⟩, .int .i64 0]) (by simp [results, Tryz.results131, go_sem]) rfl ⟨rfl, ((((zwj _ _).alloc (zwi _) _).alloc (by simp) _))⟩
  ·have b1 : (hk == 1) = false := by simpa using h1
   have b2 : (hk == 2) = false := by simpa using h2
   have HR : Hid (V.ky ⟨lo, lk, hi, hk⟩ = ⟨1, [], 0⟩) := zwg (by rw [HF.out, if_neg h1, if_neg h2]; rfl)
   rw [HR.out]
   clear h1 h2
   go_enter Tryz.func131, Tryz.ntmps131
   go_wp2
   exact bodyPost_ret (v := .agg #[.int .i64 1, .string ⟨#[]⟩, .int .i64 0]) (by simp [results, Tryz.results131, go_sem]) rfl ⟨rfl, ((((zwj _ _).alloc (zwi _) _).alloc (by simp) _))⟩
theorem yq (n : Int) (a b : V.Ec) (w : World) (hm : zj w) (hn : V.scheme n = true) (ha : V.EcOk n a) (hb : V.EcOk n b) :
  Calls Tryz.prog 129 #[.int .i64 n, ecV a, ecV b] w fun e w' => e = .returned (.int .i64 (V.ecmp n a b)) /\ Below w.heap.size w w' := by
 have HZ : Hid (V.ecmp n a b = if a.e ≠ b.e ∨ a.e ≠ 0 then a.e - b.e else if V.cmpV n a.v b.v ≠ 0 then V.cmpV n a.v b.v else a.s - b.s) := zwg rfl
 have HB := zwg (show Below w.heap.size w ((w.alloc (.cells #[.int .i64 a.e, .string ⟨a.v.toArray⟩, .int .i64 a.s] 168)).alloc (.cells #[.int .i64 b.e, .string ⟨b.v.toArray⟩, .int .i64 b.s] 168)) from ((zwj _ _).alloc (zwi _) _).alloc (by simp) _)
 have HM := zwg hm
 have HN := zwg hn
 clear hm hn
 unfold ecV
 rcases ha with rfl | rfl | ⟨⟨x, p⟩, hx, rfl⟩ <;> rcases hb with rfl | rfl | ⟨⟨y, q⟩, hy, rfl⟩
 rotate_right
 ·have HX := zwg (show V.valid n x = true from hx)
  have HY := zwg (show V.valid n y = true from hy)
  clear hx hy
  unfold V.eat at HB HZ ⊢
  simp only at HB HZ ⊢
  obtain ⟨sp, g0⟩ : ∃ sp : Int, sp = if p then 1 else 0 := ⟨_, rfl⟩
  obtain ⟨sq, g1⟩ : ∃ sq : Int, sq = if q then 1 else 0 := ⟨_, rfl⟩
  have g2 : 0 ≤ sp /\ sp ≤ 1 := by rw [g0]; cases p <;> simp
  have g3 : 0 ≤ sq /\ sq ≤ 1 := by rw [g1]; cases q <;> simp
  obtain ⟨g2, g5⟩ := g2
  obtain ⟨g3, g6⟩ := g3
  rw [← g0, ← g1] at HB HZ ⊢
  clear g0 g1
  have g4 := zwg (HM.out.below HB.out)
  obtain ⟨z, hz⟩ : ∃ z, V.cmpV n x y = z := ⟨_, rfl⟩
  rw [hz] at HZ
  have HC := zwg hz
  clear hz
  have e1 : ((w.alloc (.cells #[.int .i64 0, .string ⟨x.toArray⟩, .int .i64 sp] 168)).alloc (.cells #[.int .i64 0, .string ⟨y.toArray⟩, .int .i64 sq] 168)).cell? ⟨w.heap.size, 2, none⟩ = some (.int .i64 sp) := by simp [zh]
  have e2 : ((w.alloc (.cells #[.int .i64 0, .string ⟨x.toArray⟩, .int .i64 sp] 168)).alloc (.cells #[.int .i64 0, .string ⟨y.toArray⟩, .int .i64 sq] 168)).cell? ⟨w.heap.size + 1, 2, none⟩ = some (.int .i64 sq) := by simp [zh]
  have hw := kz n ⟨x.toArray⟩ ⟨y.toArray⟩ ((w.alloc (.cells #[.int .i64 0, .string ⟨x.toArray⟩, .int .i64 sp] 168)).alloc (.cells #[.int .i64 0, .string ⟨y.toArray⟩, .int .i64 sq] 168)) g4.out HN.out (by rw [jq]; exact HX.out) (by rw [jq]; exact HY.out)
  rw [jq, jq, HC.out] at hw
  have HW := zwg hw
  have HE := zwg (And.intro e1 e2)
  clear hw e1 e2
  go_enter Tryz.func129, Tryz.ntmps129
  go_wp2_with fail
  refine HW.out.mono ?_
  rintro e w1 ⟨rfl, hb1⟩
  have c1 := (hb1.cell (p := ⟨w.heap.size, 2, none⟩) (by simp; omega)).trans HE.out.1
  have c2 := (hb1.cell (p := ⟨w.heap.size + 1, 2, none⟩) (by simp)).trans HE.out.2
  have HB1 := zwh HB hb1
  clear hb1
  by_cases h0 : z = 0
  ·subst h0
   have HF2 : Hid (V.ecmp n ⟨0, x, sp⟩ ⟨0, y, sq⟩ = sp - sq) := zwg (by rw [HZ.out]; simp)
   clear HZ
   go_wp2
   go_ret
   exact ⟨zv HF2.out.symm, HB1.out⟩
  ·have g7 : (z != 0) = true := by simpa using h0
   have HF2 : Hid (V.ecmp n ⟨0, x, sp⟩ ⟨0, y, sq⟩ = z) := zwg (by
     rw [HZ.out, if_neg (by simp), if_pos h0])
   clear h0 HZ
   go_wp2
   go_ret
   exact ⟨zv HF2.out.symm, HB1.out⟩
 all_goals try (cases p)
 all_goals try (cases q)
 all_goals
  try unfold V.ebot at HB HZ ⊢
  try unfold V.etop at HB HZ ⊢
  try unfold V.eat at HB HZ ⊢
  simp only at HB HZ ⊢
  go_enter Tryz.func129, Tryz.ntmps129
  go_wp2
  go_ret
  exact ⟨zv (by unfold V.ecmp; simp), HB.out⟩
theorem zh4 (n : Int) (v : V.Bs) (k : Int) (w : World) (hm : zj w) (hv : v.length ≤ maxLen) :
  Calls Tryz.prog 128 #[.int .i64 n, .int .i64 k, .string ⟨v.toArray⟩] w fun e w' => e = .returned (.bool (V.jn n v k)) /\ Below w.heap.size w w' := by
 have HF : Hid (V.jn n v k = if k = 0 then v.isEmpty else (decide (k = 1) || decide (k = 2)) && V.valid n v) := rfl
 by_cases h0 : k = 0
 ·subst h0
  rw [if_pos rfl] at HF
  by_cases hv0 : v = []
  ·subst hv0
   go_enter Tryz.func128, Tryz.ntmps128
   go_wp2
   go_ret
   exact ⟨rfl, zwj _ _⟩
  ·have HFE : Hid (V.jn n v 0 = false) := zwg (by rw [HF.out]; simpa using hv0)
   have g1 : ¬ v = [] := hv0
   clear hv0 HF
   go_enter Tryz.func128, Tryz.ntmps128
   go_wp2
   go_ret
   exact ⟨zg (by rw [HFE.out]; simpa using g1), zwj _ _⟩
 ·rw [if_neg h0] at HF
  have b0 : (k == 0) = false := by simpa using h0
  by_cases g0 : k = 1 ∨ k = 2
  ·have HF2 : Hid (V.jn n v k = V.valid n v) := zwg (by rw [HF.out]; rcases g0 with h | h <;> simp [h])
   have HM := zwg hm
   clear HF hm
   rcases g0 with rfl | rfl
   all_goals
    go_enter Tryz.func128, Tryz.ntmps128
    go_wp2_with fail
    refine (kr n ⟨v.toArray⟩ _ HM.out hv).mono ?_
    rintro e w1 ⟨rfl, hb1⟩
    rw [jq]
    have HB1 := zwg hb1
    clear hb1
    go_wp2
    go_ret
    exact ⟨zg HF2.out.symm, HB1.out⟩
  ·have b1 : (k == 1) = false := by simpa using fun h => g0 (.inl h)
   have b2 : (k == 2) = false := by simpa using fun h => g0 (.inr h)
   have HF2 : Hid (V.jn n v k = false) := zwg (by rw [HF.out, decide_eq_false (fun h => g0 (.inl h)), decide_eq_false (fun h => g0 (.inr h))]; rfl)
   clear HF g0 h0
   go_enter Tryz.func128, Tryz.ntmps128
   go_wp2
   go_ret
   exact ⟨zg HF2.out.symm, zwj _ _⟩
open Go.RowKit
theorem ze {W W' : World} {b o : Nat} {v : Value} (hb : Below W.heap.size W W') (h : W.cell? ⟨b, o, none⟩ = some v) : W'.cell? ⟨b, o, none⟩ = some v :=
 (hb.cell (p := ⟨b, o, none⟩) (World.block_lt_of_cell? _ _ h)).trans h
theorem zwm {W W' : World} {b o : Nat} {v : Value} (hb : Below W.heap.size W W') (h : W.cell? ⟨b, o, none⟩ = some v := by assumption) : W'.cell? ⟨b, o, none⟩ = some v := ze hb h
theorem zep {n : Int} {l : List V.Itv} {k : Nat} (h : ∀ i, i < k -> V.okAt n l i = true) (hk : V.okAt n l k = true) : ∀ i, i < k + 1 -> V.okAt n l i = true := fun i hi => by
 by_cases e : i = k
 ·subst e; exact hk
 ·exact h i (by omega)
theorem zhb {n : Int} {l : List V.Itv} {k : Nat} (hk : k < l.length) (h : V.okAt n l k = false) : V.ordB n l = false := by
 rcases hb : V.ordB n l with _ | _
 ·rfl
 ·rw [(V.zca n l).1 hb k hk] at h; cases h
theorem ziy {l : List V.Itv} {k : Nat} (h : k < l.length) : l.getD k V.noI = l[k] := by rw [List.getD_eq_getElem?_getD, List.getElem?_eq_getElem h]; rfl
theorem zyk {P : Prop} (h : P := by
 go_wp2
 go_roundw
 case rel => exact ⟨k + 1, by omega, by go_num, HOK.out, HBZ.out⟩
 case measure => simp [intOf]; omega) : P := h
theorem zzs {P : Prop} (h : P := by
 go_quiet (fail)
 have HBZ := zwg (below_drewN HBV.out nq)
 generalize W2.drewN nq = W3 at *
 go_wp2
 go_ret
 exact ⟨zg HNO.out.symm, HBZ.out⟩) : P := h
theorem z0p {P : Prop} (h : P := by
 refine ⟨?_, ?_, ?_, ?_⟩ <;> simp [zh]) : P := h
theorem zlj (n : Int) (v : Value) (l : List V.Itv) (w : World) (hm : zj w) (hn : V.scheme n = true) (hv : Itvs w v l) (hb : ∀ x ∈ l, V.zr n x = true) (hl : l.length ≤ 1000) :
  Calls Tryz.prog 151 #[.int .i64 n, v] w fun e w' => e = .returned (.bool (V.ordB n l)) /\ Below w.heap.size w w' := by
 have HV := zwg hv
 obtain ⟨va, vc, rfl⟩ := hv.slice
 have HN := zwg hn
 have HM := zwg hm
 have HB := zwg hb
 clear hn hm hb hv
 go_enter Tryz.func151, Tryz.ntmps151
 go_wp2
 go_loopw [10] (fun iv wx => ∃ k : Nat, k ≤ l.length /\ iv = .int .i64 k /\ (∀ i, i < k -> V.okAt n l i = true) /\ Below w.heap.size w wx) (fun iv _ => l.length - (intOf iv).toNat)
 case atStart => exact ⟨0, Nat.zero_le _, rfl, fun i hi => by omega, zwj _ _⟩
 case round =>
  obtain ⟨k, hk, rfl, hz, g7⟩ := hrel
  have HZ := zwg hz
  have HBX := zwg g7
  clear hz g7
  by_cases hlt : k < l.length
  ·obtain ⟨b, off, rfl, j3, hx⟩ := HV.out.at k hlt
   have j4 := hx.below j3 HBX.out
   obtain ⟨h0, h1, h2, h3⟩ := j4
   have k1 : (0 : Int) ≤ (k : Int) := by omega
   have k2 : (k : Int) < (l.length : Int) := by omega
   have g7 : V.zr n l[k] = true := HB.out _ (List.getElem_mem hlt)
   have HBK := zwg g7
   have HG := zwg (ziy hlt)
   clear hx g7
   have h8 : wr.heap.size < (wr.alloc (.cells #[.string ⟨l[k].lo.toArray⟩, .int .i64 l[k].lk, .string ⟨l[k].hi.toArray⟩, .int .i64 l[k].hk] 83)).heap.size := by simp
   have hbW : Below w.heap.size w (wr.alloc (.cells #[.string ⟨l[k].lo.toArray⟩, .int .i64 l[k].lk, .string ⟨l[k].hi.toArray⟩, .int .i64 l[k].hk] 83)) := HBX.out.alloc HBX.out.size _
   have h9 : zcb (wr.alloc (.cells #[.string ⟨l[k].lo.toArray⟩, .int .i64 l[k].lk, .string ⟨l[k].hi.toArray⟩, .int .i64 l[k].hk] 83)) wr.heap.size 0 l[k] := by
    exact z0p
   have j5 := zwg h9
   have HBW := zwg hbW
   clear h9 hbW
   go_wp2_with fail
   generalize wr.alloc (.cells #[.string ⟨l[k].lo.toArray⟩, .int .i64 l[k].lk, .string ⟨l[k].hi.toArray⟩, .int .i64 l[k].hk] 83) = W0 at *
   obtain ⟨d0, d1, d2, d3⟩ := j5.out
   rw [Nat.zero_add] at d1 d2 d3
   have h4 := zwg (fun (h1 : l[k].lk ≠ 0) => V.kw HBK.out h1)
   have j0 := zwg (fun (h1 : l[k].hk ≠ 0) => V.qs HBK.out h1)
   have g9 : Hid (zj W0) := zwg (HM.out.below HBW.out)
   have j1 : Hid (V.yk n l[k] = (decide (l[k].lk = 0) || (decide (l[k].hk = 0) || decide (V.cutC n l[k].low l[k].high < 0)))) := zwg rfl
   generalize l[k] = x at *
   clear h0 h1 h2 h3
   rcases g3 : V.yk n x with _ | _
   ·have HIN := zwg g3
    rw [j1.out] at g3
    simp only [Bool.or_eq_false_iff, decide_eq_false_iff_not] at g3
    obtain ⟨i1, i2, i3⟩ := g3
    have g5 := h4.out i1
    have g4 := j0.out i2
    have g1 : (x.lk != 0) = true := by simpa using i1
    have g2 : (x.hk != 0) = true := by simpa using i2
    have i4 : 0 ≤ V.cutC n x.low x.high := by omega
    have HNO : Hid (V.ordB n l = false) := zwg (zhb hlt (by unfold V.okAt; rw [HG.out, HIN.out]; rfl))
    clear i1 i2 i3
    go_region_held3 (fun W' => zj W' /\ W'.cell? ⟨wr.heap.size, 0, none⟩ = some (.string ⟨x.lo.toArray⟩) /\ W'.cell? ⟨wr.heap.size, 1, none⟩ = some (.int .i64 x.lk) /\ W'.cell? ⟨wr.heap.size, 2, none⟩ = some (.string ⟨x.hi.toArray⟩) /\ W'.cell? ⟨wr.heap.size, 3, none⟩ = some (.int .i64 x.hk))
     (first
       | (go_split_ands; exact ⟨zj.below (by assumption) g0, zwm g0, zwm g0, zwm g0, zwm g0⟩)
       | (exact ⟨g9.out, d0, d1, d2, d3⟩)
       | go_keep)
     (first
       | (go_at_call 113; refine (zeu x _).mono ?_; rintro e wq ⟨rfl, g0⟩)
       | (go_at_call 114; refine (za7 x _).mono ?_; rintro e wq ⟨rfl, g0⟩)
       | (go_at_call 112; refine (xu n x.low x.high _ (by first | assumption | exact And.left (by assumption)) HN.out g5 g4).mono ?_; rintro e wq ⟨rfl, g0⟩))
    rename_i wa hba wb hbb hS
    have HBZ := zwg (HBW.out.trans ((((zwj W0.heap.size W0).drew).trans (Below.trans (show Below W0.heap.size W0.drew wa from hba) ((hbb.trans (g0.mono hbb.size)).mono hba.size))).mono HBW.out.size))
    clear hba hbb g0 hS
    generalize V.cutC n x.low x.high = z at *
    go_wp2
    go_ret
    exact ⟨zg HNO.out.symm, HBZ.out⟩
   ·have HIN := zwg g3
    have hcase : (x.lk != 0) = false ∨ ((x.lk != 0) = true /\ (x.hk != 0) = false) ∨ ((x.lk != 0) = true /\ (x.hk != 0) = true) := by
     cases (x.lk != 0) <;> cases (x.hk != 0) <;> simp
    rcases hcase with g1 | ⟨g1, g2⟩ | ⟨g1, g2⟩
    focus
     clear g3
     go_quiet (fail)
     have HB1 := zwg (below_drewN (zwj W0.heap.size W0) nq)
     generalize W0.drewN nq = W1 at *
    rotate_left
    focus
     clear g3
     go_quiet (fail)
     have HB1 := zwg (below_drewN (zwj W0.heap.size W0) nq)
     generalize W0.drewN nq = W1 at *
    rotate_left
    focus
     have i1 : x.lk ≠ 0 := by simpa using g1
     have i2 : x.hk ≠ 0 := by simpa using g2
     have g5 := h4.out i1
     have g4 := j0.out i2
     have i4 : ¬ (0 ≤ V.cutC n x.low x.high) := by
      rw [j1.out] at g3
      simp only [Bool.or_eq_true, decide_eq_true_eq] at g3
      omega
     clear i1 i2 g3
     go_region_held3 (fun W' => zj W' /\ W'.cell? ⟨wr.heap.size, 0, none⟩ = some (.string ⟨x.lo.toArray⟩) /\ W'.cell? ⟨wr.heap.size, 1, none⟩ = some (.int .i64 x.lk) /\ W'.cell? ⟨wr.heap.size, 2, none⟩ = some (.string ⟨x.hi.toArray⟩) /\ W'.cell? ⟨wr.heap.size, 3, none⟩ = some (.int .i64 x.hk))
      (first
        | (go_split_ands; exact ⟨zj.below (by assumption) g0, zwm g0, zwm g0, zwm g0, zwm g0⟩)
        | (exact ⟨g9.out, d0, d1, d2, d3⟩)
        | go_keep)
      (first
        | (go_at_call 113; refine (zeu x _).mono ?_; rintro e wq ⟨rfl, g0⟩)
        | (go_at_call 114; refine (za7 x _).mono ?_; rintro e wq ⟨rfl, g0⟩)
        | (go_at_call 112; refine (xu n x.low x.high _ (by first | assumption | exact And.left (by assumption)) HN.out g5 g4).mono ?_; rintro e wq ⟨rfl, g0⟩))
     rename_i wa hba wb hbb hS
     have HB1 := zwg ((((zwj W0.heap.size W0).drew).trans (Below.trans (show Below W0.heap.size W0.drew wa from hba) ((hbb.trans (g0.mono hbb.size)).mono hba.size))))
     clear hba hbb g0 hS
     generalize V.cutC n x.low x.high = z at *
     generalize wq = W1 at *
    rotate_left
    all_goals
     have g6 := zwg (HBW.out.trans (HB1.out.mono HBW.out.size))
     have e0 := ze HB1.out d0
     have e1 := ze HB1.out d1
     have e2 := ze HB1.out d2
     have e3 := ze HB1.out d3
     have k3 : wr.heap.size < W1.heap.size := Nat.lt_of_lt_of_le h8 HB1.out.size
     have j6 := zwg (g9.out.below HB1.out)
     clear d0 d1 d2 d3 HB1 g9 h8
     by_cases hk0 : k = 0
     ·have j7 : ((k : Int) == 0) = true := by rw [hk0]; rfl
      have HOK : Hid (∀ i, i < k + 1 -> V.okAt n l i = true) := zwg (zep HZ.out (by unfold V.okAt; rw [HG.out, HIN.out, hk0]; rfl))
      clear hk0 e0 e1 e2 e3
      go_wp2
      go_roundw
      case rel => exact ⟨k + 1, by omega, by go_num, HOK.out, g6.out⟩
      case measure => simp [intOf]; omega
     ·have j7 : ((k : Int) == 0) = false := by rw [zwk]; omega
      have k4 : (1 : Int) ≤ (k : Int) := by omega
      have k5 : (k : Int) - 1 < (l.length : Int) := by omega
      have h5 : k - 1 < l.length := by omega
      obtain ⟨b', off', eb, hb1, hy⟩ := HV.out.at (k - 1) h5
      cases eb
      obtain ⟨y0, y1, y2, y3⟩ := hy.below hb1 g6.out
      have HBY : Hid (V.zr n l[k - 1] = true) := zwg (HB.out _ (List.getElem_mem h5))
      have j8 := zwg (ziy h5)
      generalize l[k - 1] = y at *
      have HNB : Hid (V.za8 n y x = (!decide (y.hk = 0) && (!decide (x.lk = 0) && decide (V.cutC n y.high x.low < 0)))) := zwg rfl
      have g8 : Hid (V.okAt n l k = V.za8 n y x) := zwg (by unfold V.okAt; rw [HG.out, j8.out, HIN.out, decide_eq_false hk0]; rfl)
      have hbV : Below w.heap.size w (W1.alloc (.cells #[.string ⟨y.lo.toArray⟩, .int .i64 y.lk, .string ⟨y.hi.toArray⟩, .int .i64 y.hk] 83)) := g6.out.alloc g6.out.size _
      have HBV := zwg hbV
      have hbA : Below W1.heap.size W1 (W1.alloc (.cells #[.string ⟨y.lo.toArray⟩, .int .i64 y.lk, .string ⟨y.hi.toArray⟩, .int .i64 y.hk] 83)) := (zwj _ W1).alloc (zwi _) _
      have e0' := ze hbA e0
      have e1' := ze hbA e1
      have e2' := ze hbA e2
      have e3' := ze hbA e3
      have j2 : zcb (W1.alloc (.cells #[.string ⟨y.lo.toArray⟩, .int .i64 y.lk, .string ⟨y.hi.toArray⟩, .int .i64 y.hk] 83)) W1.heap.size 0 y := by
       exact z0p
      have j9 := zwg j2
      have k0 := zwg (j6.out.below hbA)
      clear hy j2 hbV hbA hk0 hb1
      go_wp2_with fail
      generalize W1.alloc (.cells #[.string ⟨y.lo.toArray⟩, .int .i64 y.lk, .string ⟨y.hi.toArray⟩, .int .i64 y.hk] 83) = W2 at *
      obtain ⟨f0, f1, f2, f3⟩ := j9.out
      rw [Nat.zero_add] at f1 f2 f3
      clear y0 y1 y2 y3 e0 e1 e2 e3
      have h6 : (y.hk == 0) = true ∨ ((y.hk == 0) = false /\ (x.lk == 0) = true) ∨ ((y.hk == 0) = false /\ (x.lk == 0) = false) := by
       cases (y.hk == 0) <;> cases (x.lk == 0) <;> simp
      rcases h6 with q1 | ⟨q1, q2⟩ | ⟨q1, q2⟩
      ·have HNO : Hid (V.ordB n l = false) := zwg (zhb hlt (by rw [g8.out, HNB.out, decide_eq_true (eq_of_beq q1)]; rfl))
       exact zzs
      ·have HNO : Hid (V.ordB n l = false) := zwg (zhb hlt (by rw [g8.out, HNB.out, decide_eq_true (eq_of_beq q2)]; simp))
       exact zzs
      ·have i1 : y.hk ≠ 0 := by simpa using q1
       have i2 : x.lk ≠ 0 := by simpa using q2
       have g5 := h4.out i2
       have g4 := V.qs HBY.out i1
       have h7 : Hid (V.okAt n l k = decide (V.cutC n y.high x.low < 0)) := zwg (by rw [g8.out, HNB.out, decide_eq_false i1, decide_eq_false i2]; simp)
       clear i1 i2
       go_region_held3 (fun W' => zj W' /\ W'.cell? ⟨wr.heap.size, 0, none⟩ = some (.string ⟨x.lo.toArray⟩) /\ W'.cell? ⟨wr.heap.size, 1, none⟩ = some (.int .i64 x.lk) /\ W'.cell? ⟨wr.heap.size, 2, none⟩ = some (.string ⟨x.hi.toArray⟩) /\ W'.cell? ⟨wr.heap.size, 3, none⟩ = some (.int .i64 x.hk) /\
         W'.cell? ⟨W1.heap.size, 0, none⟩ = some (.string ⟨y.lo.toArray⟩) /\ W'.cell? ⟨W1.heap.size, 1, none⟩ = some (.int .i64 y.lk) /\ W'.cell? ⟨W1.heap.size, 2, none⟩ = some (.string ⟨y.hi.toArray⟩) /\ W'.cell? ⟨W1.heap.size, 3, none⟩ = some (.int .i64 y.hk))
        (first
          | (go_split_ands; exact ⟨zj.below (by assumption) g0, zwm g0, zwm g0, zwm g0, zwm g0, zwm g0, zwm g0, zwm g0, zwm g0⟩)
          | (exact ⟨k0.out, e0', e1', e2', e3', f0, f1, f2, f3⟩)
          | go_keep)
        (first
          | (go_at_call 113; refine (zeu x _).mono ?_; rintro e wq ⟨rfl, g0⟩)
          | (go_at_call 114; refine (za7 y _).mono ?_; rintro e wq ⟨rfl, g0⟩)
          | (go_at_call 112; refine (xu n y.high x.low _ (by first | assumption | exact And.left (by assumption)) HN.out g4 g5).mono ?_; rintro e wq ⟨rfl, g0⟩))
       rename_i wa hba wb hbb hS
       have HBZ := zwg (HBV.out.trans ((((zwj W2.heap.size W2).drew).trans (Below.trans (show Below W2.heap.size W2.drew wa from hba) ((hbb.trans (g0.mono hbb.size)).mono hba.size))).mono HBV.out.size))
       clear hba hbb g0 hS f0 f1 f2 f3 e0' e1' e2' e3'
       generalize V.cutC n y.high x.low = z2 at *
       by_cases hzz : 0 ≤ z2
       ·have HNO : Hid (V.ordB n l = false) := zwg (zhb hlt (by rw [h7.out]; exact decide_eq_false (by omega)))
        go_wp2
        go_ret
        exact ⟨zg HNO.out.symm, HBZ.out⟩
       ·have HOK : Hid (∀ i, i < k + 1 -> V.okAt n l i = true) := zwg (zep HZ.out (by rw [h7.out]; exact decide_eq_true (by omega)))
        exact zyk
  ·obtain rfl : k = l.length := by omega
   have HR : Hid (V.ordB n l = true) := zwg ((V.zca n l).2 HZ.out)
   go_wp2
   go_ret
   exact ⟨zg HR.out.symm, HBX.out⟩
def setV (n : Int) (v : Value) : Value := .agg #[.int .i64 n, v]
def Lens (l : List V.Itv) : Prop := ∀ x ∈ l, x.lo.length ≤ maxLen /\ x.hi.length ≤ maxLen
theorem zo0 {n : Int} {l : List V.Itv} {k : Nat} (h : (l.take k).all (V.zr n) = true) (hk : k < l.length) (hb : V.zr n l[k] = true) : (l.take (k + 1)).all (V.zr n) = true := by
 rw [List.take_succ_eq_append_getElem hk, List.all_append, h]
 simpa using hb
theorem bnd_no {n : Int} {l : List V.Itv} {k : Nat} (hk : k < l.length) (hb : V.zr n l[k] = false) : l.all (V.zr n) = false := by
 rw [List.all_eq_false]
 exact ⟨l[k], List.getElem_mem hk, by rw [hb]; decide⟩
theorem zw8 {P : Prop} (h : P := by
 rintro e W3 ⟨rfl, hb3⟩
 have HB3 := zwh HB2 hb3
 clear hb3 k0 k2 k3
 rcases hhi : V.jn n x.hi x.hk with _ | _
 ·have HR : Hid (V.okR n l = false) := zwg (by rw [HF2.out, HNO.out (by rw [HBD.out, HLO.out, hhi]; rfl)]; rfl)
  clear hhi
  go_wp2
  go_ret
  exact ⟨zg HR.out.symm, HB0.out.trans (HB3.out.mono HB0.out.size)⟩
 ·have HY : Hid ((l.take (k + 1)).all (V.zr n) = true) := zwg (HYES.out (by rw [HBD.out, HLO.out, hhi]; rfl))
  clear hhi
  go_wp2
  go_roundw
  case rel => exact ⟨k + 1, by omega, by go_num, HY.out, HB3.out⟩
  case measure => simp [intOf]; omega) : P := h
theorem zxr {P : Prop} (h : P := by
 go_enter Tryz.func111, Tryz.ntmps111
 go_wp2_with fail
 generalize w.alloc (.cells #[.int .i64 n, .slice va l.length vc] 68) = w0 at *
 refine (zc2 n w0).mono ?_
 rintro e w' ⟨rfl, rfl⟩
 rw [HSC.out]
 go_wp2
 go_ret
 exact ⟨zg HR.out.symm, HB0.out⟩) : P := h
theorem zyr {P : Prop} (h : P := by
 have HR : Hid (V.okR n l = false) := zwg (by rw [HF2.out, HNO.out (by rw [HBD.out, hlo]; rfl)]; rfl)
 clear hlo
 go_wp2
 go_ret
 exact ⟨zg HR.out.symm, HB0.out.trans (HB2.out.mono HB0.out.size)⟩) : P := h
theorem zh7 (n : Int) (v : Value) (l : List V.Itv) (w : World) (hm : zj w) (hv : Itvs w v l) (hs : Lens l) (hl : l.length ≤ maxLen) :
  Calls Tryz.prog 111 #[setV n v] w fun e w' => e = .returned (.bool (V.okR n l)) /\ Below w.heap.size w w' := by
 have HV := zwg hv
 obtain ⟨va, vc, rfl⟩ := hv.slice
 unfold maxLen at hl
 have HS := zwg hs
 have HF : Hid (V.okR n l = (V.scheme n && (decide (l.length ≤ 32) && (l.all (V.zr n) && V.ordB n l)))) := zwg rfl
 have g1 : Below w.heap.size w (w.alloc (.cells #[.int .i64 n, .slice va l.length vc] 68)) := (zwj _ w).alloc (zwi _) _
 have HB0 := zwg g1
 have HM := zwg (hm.below g1)
 have c0 : (w.alloc (.cells #[.int .i64 n, .slice va l.length vc] 68)).cell? ⟨w.heap.size, 0, none⟩ = some (.int .i64 n) := by simp [zh]
 have c1 : (w.alloc (.cells #[.int .i64 n, .slice va l.length vc] 68)).cell? ⟨w.heap.size, 1, none⟩ = some (.slice va l.length vc) := by simp [zh]
 clear hv hs g1 hm
 unfold setV
 rcases g0 : V.scheme n with _ | _
 ·have HR : Hid (V.okR n l = false) := zwg (by rw [HF.out, g0]; rfl)
  have HSC := zwg g0
  clear g0
  exact zxr
 ·have HSC := zwg g0
  clear g0
  by_cases h32 : 32 < l.length
  ·have HR : Hid (V.okR n l = false) := zwg (by rw [HF.out, decide_eq_false (show ¬ l.length ≤ 32 by omega), Bool.false_and, Bool.and_false])
   exact zxr
  ·have g8 : l.length ≤ 32 := by omega
   have HF2 : Hid (V.okR n l = (l.all (V.zr n) && V.ordB n l)) := zwg (by rw [HF.out, HSC.out, decide_eq_true g8]; rfl)
   have g5 : w.heap.size < (w.alloc (.cells #[.int .i64 n, .slice va l.length vc] 68)).heap.size := by simp
   go_enter Tryz.func111, Tryz.ntmps111
   go_wp2_with fail
   generalize w.alloc (.cells #[.int .i64 n, .slice va l.length vc] 68) = w0 at *
   refine (zc2 n w0).mono ?_
   rintro e w' ⟨rfl, rfl⟩
   rw [HSC.out]
   go_wp2
   go_loopw [18] (fun iv wx => ∃ k : Nat, k ≤ l.length /\ iv = .int .i64 k /\ (l.take k).all (V.zr n) = true /\ Below w'.heap.size w' wx) (fun iv _ => l.length - (intOf iv).toNat)
   case atStart => exact ⟨0, Nat.zero_le _, rfl, rfl, zwj _ _⟩
   case round =>
    obtain ⟨k, hk, rfl, hz, g2⟩ := hrel
    have HZ := zwg hz
    have HBX := zwg g2
    have HBF := zwh HB0 g2
    have d0 := (g2.cell (p := ⟨w.heap.size, 0, none⟩) g5).trans c0
    have d1 := (g2.cell (p := ⟨w.heap.size, 1, none⟩) g5).trans c1
    clear hz g2
    by_cases hlt : k < l.length
    ·obtain ⟨b, off, rfl, g1, hx⟩ := HV.out.at k hlt
     obtain ⟨h0, h1, h2, h3⟩ := hx.below g1 HBF.out
     have h6 : (0 : Int) ≤ (k : Int) := by omega
     have h7 : (k : Int) < (l.length : Int) := by omega
     have g3 := HS.out _ (List.getElem_mem hlt)
     have HBD : Hid (V.zr n l[k] = (V.jn n l[k].lo l[k].lk && V.jn n l[k].hi l[k].hk)) := zwg rfl
     have HYES := zwg (fun hb => zo0 (n := n) HZ.out hlt hb)
     have HNO := zwg (fun hb => bnd_no (n := n) hlt hb)
     clear hx
     generalize l[k] = x at *
     have hbA : Below wr.heap.size wr (wr.alloc (.cells #[.string ⟨x.lo.toArray⟩, .int .i64 x.lk, .string ⟨x.hi.toArray⟩, .int .i64 x.hk] 83)) := (zwj _ wr).alloc (zwi _) _
     have g6 := zwg ((HM.out.below HBX.out).below hbA)
     have g9 := zwh HBX hbA
     have e0 := ze hbA d0
     have g7 : zcb (wr.alloc (.cells #[.string ⟨x.lo.toArray⟩, .int .i64 x.lk, .string ⟨x.hi.toArray⟩, .int .i64 x.hk] 83)) wr.heap.size 0 x := by
      exact z0p
     have h4 := zwg g7
     clear hbA g7
     go_wp2_with fail
     generalize wr.alloc (.cells #[.string ⟨x.lo.toArray⟩, .int .i64 x.lk, .string ⟨x.hi.toArray⟩, .int .i64 x.hk] 83) = W1 at *
     obtain ⟨f0, f1, f2, f3⟩ := h4.out
     rw [Nat.zero_add] at f1 f2 f3
     clear h0 h1 h2 h3 d0 d1
     refine (zhv n x.lo x.lk W1 g6.out g3.1).mono ?_
     rintro e W2 ⟨rfl, hb2⟩
     have k0 := ze hb2 e0
     have k2 := ze hb2 f2
     have k3 := ze hb2 f3
     have HB2 := zwh g9 hb2
     have h5 := zwg (g6.out.below hb2)
     clear hb2 e0 f0 f1 f2 f3
     rcases hlo : V.jn n x.lo x.lk with _ | _
     ·exact zyr
     ·have HLO := zwg hlo
      clear hlo
      go_wp2_with fail
      refine (zhv n x.hi x.hk W2 h5.out g3.2).mono ?_
      exact zw8
    ·obtain rfl : k = l.length := by omega
     have g4 : Hid (l.all (V.zr n) = true) := zwg (by have := HZ.out; rwa [List.take_length] at this)
     go_wp2_with fail
     refine (zlj n _ l wr (HM.out.below HBX.out) HSC.out (HV.out.below HBF.out) (fun x hx => List.all_eq_true.1 g4.out x hx) (by omega)).mono ?_
     rintro e W3 ⟨rfl, hb3⟩
     have HB3 := zwh HBF hb3
     have HR : Hid (V.okR n l = V.ordB n l) := zwg (by rw [HF2.out, g4.out]; rfl)
     clear hb3
     go_wp2
     go_ret
     exact ⟨zg HR.out.symm, HB3.out⟩
end Go.Proofs.YtbikeahmldobkaaGreatDoor
