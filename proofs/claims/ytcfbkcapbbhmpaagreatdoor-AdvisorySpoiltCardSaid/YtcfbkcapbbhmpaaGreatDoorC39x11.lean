import Derived.Test.YtcfbkcapbbhmpaaGreatDoorC39x10
import Derived.Test.YtcfbkcapbbhmpaaGreatDoorC39x08
import Derived.Test.YtcfbkcapbbhmpaaGreatDoorC39x07
import Derived.Test.YtcfbkcapbbhmpaaGreatDoorC39x09
import Derived.Test.YtcfbkcapbbhmpaaGreatDoorC39x02
import Derived.BigRegion
import Derived.Deep.RegionHeld3
set_option linter.all false
set_option maxRecDepth 100000
set_option maxHeartbeats 1600000
namespace Go.Proofs.YtcfbkcapbbhmpaaGreatDoor
open Go.RowKit
def cutV (c : V.Cut) : Value := .agg #[.string ⟨c.1.toArray⟩, .bool c.2]
def itvV (x : V.Itv) : Value := .agg #[.string ⟨x.lo.toArray⟩, .int .i64 x.lk, .string ⟨x.hi.toArray⟩, .int .i64 x.hk]
def zca (w : World) (b o : Nat) (x : V.Itv) : Prop := w.cell? ⟨b, o, none⟩ = some (.string ⟨x.lo.toArray⟩) /\ w.cell? ⟨b, o + 1, none⟩ = some (.int .i64 x.lk) /\ w.cell? ⟨b, o + 2, none⟩ = some (.string ⟨x.hi.toArray⟩) /\ w.cell? ⟨b, o + 3, none⟩ = some (.int .i64 x.hk)
def Itvs (w : World) (v : Value) (l : List V.Itv) : Prop := ∃ a cap, v = .slice a l.length cap /\ ∀ j (h : j < l.length), ∃ b off, a = some ⟨b, off, none⟩ /\ b < w.heap.size /\ zca w b (off + j * 4) l[j]
theorem zca.below {w w' : World} {b o : Nat} {x : V.Itv} (h : zca w b o x) (hlt : b < w.heap.size) (hb : Below w.heap.size w w') : zca w' b o x :=
 ⟨(hb.cell (p := ⟨b, o, none⟩) hlt).trans h.1, (hb.cell (p := ⟨b, o + 1, none⟩) hlt).trans h.2.1, (hb.cell (p := ⟨b, o + 2, none⟩) hlt).trans h.2.2.1, (hb.cell (p := ⟨b, o + 3, none⟩) hlt).trans h.2.2.2⟩
theorem Itvs.nil (w : World) : Itvs w (.slice none 0 0) [] := ⟨none, 0, rfl, fun j h => by simp at h⟩
theorem Itvs.below {w w' : World} {v : Value} {l : List V.Itv} (h : Itvs w v l) (hb : Below w.heap.size w w') : Itvs w' v l := by
 obtain ⟨a, cap, e, hc⟩ := h
 refine ⟨a, cap, e, fun j hj => ?_⟩
 obtain ⟨b, off, ea, hlt, hcell⟩ := hc j hj
 exact ⟨b, off, ea, Nat.lt_of_lt_of_le hlt hb.size, hcell.below hlt hb⟩
theorem Itvs.slice {w : World} {v : Value} {l : List V.Itv} (h : Itvs w v l) : ∃ a cap, v = .slice a l.length cap := by
 obtain ⟨a, c, e, _⟩ := h
 exact ⟨a, c, e⟩
theorem Itvs.at {w : World} {a : Option Addr} {n cap : Nat} {l : List V.Itv} (h : Itvs w (.slice a n cap) l) (j : Nat) (hj : j < l.length) : ∃ b off, a = some ⟨b, off, none⟩ /\ b < w.heap.size /\ zca w b (off + j * 4) l[j] := by
 obtain ⟨a', c, e, hc⟩ := h
 obtain ⟨b, off, ea, hb, hcell⟩ := hc j hj
 cases e
 exact ⟨b, off, ea, hb, hcell⟩
theorem zzu {P : Prop} (h : P := by
 go_enter Tryz.func92, Tryz.ntmps92
 go_wp2
 go_ret
 exact ⟨rfl, rfl⟩) : P := h
theorem za7 (n : Int) (w : World) : Calls Tryz.prog 92 #[.int .i64 n] w fun e w' => e = .returned (.bool (V.scheme n)) /\ w' = w := by
 have HS : Hid (V.scheme n = (n == 1 || (n == 3 || n == 2))) := zwe (by unfold V.scheme; cases (n == 1) <;> cases (n == 2) <;> cases (n == 3) <;> rfl)
 by_cases h1 : n = 1
 ·subst h1
  exact zzu
 ·by_cases h2 : n = 2
  ·subst h2
   exact zzu
  ·by_cases h3 : n = 3
   ·subst h3
    exact zzu
   ·have b1 : (n == 1) = false := by simpa using h1
    have b2 : (n == 2) = false := by simpa using h2
    have b3 : (n == 3) = false := by simpa using h3
    have HF : Hid (V.scheme n = false) := zwe (by rw [HS.out, b1, b2, b3]; rfl)
    clear h1 h2 h3
    go_enter Tryz.func92, Tryz.ntmps92
    go_wp2
    go_ret
    exact ⟨zc HF.out.symm, rfl⟩
theorem zbp (x : V.Itv) (w : World) : Calls Tryz.prog 97 #[itvV x] w fun e w' => e = .returned (cutV x.low) /\ Below w.heap.size w w' := by
 unfold itvV cutV V.Itv.low
 obtain ⟨lo, lk, hi, hk⟩ := x
 have HD : Hid (decide (lk = 2) = (lk == 2)) := zwe (by rw [Bool.eq_iff_iff]; simp)
 simp only
 rw [HD.out]
 generalize (⟨lo.toArray⟩ : ByteArray) = s
 generalize (⟨hi.toArray⟩ : ByteArray) = t
 go_enter Tryz.func97, Tryz.ntmps97
 go_wp2
 exact bodyPost_ret (v := .agg #[.string s, .bool (lk == 2)]) (by simp [results, Tryz.results97, go_sem]) rfl ⟨rfl, ((((zwh _ _).alloc (zwg _) _).alloc (by simp) _))⟩
theorem vg (x : V.Itv) (w : World) : Calls Tryz.prog 98 #[itvV x] w fun e w' => e = .returned (cutV x.high) /\ Below w.heap.size w w' := by
 unfold itvV cutV V.Itv.high
 obtain ⟨lo, lk, hi, hk⟩ := x
 have HD : Hid (decide (hk = 1) = (hk == 1)) := zwe (by rw [Bool.eq_iff_iff]; simp)
 simp only
 rw [HD.out]
 generalize (⟨lo.toArray⟩ : ByteArray) = s
 generalize (⟨hi.toArray⟩ : ByteArray) = t
 go_enter Tryz.func98, Tryz.ntmps98
 go_wp2
 exact bodyPost_ret (v := .agg #[.string t, .bool (hk == 1)]) (by simp [results, Tryz.results98, go_sem]) rfl ⟨rfl, ((((zwh _ _).alloc (zwg _) _).alloc (by simp) _))⟩
theorem xe (n : Int) (c d : V.Cut) (w : World) (hm : zg w) (hn : V.scheme n = true) (hc : V.valid n c.1 = true) (hd : V.valid n d.1 = true) :
  Calls Tryz.prog 96 #[.int .i64 n, cutV c, cutV d] w fun e w' => e = .returned (.int .i64 (V.cutC n c d)) /\ Below w.heap.size w w' := by
 obtain ⟨a, p⟩ := c
 obtain ⟨b, q⟩ := d
 have HF : Hid (V.cutC n (a, p) (b, q) = if V.cmpV n a b ≠ 0 ∨ p = q then V.cmpV n a b else if q then -1 else 1) := rfl
 have HN := zwe hn
 have HC := zwe (show V.valid n a = true from hc)
 have HD := zwe (show V.valid n b = true from hd)
 have hb0 : Below w.heap.size w ((w.alloc (.cells #[.string ⟨a.toArray⟩, .bool p] 135)).alloc (.cells #[.string ⟨b.toArray⟩, .bool q] 135)) := ((zwh _ _).alloc (zwg _) _).alloc (by simp) _
 have HB0 := zwe hb0
 have HM := zwe (hm.below hb0)
 clear hn hc hd hb0 hm
 unfold cutV
 simp only
 obtain ⟨z, hz⟩ : ∃ z, V.cmpV n a b = z := ⟨_, rfl⟩
 have HZ := zwe hz
 rw [hz] at HF
 have e1 : ((w.alloc (.cells #[.string ⟨a.toArray⟩, .bool p] 135)).alloc (.cells #[.string ⟨b.toArray⟩, .bool q] 135)).cell? ⟨w.heap.size, 1, none⟩ = some (.bool p) := by simp [ze]
 have e2 : ((w.alloc (.cells #[.string ⟨a.toArray⟩, .bool p] 135)).alloc (.cells #[.string ⟨b.toArray⟩, .bool q] 135)).cell? ⟨w.heap.size + 1, 1, none⟩ = some (.bool q) := by simp [ze]
 have HE := zwe (And.intro e1 e2)
 clear hz e1 e2
 go_enter Tryz.func96, Tryz.ntmps96
 go_wp2_with fail
 refine (zs7 n a b z _ HM.out HN.out HC.out HD.out HZ.out).mono ?_
 rintro e w1 ⟨rfl, hb1⟩
 have c1 := (hb1.cell (p := ⟨w.heap.size, 1, none⟩) (by simp; omega)).trans HE.out.1
 have c2 := (hb1.cell (p := ⟨w.heap.size + 1, 1, none⟩) (by simp)).trans HE.out.2
 have HB1 := zwf HB0 hb1
 clear hb1
 by_cases h0 : z = 0
 ·subst h0
  cases p <;> cases q
  all_goals
   go_wp2
   go_ret
   exact ⟨zp (by rw [HF.out]; rfl), HB1.out⟩
 ·have hz1 : (z != 0) = true := by simpa using h0
  have hz2 : (z == 0) = false := by simpa using h0
  have HF2 : Hid (V.cutC n (a, p) (b, q) = z) := zwe (by rw [HF.out, if_pos (.inl h0)])
  clear h0 HF
  go_wp2
  go_ret
  exact ⟨zp HF2.out.symm, HB1.out⟩
theorem ziq (n : Int) (v : V.Bs) (k : Int) (w : World) (hm : zg w) (hv : v.length ≤ maxLen) :
  Calls Tryz.prog 93 #[.int .i64 n, .string ⟨v.toArray⟩, .int .i64 k] w fun e w' => e = .returned (.bool (V.jz n v k)) /\ Below w.heap.size w w' := by
 have HF : Hid (V.jz n v k = if k = 0 then v.isEmpty else (decide (k = 1) || decide (k = 2)) && V.valid n v) := rfl
 by_cases h0 : k = 0
 ·subst h0
  rw [if_pos rfl] at HF
  by_cases hv0 : v = []
  ·subst hv0
   go_enter Tryz.func93, Tryz.ntmps93
   go_wp2
   go_ret
   exact ⟨rfl, zwh _ _⟩
  ·have HFE : Hid (V.jz n v 0 = false) := zwe (by rw [HF.out]; simpa using hv0)
   have hne : ¬ v = [] := hv0
   clear hv0 HF
   go_enter Tryz.func93, Tryz.ntmps93
   go_wp2
   go_ret
   exact ⟨zc (by rw [HFE.out]; simpa using hne), zwh _ _⟩
 ·rw [if_neg h0] at HF
  have b0 : (k == 0) = false := by simpa using h0
  by_cases h12 : k = 1 ∨ k = 2
  ·have HF2 : Hid (V.jz n v k = V.valid n v) := zwe (by rw [HF.out]; rcases h12 with h | h <;> simp [h])
   have HM := zwe hm
   clear HF hm
   rcases h12 with rfl | rfl
   all_goals
    go_enter Tryz.func93, Tryz.ntmps93
    go_wp2_with fail
    refine (vl n ⟨v.toArray⟩ _ HM.out hv).mono ?_
    rintro e w1 ⟨rfl, hb1⟩
    rw [zaa]
    have HB1 := zwe hb1
    clear hb1
    go_wp2
    go_ret
    exact ⟨zc HF2.out.symm, HB1.out⟩
  ·have b1 : (k == 1) = false := by simpa using fun h => h12 (.inl h)
   have b2 : (k == 2) = false := by simpa using fun h => h12 (.inr h)
   have HF2 : Hid (V.jz n v k = false) := zwe (by rw [HF.out, decide_eq_false (fun h => h12 (.inl h)), decide_eq_false (fun h => h12 (.inr h))]; rfl)
   clear HF h12 h0
   go_enter Tryz.func93, Tryz.ntmps93
   go_wp2
   go_ret
   exact ⟨zc HF2.out.symm, zwh _ _⟩
def ecV (x : V.Ec) : Value := .agg #[.int .i64 x.e, .string ⟨x.v.toArray⟩, .int .i64 x.s]
theorem zad (x : V.Itv) (w : World) : Calls Tryz.prog 70 #[itvV x] w fun e w' => e = .returned (ecV (V.eLow x)) /\ Below w.heap.size w w' := by
 obtain ⟨lo, lk, hi, hk⟩ := x
 have HF : Hid (V.eLow ⟨lo, lk, hi, hk⟩ = if lk = 1 then ⟨0, lo, 0⟩ else if lk = 2 then ⟨0, lo, 1⟩ else V.ebot) := zwe rfl
 unfold itvV ecV
 simp only
 by_cases h1 : lk = 1
 ·subst h1
  have HR : Hid (V.eLow ⟨lo, 1, hi, hk⟩ = ⟨0, lo, 0⟩) := zwe rfl
  rw [HR.out]
  go_enter Tryz.func70, Tryz.ntmps70
  go_wp2
  exact bodyPost_ret (v := .agg #[.int .i64 0, .string ⟨lo.toArray⟩, .int .i64 0]) (by simp [results, Tryz.results70, go_sem]) rfl ⟨rfl, ((((zwh _ _).alloc (zwg _) _).alloc (by simp) _))⟩
 ·by_cases h2 : lk = 2
  ·subst h2
   have HR : Hid (V.eLow ⟨lo, 2, hi, hk⟩ = ⟨0, lo, 1⟩) := zwe rfl
   rw [HR.out]
   go_enter Tryz.func70, Tryz.ntmps70
   go_wp2
   exact bodyPost_ret (v := .agg #[.int .i64 0, .string ⟨lo.toArray⟩, .int .i64 1]) (by simp [results, Tryz.results70, go_sem]) rfl ⟨rfl, ((((zwh _ _).alloc (zwg _) _).alloc (by simp) _))⟩
  ·have b1 : (lk == 1) = false := by simpa using h1
   have b2 : (lk == 2) = false := by simpa using h2
   have HR : Hid (V.eLow ⟨lo, lk, hi, hk⟩ = ⟨-1, [], 0⟩) := zwe (by rw [HF.out, if_neg h1, if_neg h2]; rfl)
   rw [HR.out]
   clear h1 h2
   go_enter Tryz.func70, Tryz.ntmps70
   go_wp2
   exact bodyPost_ret (v := .agg #[.int .i64 (-1), .string ⟨#[]⟩, .int .i64 0]) (by simp [results, Tryz.results70, go_sem]) rfl ⟨rfl, ((((zwh _ _).alloc (zwg _) _).alloc (by simp) _))⟩
theorem zal (x : V.Itv) (w : World) : Calls Tryz.prog 71 #[itvV x] w fun e w' => e = .returned (ecV (V.ky x)) /\ Below w.heap.size w w' := by
 obtain ⟨lo, lk, hi, hk⟩ := x
 have HF : Hid (V.ky ⟨lo, lk, hi, hk⟩ = if hk = 1 then ⟨0, hi, 1⟩ else if hk = 2 then ⟨0, hi, 0⟩ else V.etop) := zwe rfl
 unfold itvV ecV
 simp only
 by_cases h1 : hk = 1
 ·subst h1
  have HR : Hid (V.ky ⟨lo, lk, hi, 1⟩ = ⟨0, hi, 1⟩) := zwe rfl
  rw [HR.out]
  go_enter Tryz.func71, Tryz.ntmps71
  go_wp2
  exact bodyPost_ret (v := .agg #[.int .i64 0, .string ⟨hi.toArray⟩, .int .i64 1]) (by simp [results, Tryz.results71, go_sem]) rfl ⟨rfl, ((((zwh _ _).alloc (zwg _) _).alloc (by simp) _))⟩
 ·by_cases h2 : hk = 2
  ·subst h2
   have HR : Hid (V.ky ⟨lo, lk, hi, 2⟩ = ⟨0, hi, 0⟩) := zwe rfl
   rw [HR.out]
   go_enter Tryz.func71, Tryz.ntmps71
   go_wp2
   exact bodyPost_ret (v := .agg #[.int .i64 0, .string ⟨hi.toArray⟩, .int .i64 0]) (by simp [results, Tryz.results71, go_sem]) rfl ⟨rfl, ((((zwh _ _).alloc (zwg _) _).alloc (by simp) _))⟩
  ·have b1 : (hk == 1) = false := by simpa using h1
   have b2 : (hk == 2) = false := by simpa using h2
   have HR : Hid (V.ky ⟨lo, lk, hi, hk⟩ = ⟨1, [], 0⟩) := zwe (by rw [HF.out, if_neg h1, if_neg h2]; rfl)
   rw [HR.out]
   clear h1 h2
   go_enter Tryz.func71, Tryz.ntmps71
   go_wp2
   exact bodyPost_ret (v := .agg #[.int .i64 1, .string ⟨#[]⟩, .int .i64 0]) (by simp [results, Tryz.results71, go_sem]) rfl ⟨rfl, ((((zwh _ _).alloc (zwg _) _).alloc (by simp) _))⟩
theorem um (n : Int) (a b : V.Ec) (w : World) (hm : zg w) (hn : V.scheme n = true) (ha : V.EcOk n a) (hb : V.EcOk n b) :
  Calls Tryz.prog 69 #[.int .i64 n, ecV a, ecV b] w fun e w' => e = .returned (.int .i64 (V.ecmp n a b)) /\ Below w.heap.size w w' := by
 have HZ : Hid (V.ecmp n a b = if a.e ≠ b.e ∨ a.e ≠ 0 then a.e - b.e else if V.cmpV n a.v b.v ≠ 0 then V.cmpV n a.v b.v else a.s - b.s) := zwe rfl
 have HB := zwe (show Below w.heap.size w ((w.alloc (.cells #[.int .i64 a.e, .string ⟨a.v.toArray⟩, .int .i64 a.s] 108)).alloc (.cells #[.int .i64 b.e, .string ⟨b.v.toArray⟩, .int .i64 b.s] 108)) from ((zwh _ _).alloc (zwg _) _).alloc (by simp) _)
 have HM := zwe hm
 have HN := zwe hn
 clear hm hn
 unfold ecV
 rcases ha with rfl | rfl | ⟨⟨x, p⟩, hx, rfl⟩ <;> rcases hb with rfl | rfl | ⟨⟨y, q⟩, hy, rfl⟩
 rotate_right
 ·have HX := zwe (show V.valid n x = true from hx)
  have HY := zwe (show V.valid n y = true from hy)
  clear hx hy
  unfold V.eat at HB HZ ⊢
  simp only at HB HZ ⊢
  obtain ⟨sp, hsp⟩ : ∃ sp : Int, sp = if p then 1 else 0 := ⟨_, rfl⟩
  obtain ⟨sq, hsq⟩ : ∃ sq : Int, sq = if q then 1 else 0 := ⟨_, rfl⟩
  have hsp1 : 0 ≤ sp /\ sp ≤ 1 := by rw [hsp]; cases p <;> simp
  have hsq1 : 0 ≤ sq /\ sq ≤ 1 := by rw [hsq]; cases q <;> simp
  obtain ⟨hsp1, hsp2⟩ := hsp1
  obtain ⟨hsq1, hsq2⟩ := hsq1
  rw [← hsp, ← hsq] at HB HZ ⊢
  clear hsp hsq
  have HM0 := zwe (HM.out.below HB.out)
  obtain ⟨z, hz⟩ : ∃ z, V.cmpV n x y = z := ⟨_, rfl⟩
  rw [hz] at HZ
  have HC := zwe hz
  clear hz
  have e1 : ((w.alloc (.cells #[.int .i64 0, .string ⟨x.toArray⟩, .int .i64 sp] 108)).alloc (.cells #[.int .i64 0, .string ⟨y.toArray⟩, .int .i64 sq] 108)).cell? ⟨w.heap.size, 2, none⟩ = some (.int .i64 sp) := by simp [ze]
  have e2 : ((w.alloc (.cells #[.int .i64 0, .string ⟨x.toArray⟩, .int .i64 sp] 108)).alloc (.cells #[.int .i64 0, .string ⟨y.toArray⟩, .int .i64 sq] 108)).cell? ⟨w.heap.size + 1, 2, none⟩ = some (.int .i64 sq) := by simp [ze]
  have hw := zts n ⟨x.toArray⟩ ⟨y.toArray⟩ ((w.alloc (.cells #[.int .i64 0, .string ⟨x.toArray⟩, .int .i64 sp] 108)).alloc (.cells #[.int .i64 0, .string ⟨y.toArray⟩, .int .i64 sq] 108)) HM0.out HN.out (by rw [zaa]; exact HX.out) (by rw [zaa]; exact HY.out)
  rw [zaa, zaa, HC.out] at hw
  have HW := zwe hw
  have HE := zwe (And.intro e1 e2)
  clear hw e1 e2
  go_enter Tryz.func69, Tryz.ntmps69
  go_wp2_with fail
  refine HW.out.mono ?_
  rintro e w1 ⟨rfl, hb1⟩
  have c1 := (hb1.cell (p := ⟨w.heap.size, 2, none⟩) (by simp; omega)).trans HE.out.1
  have c2 := (hb1.cell (p := ⟨w.heap.size + 1, 2, none⟩) (by simp)).trans HE.out.2
  have HB1 := zwf HB hb1
  clear hb1
  by_cases h0 : z = 0
  ·subst h0
   have HF2 : Hid (V.ecmp n ⟨0, x, sp⟩ ⟨0, y, sq⟩ = sp - sq) := zwe (by rw [HZ.out]; simp)
   clear HZ
   go_wp2
   go_ret
   exact ⟨zp HF2.out.symm, HB1.out⟩
  ·have hz1 : (z != 0) = true := by simpa using h0
   have HF2 : Hid (V.ecmp n ⟨0, x, sp⟩ ⟨0, y, sq⟩ = z) := zwe (by
     rw [HZ.out, if_neg (by simp), if_pos h0])
   clear h0 HZ
   go_wp2
   go_ret
   exact ⟨zp HF2.out.symm, HB1.out⟩
 all_goals try (cases p)
 all_goals try (cases q)
 all_goals
  try unfold V.ebot at HB HZ ⊢
  try unfold V.etop at HB HZ ⊢
  try unfold V.eat at HB HZ ⊢
  simp only at HB HZ ⊢
  go_enter Tryz.func69, Tryz.ntmps69
  go_wp2
  go_ret
  exact ⟨zp (by unfold V.ecmp; simp), HB.out⟩
theorem zi2 (n : Int) (v : V.Bs) (k : Int) (w : World) (hm : zg w) (hv : v.length ≤ maxLen) :
  Calls Tryz.prog 68 #[.int .i64 n, .int .i64 k, .string ⟨v.toArray⟩] w fun e w' => e = .returned (.bool (V.jz n v k)) /\ Below w.heap.size w w' := by
 have HF : Hid (V.jz n v k = if k = 0 then v.isEmpty else (decide (k = 1) || decide (k = 2)) && V.valid n v) := rfl
 by_cases h0 : k = 0
 ·subst h0
  rw [if_pos rfl] at HF
  by_cases hv0 : v = []
  ·subst hv0
   go_enter Tryz.func68, Tryz.ntmps68
   go_wp2
   go_ret
   exact ⟨rfl, zwh _ _⟩
  ·have HFE : Hid (V.jz n v 0 = false) := zwe (by rw [HF.out]; simpa using hv0)
   have hne : ¬ v = [] := hv0
   clear hv0 HF
   go_enter Tryz.func68, Tryz.ntmps68
   go_wp2
   go_ret
   exact ⟨zc (by rw [HFE.out]; simpa using hne), zwh _ _⟩
 ·rw [if_neg h0] at HF
  have b0 : (k == 0) = false := by simpa using h0
  by_cases h12 : k = 1 ∨ k = 2
  ·have HF2 : Hid (V.jz n v k = V.valid n v) := zwe (by rw [HF.out]; rcases h12 with h | h <;> simp [h])
   have HM := zwe hm
   clear HF hm
   rcases h12 with rfl | rfl
   all_goals
    go_enter Tryz.func68, Tryz.ntmps68
    go_wp2_with fail
    refine (zb8 n ⟨v.toArray⟩ _ HM.out hv).mono ?_
    rintro e w1 ⟨rfl, hb1⟩
    rw [zaa]
    have HB1 := zwe hb1
    clear hb1
    go_wp2
    go_ret
    exact ⟨zc HF2.out.symm, HB1.out⟩
  ·have b1 : (k == 1) = false := by simpa using fun h => h12 (.inl h)
   have b2 : (k == 2) = false := by simpa using fun h => h12 (.inr h)
   have HF2 : Hid (V.jz n v k = false) := zwe (by rw [HF.out, decide_eq_false (fun h => h12 (.inl h)), decide_eq_false (fun h => h12 (.inr h))]; rfl)
   clear HF h12 h0
   go_enter Tryz.func68, Tryz.ntmps68
   go_wp2
   go_ret
   exact ⟨zc HF2.out.symm, zwh _ _⟩
open Go.RowKit
theorem za {W W' : World} {b o : Nat} {v : Value} (hb : Below W.heap.size W W') (h : W.cell? ⟨b, o, none⟩ = some v) : W'.cell? ⟨b, o, none⟩ = some v :=
 (hb.cell (p := ⟨b, o, none⟩) (World.block_lt_of_cell? _ _ h)).trans h
theorem zwk {W W' : World} {b o : Nat} {v : Value} (hb : Below W.heap.size W W') (h : W.cell? ⟨b, o, none⟩ = some v := by assumption) : W'.cell? ⟨b, o, none⟩ = some v := za hb h
theorem zez {n : Int} {l : List V.Itv} {k : Nat} (h : ∀ i, i < k -> V.okAt n l i = true) (hk : V.okAt n l k = true) : ∀ i, i < k + 1 -> V.okAt n l i = true := fun i hi => by
 by_cases e : i = k
 ·subst e; exact hk
 ·exact h i (by omega)
theorem zhr {n : Int} {l : List V.Itv} {k : Nat} (hk : k < l.length) (h : V.okAt n l k = false) : V.ordB n l = false := by
 rcases hb : V.ordB n l with _ | _
 ·rfl
 ·rw [(V.zcm n l).1 hb k hk] at h; cases h
theorem zjv {l : List V.Itv} {k : Nat} (h : k < l.length) : l.getD k V.noI = l[k] := by rw [List.getD_eq_getElem?_getD, List.getElem?_eq_getElem h]; rfl
theorem zzt {P : Prop} (h : P := by
 go_wp2
 go_roundw
 case rel => exact ⟨k + 1, by omega, by go_num, HOK.out, HBZ.out⟩
 case measure => simp [intOf]; omega) : P := h
theorem z0z {P : Prop} (h : P := by
 go_quiet (fail)
 have HBZ := zwe (below_drewN HBV.out nq)
 generalize W2.drewN nq = W3 at *
 go_wp2
 go_ret
 exact ⟨zc HNO.out.symm, HBZ.out⟩) : P := h
theorem z11 {P : Prop} (h : P := by
 refine ⟨?_, ?_, ?_, ?_⟩ <;> simp [ze]) : P := h
theorem zm1 (n : Int) (v : Value) (l : List V.Itv) (w : World) (hm : zg w) (hn : V.scheme n = true) (hv : Itvs w v l) (hb : ∀ x ∈ l, V.zj n x = true) (hl : l.length ≤ 1000) :
  Calls Tryz.prog 94 #[.int .i64 n, v] w fun e w' => e = .returned (.bool (V.ordB n l)) /\ Below w.heap.size w w' := by
 have HV := zwe hv
 obtain ⟨va, vc, rfl⟩ := hv.slice
 have HN := zwe hn
 have HM := zwe hm
 have HB := zwe hb
 clear hn hm hb hv
 go_enter Tryz.func94, Tryz.ntmps94
 go_wp2
 go_loopw [10] (fun iv wx => ∃ k : Nat, k ≤ l.length /\ iv = .int .i64 k /\ (∀ i, i < k -> V.okAt n l i = true) /\ Below w.heap.size w wx) (fun iv _ => l.length - (intOf iv).toNat)
 case atStart => exact ⟨0, Nat.zero_le _, rfl, fun i hi => by omega, zwh _ _⟩
 case round =>
  obtain ⟨k, hk, rfl, hz, hbx⟩ := hrel
  have HZ := zwe hz
  have HBX := zwe hbx
  clear hz hbx
  by_cases hlt : k < l.length
  ·obtain ⟨b, off, rfl, hb0, hx⟩ := HV.out.at k hlt
   have hx' := hx.below hb0 HBX.out
   obtain ⟨h0, h1, h2, h3⟩ := hx'
   have hi1 : (0 : Int) ≤ (k : Int) := by omega
   have hi2 : (k : Int) < (l.length : Int) := by omega
   have hbx : V.zj n l[k] = true := HB.out _ (List.getElem_mem hlt)
   have HBK := zwe hbx
   have HG := zwe (zjv hlt)
   clear hx hbx
   have hz1 : wr.heap.size < (wr.alloc (.cells #[.string ⟨l[k].lo.toArray⟩, .int .i64 l[k].lk, .string ⟨l[k].hi.toArray⟩, .int .i64 l[k].hk] 82)).heap.size := by simp
   have hbW : Below w.heap.size w (wr.alloc (.cells #[.string ⟨l[k].lo.toArray⟩, .int .i64 l[k].lk, .string ⟨l[k].hi.toArray⟩, .int .i64 l[k].hk] 82)) := HBX.out.alloc HBX.out.size _
   have hx4 : zca (wr.alloc (.cells #[.string ⟨l[k].lo.toArray⟩, .int .i64 l[k].lk, .string ⟨l[k].hi.toArray⟩, .int .i64 l[k].hk] 82)) wr.heap.size 0 l[k] := by
    exact z11
   have HX4 := zwe hx4
   have HBW := zwe hbW
   clear hx4 hbW
   go_wp2_with fail
   generalize wr.alloc (.cells #[.string ⟨l[k].lo.toArray⟩, .int .i64 l[k].lk, .string ⟨l[k].hi.toArray⟩, .int .i64 l[k].hk] 82) = W0 at *
   obtain ⟨d0, d1, d2, d3⟩ := HX4.out
   rw [Nat.zero_add] at d1 d2 d3
   have HXV := zwe (fun (h1 : l[k].lk ≠ 0) => V.ye HBK.out h1)
   have HXW := zwe (fun (h1 : l[k].hk ≠ 0) => V.jx HBK.out h1)
   have HM0 : Hid (zg W0) := zwe (HM.out.below HBW.out)
   have HIF : Hid (V.uf n l[k] = (decide (l[k].lk = 0) || (decide (l[k].hk = 0) || decide (V.cutC n l[k].low l[k].high < 0)))) := zwe rfl
   generalize l[k] = x at *
   clear h0 h1 h2 h3
   rcases hin : V.uf n x with _ | _
   ·have HIN := zwe hin
    rw [HIF.out] at hin
    simp only [Bool.or_eq_false_iff, decide_eq_false_iff_not] at hin
    obtain ⟨i1, i2, i3⟩ := hin
    have hlow := HXV.out i1
    have hhigh := HXW.out i2
    have g1 : (x.lk != 0) = true := by simpa using i1
    have g2 : (x.hk != 0) = true := by simpa using i2
    have i4 : 0 ≤ V.cutC n x.low x.high := by omega
    have HNO : Hid (V.ordB n l = false) := zwe (zhr hlt (by unfold V.okAt; rw [HG.out, HIN.out]; rfl))
    clear i1 i2 i3
    go_region_held3 (fun W' => zg W' /\ W'.cell? ⟨wr.heap.size, 0, none⟩ = some (.string ⟨x.lo.toArray⟩) /\ W'.cell? ⟨wr.heap.size, 1, none⟩ = some (.int .i64 x.lk) /\ W'.cell? ⟨wr.heap.size, 2, none⟩ = some (.string ⟨x.hi.toArray⟩) /\ W'.cell? ⟨wr.heap.size, 3, none⟩ = some (.int .i64 x.hk))
     (first
       | (go_split_ands; exact ⟨zg.below (by assumption) hbq, zwk hbq, zwk hbq, zwk hbq, zwk hbq⟩)
       | (exact ⟨HM0.out, d0, d1, d2, d3⟩)
       | go_keep)
     (first
       | (go_at_call 97; refine (zbp x _).mono ?_; rintro e wq ⟨rfl, hbq⟩)
       | (go_at_call 98; refine (vg x _).mono ?_; rintro e wq ⟨rfl, hbq⟩)
       | (go_at_call 96; refine (xe n x.low x.high _ (by first | assumption | exact And.left (by assumption)) HN.out hlow hhigh).mono ?_; rintro e wq ⟨rfl, hbq⟩))
    rename_i wa hba wb hbb hS
    have HBZ := zwe (HBW.out.trans ((((zwh W0.heap.size W0).drew).trans (Below.trans (show Below W0.heap.size W0.drew wa from hba) ((hbb.trans (hbq.mono hbb.size)).mono hba.size))).mono HBW.out.size))
    clear hba hbb hbq hS
    generalize V.cutC n x.low x.high = z at *
    go_wp2
    go_ret
    exact ⟨zc HNO.out.symm, HBZ.out⟩
   ·have HIN := zwe hin
    have hcase : (x.lk != 0) = false ∨ ((x.lk != 0) = true /\ (x.hk != 0) = false) ∨ ((x.lk != 0) = true /\ (x.hk != 0) = true) := by
     cases (x.lk != 0) <;> cases (x.hk != 0) <;> simp
    rcases hcase with g1 | ⟨g1, g2⟩ | ⟨g1, g2⟩
    focus
     clear hin
     go_quiet (fail)
     have HB1 := zwe (below_drewN (zwh W0.heap.size W0) nq)
     generalize W0.drewN nq = W1 at *
    rotate_left
    focus
     clear hin
     go_quiet (fail)
     have HB1 := zwe (below_drewN (zwh W0.heap.size W0) nq)
     generalize W0.drewN nq = W1 at *
    rotate_left
    focus
     have i1 : x.lk ≠ 0 := by simpa using g1
     have i2 : x.hk ≠ 0 := by simpa using g2
     have hlow := HXV.out i1
     have hhigh := HXW.out i2
     have i4 : ¬ (0 ≤ V.cutC n x.low x.high) := by
      rw [HIF.out] at hin
      simp only [Bool.or_eq_true, decide_eq_true_eq] at hin
      omega
     clear i1 i2 hin
     go_region_held3 (fun W' => zg W' /\ W'.cell? ⟨wr.heap.size, 0, none⟩ = some (.string ⟨x.lo.toArray⟩) /\ W'.cell? ⟨wr.heap.size, 1, none⟩ = some (.int .i64 x.lk) /\ W'.cell? ⟨wr.heap.size, 2, none⟩ = some (.string ⟨x.hi.toArray⟩) /\ W'.cell? ⟨wr.heap.size, 3, none⟩ = some (.int .i64 x.hk))
      (first
        | (go_split_ands; exact ⟨zg.below (by assumption) hbq, zwk hbq, zwk hbq, zwk hbq, zwk hbq⟩)
        | (exact ⟨HM0.out, d0, d1, d2, d3⟩)
        | go_keep)
      (first
        | (go_at_call 97; refine (zbp x _).mono ?_; rintro e wq ⟨rfl, hbq⟩)
        | (go_at_call 98; refine (vg x _).mono ?_; rintro e wq ⟨rfl, hbq⟩)
        | (go_at_call 96; refine (xe n x.low x.high _ (by first | assumption | exact And.left (by assumption)) HN.out hlow hhigh).mono ?_; rintro e wq ⟨rfl, hbq⟩))
     rename_i wa hba wb hbb hS
     have HB1 := zwe ((((zwh W0.heap.size W0).drew).trans (Below.trans (show Below W0.heap.size W0.drew wa from hba) ((hbb.trans (hbq.mono hbb.size)).mono hba.size))))
     clear hba hbb hbq hS
     generalize V.cutC n x.low x.high = z at *
     generalize wq = W1 at *
    rotate_left
    all_goals
     have HBW1 := zwe (HBW.out.trans (HB1.out.mono HBW.out.size))
     have e0 := za HB1.out d0
     have e1 := za HB1.out d1
     have e2 := za HB1.out d2
     have e3 := za HB1.out d3
     have hz2 : wr.heap.size < W1.heap.size := Nat.lt_of_lt_of_le hz1 HB1.out.size
     have HM1 := zwe (HM0.out.below HB1.out)
     clear d0 d1 d2 d3 HB1 HM0 hz1
     by_cases hk0 : k = 0
     ·have hkb : ((k : Int) == 0) = true := by rw [hk0]; rfl
      have HOK : Hid (∀ i, i < k + 1 -> V.okAt n l i = true) := zwe (zez HZ.out (by unfold V.okAt; rw [HG.out, HIN.out, hk0]; rfl))
      clear hk0 e0 e1 e2 e3
      go_wp2
      go_roundw
      case rel => exact ⟨k + 1, by omega, by go_num, HOK.out, HBW1.out⟩
      case measure => simp [intOf]; omega
     ·have hkb : ((k : Int) == 0) = false := by rw [zwi]; omega
      have hi3 : (1 : Int) ≤ (k : Int) := by omega
      have hi4 : (k : Int) - 1 < (l.length : Int) := by omega
      have hk1 : k - 1 < l.length := by omega
      obtain ⟨b', off', eb, hb1, hy⟩ := HV.out.at (k - 1) hk1
      cases eb
      obtain ⟨y0, y1, y2, y3⟩ := hy.below hb1 HBW1.out
      have HBY : Hid (V.zj n l[k - 1] = true) := zwe (HB.out _ (List.getElem_mem hk1))
      have HGY := zwe (zjv hk1)
      generalize l[k - 1] = y at *
      have HNB : Hid (V.vy n y x = (!decide (y.hk = 0) && (!decide (x.lk = 0) && decide (V.cutC n y.high x.low < 0)))) := zwe rfl
      have HOKF : Hid (V.okAt n l k = V.vy n y x) := zwe (by unfold V.okAt; rw [HG.out, HGY.out, HIN.out, decide_eq_false hk0]; rfl)
      have hbV : Below w.heap.size w (W1.alloc (.cells #[.string ⟨y.lo.toArray⟩, .int .i64 y.lk, .string ⟨y.hi.toArray⟩, .int .i64 y.hk] 82)) := HBW1.out.alloc HBW1.out.size _
      have HBV := zwe hbV
      have hbA : Below W1.heap.size W1 (W1.alloc (.cells #[.string ⟨y.lo.toArray⟩, .int .i64 y.lk, .string ⟨y.hi.toArray⟩, .int .i64 y.hk] 82)) := (zwh _ W1).alloc (zwg _) _
      have e0' := za hbA e0
      have e1' := za hbA e1
      have e2' := za hbA e2
      have e3' := za hbA e3
      have hy4 : zca (W1.alloc (.cells #[.string ⟨y.lo.toArray⟩, .int .i64 y.lk, .string ⟨y.hi.toArray⟩, .int .i64 y.hk] 82)) W1.heap.size 0 y := by
       exact z11
      have HY4 := zwe hy4
      have HM2 := zwe (HM1.out.below hbA)
      clear hy hy4 hbV hbA hk0 hb1
      go_wp2_with fail
      generalize W1.alloc (.cells #[.string ⟨y.lo.toArray⟩, .int .i64 y.lk, .string ⟨y.hi.toArray⟩, .int .i64 y.hk] 82) = W2 at *
      obtain ⟨f0, f1, f2, f3⟩ := HY4.out
      rw [Nat.zero_add] at f1 f2 f3
      clear y0 y1 y2 y3 e0 e1 e2 e3
      have hcase2 : (y.hk == 0) = true ∨ ((y.hk == 0) = false /\ (x.lk == 0) = true) ∨ ((y.hk == 0) = false /\ (x.lk == 0) = false) := by
       cases (y.hk == 0) <;> cases (x.lk == 0) <;> simp
      rcases hcase2 with q1 | ⟨q1, q2⟩ | ⟨q1, q2⟩
      ·have HNO : Hid (V.ordB n l = false) := zwe (zhr hlt (by rw [HOKF.out, HNB.out, decide_eq_true (eq_of_beq q1)]; rfl))
       exact z0z
      ·have HNO : Hid (V.ordB n l = false) := zwe (zhr hlt (by rw [HOKF.out, HNB.out, decide_eq_true (eq_of_beq q2)]; simp))
       exact z0z
      ·have i1 : y.hk ≠ 0 := by simpa using q1
       have i2 : x.lk ≠ 0 := by simpa using q2
       have hlow := HXV.out i2
       have hhigh := V.jx HBY.out i1
       have HNB2 : Hid (V.okAt n l k = decide (V.cutC n y.high x.low < 0)) := zwe (by rw [HOKF.out, HNB.out, decide_eq_false i1, decide_eq_false i2]; simp)
       clear i1 i2
       go_region_held3 (fun W' => zg W' /\ W'.cell? ⟨wr.heap.size, 0, none⟩ = some (.string ⟨x.lo.toArray⟩) /\ W'.cell? ⟨wr.heap.size, 1, none⟩ = some (.int .i64 x.lk) /\ W'.cell? ⟨wr.heap.size, 2, none⟩ = some (.string ⟨x.hi.toArray⟩) /\ W'.cell? ⟨wr.heap.size, 3, none⟩ = some (.int .i64 x.hk) /\
         W'.cell? ⟨W1.heap.size, 0, none⟩ = some (.string ⟨y.lo.toArray⟩) /\ W'.cell? ⟨W1.heap.size, 1, none⟩ = some (.int .i64 y.lk) /\ W'.cell? ⟨W1.heap.size, 2, none⟩ = some (.string ⟨y.hi.toArray⟩) /\ W'.cell? ⟨W1.heap.size, 3, none⟩ = some (.int .i64 y.hk))
        (first
          | (go_split_ands; exact ⟨zg.below (by assumption) hbq, zwk hbq, zwk hbq, zwk hbq, zwk hbq, zwk hbq, zwk hbq, zwk hbq, zwk hbq⟩)
          | (exact ⟨HM2.out, e0', e1', e2', e3', f0, f1, f2, f3⟩)
          | go_keep)
        (first
          | (go_at_call 97; refine (zbp x _).mono ?_; rintro e wq ⟨rfl, hbq⟩)
          | (go_at_call 98; refine (vg y _).mono ?_; rintro e wq ⟨rfl, hbq⟩)
          | (go_at_call 96; refine (xe n y.high x.low _ (by first | assumption | exact And.left (by assumption)) HN.out hhigh hlow).mono ?_; rintro e wq ⟨rfl, hbq⟩))
       rename_i wa hba wb hbb hS
       have HBZ := zwe (HBV.out.trans ((((zwh W2.heap.size W2).drew).trans (Below.trans (show Below W2.heap.size W2.drew wa from hba) ((hbb.trans (hbq.mono hbb.size)).mono hba.size))).mono HBV.out.size))
       clear hba hbb hbq hS f0 f1 f2 f3 e0' e1' e2' e3'
       generalize V.cutC n y.high x.low = z2 at *
       by_cases hzz : 0 ≤ z2
       ·have HNO : Hid (V.ordB n l = false) := zwe (zhr hlt (by rw [HNB2.out]; exact decide_eq_false (by omega)))
        go_wp2
        go_ret
        exact ⟨zc HNO.out.symm, HBZ.out⟩
       ·have HOK : Hid (∀ i, i < k + 1 -> V.okAt n l i = true) := zwe (zez HZ.out (by rw [HNB2.out]; exact decide_eq_true (by omega)))
        exact zzt
  ·obtain rfl : k = l.length := by omega
   have HR : Hid (V.ordB n l = true) := zwe ((V.zcm n l).2 HZ.out)
   go_wp2
   go_ret
   exact ⟨zc HR.out.symm, HBX.out⟩
def setV (n : Int) (v : Value) : Value := .agg #[.int .i64 n, v]
def Lens (l : List V.Itv) : Prop := ∀ x ∈ l, x.lo.length ≤ maxLen /\ x.hi.length ≤ maxLen
theorem zqq {n : Int} {l : List V.Itv} {k : Nat} (h : (l.take k).all (V.zj n) = true) (hk : k < l.length) (hb : V.zj n l[k] = true) : (l.take (k + 1)).all (V.zj n) = true := by
 rw [List.take_succ_eq_append_getElem hk, List.all_append, h]
 simpa using hb
theorem bnd_no {n : Int} {l : List V.Itv} {k : Nat} (hk : k < l.length) (hb : V.zj n l[k] = false) : l.all (V.zj n) = false := by
 rw [List.all_eq_false]
 exact ⟨l[k], List.getElem_mem hk, by rw [hb]; decide⟩
theorem zx2 {P : Prop} (h : P := by
 rintro e W3 ⟨rfl, hb3⟩
 have HB3 := zwf HB2 hb3
 clear hb3 k0 k2 k3
 rcases hhi : V.jz n x.hi x.hk with _ | _
 ·have HR : Hid (V.okR n l = false) := zwe (by rw [HF2.out, HNO.out (by rw [HBD.out, HLO.out, hhi]; rfl)]; rfl)
  clear hhi
  go_wp2
  go_ret
  exact ⟨zc HR.out.symm, HB0.out.trans (HB3.out.mono HB0.out.size)⟩
 ·have HY : Hid ((l.take (k + 1)).all (V.zj n) = true) := zwe (HYES.out (by rw [HBD.out, HLO.out, hhi]; rfl))
  clear hhi
  go_wp2
  go_roundw
  case rel => exact ⟨k + 1, by omega, by go_num, HY.out, HB3.out⟩
  case measure => simp [intOf]; omega) : P := h
theorem zyu {P : Prop} (h : P := by
 go_enter Tryz.func63, Tryz.ntmps63
 go_wp2_with fail
 generalize w.alloc (.cells #[.int .i64 n, .slice va l.length vc] 45) = w0 at *
 refine (za7 n w0).mono ?_
 rintro e w' ⟨rfl, rfl⟩
 rw [HSC.out]
 go_wp2
 go_ret
 exact ⟨zc HR.out.symm, HB0.out⟩) : P := h
theorem zz0 {P : Prop} (h : P := by
 have HR : Hid (V.okR n l = false) := zwe (by rw [HF2.out, HNO.out (by rw [HBD.out, hlo]; rfl)]; rfl)
 clear hlo
 go_wp2
 go_ret
 exact ⟨zc HR.out.symm, HB0.out.trans (HB2.out.mono HB0.out.size)⟩) : P := h
theorem zaz (n : Int) (v : Value) (l : List V.Itv) (w : World) (hm : zg w) (hv : Itvs w v l) (hs : Lens l) (hl : l.length ≤ maxLen) :
  Calls Tryz.prog 63 #[setV n v] w fun e w' => e = .returned (.bool (V.okR n l)) /\ Below w.heap.size w w' := by
 have HV := zwe hv
 obtain ⟨va, vc, rfl⟩ := hv.slice
 unfold maxLen at hl
 have HS := zwe hs
 have HF : Hid (V.okR n l = (V.scheme n && (decide (l.length ≤ 32) && (l.all (V.zj n) && V.ordB n l)))) := zwe rfl
 have hb0 : Below w.heap.size w (w.alloc (.cells #[.int .i64 n, .slice va l.length vc] 45)) := (zwh _ w).alloc (zwg _) _
 have HB0 := zwe hb0
 have HM := zwe (hm.below hb0)
 have c0 : (w.alloc (.cells #[.int .i64 n, .slice va l.length vc] 45)).cell? ⟨w.heap.size, 0, none⟩ = some (.int .i64 n) := by simp [ze]
 have c1 : (w.alloc (.cells #[.int .i64 n, .slice va l.length vc] 45)).cell? ⟨w.heap.size, 1, none⟩ = some (.slice va l.length vc) := by simp [ze]
 clear hv hs hb0 hm
 unfold setV
 rcases hsch : V.scheme n with _ | _
 ·have HR : Hid (V.okR n l = false) := zwe (by rw [HF.out, hsch]; rfl)
  have HSC := zwe hsch
  clear hsch
  exact zyu
 ·have HSC := zwe hsch
  clear hsch
  by_cases h32 : 32 < l.length
  ·have HR : Hid (V.okR n l = false) := zwe (by rw [HF.out, decide_eq_false (show ¬ l.length ≤ 32 by omega), Bool.false_and, Bool.and_false])
   exact zyu
  ·have h32' : l.length ≤ 32 := by omega
   have HF2 : Hid (V.okR n l = (l.all (V.zj n) && V.ordB n l)) := zwe (by rw [HF.out, HSC.out, decide_eq_true h32']; rfl)
   have hz0 : w.heap.size < (w.alloc (.cells #[.int .i64 n, .slice va l.length vc] 45)).heap.size := by simp
   go_enter Tryz.func63, Tryz.ntmps63
   go_wp2_with fail
   generalize w.alloc (.cells #[.int .i64 n, .slice va l.length vc] 45) = w0 at *
   refine (za7 n w0).mono ?_
   rintro e w' ⟨rfl, rfl⟩
   rw [HSC.out]
   go_wp2
   go_loopw [18] (fun iv wx => ∃ k : Nat, k ≤ l.length /\ iv = .int .i64 k /\ (l.take k).all (V.zj n) = true /\ Below w'.heap.size w' wx) (fun iv _ => l.length - (intOf iv).toNat)
   case atStart => exact ⟨0, Nat.zero_le _, rfl, rfl, zwh _ _⟩
   case round =>
    obtain ⟨k, hk, rfl, hz, hbx⟩ := hrel
    have HZ := zwe hz
    have HBX := zwe hbx
    have HBF := zwf HB0 hbx
    have d0 := (hbx.cell (p := ⟨w.heap.size, 0, none⟩) hz0).trans c0
    have d1 := (hbx.cell (p := ⟨w.heap.size, 1, none⟩) hz0).trans c1
    clear hz hbx
    by_cases hlt : k < l.length
    ·obtain ⟨b, off, rfl, hb0, hx⟩ := HV.out.at k hlt
     obtain ⟨h0, h1, h2, h3⟩ := hx.below hb0 HBF.out
     have hi1 : (0 : Int) ≤ (k : Int) := by omega
     have hi2 : (k : Int) < (l.length : Int) := by omega
     have hlens := HS.out _ (List.getElem_mem hlt)
     have HBD : Hid (V.zj n l[k] = (V.jz n l[k].lo l[k].lk && V.jz n l[k].hi l[k].hk)) := zwe rfl
     have HYES := zwe (fun hb => zqq (n := n) HZ.out hlt hb)
     have HNO := zwe (fun hb => bnd_no (n := n) hlt hb)
     clear hx
     generalize l[k] = x at *
     have hbA : Below wr.heap.size wr (wr.alloc (.cells #[.string ⟨x.lo.toArray⟩, .int .i64 x.lk, .string ⟨x.hi.toArray⟩, .int .i64 x.hk] 82)) := (zwh _ wr).alloc (zwg _) _
     have HM1 := zwe ((HM.out.below HBX.out).below hbA)
     have HBA := zwf HBX hbA
     have e0 := za hbA d0
     have hx4 : zca (wr.alloc (.cells #[.string ⟨x.lo.toArray⟩, .int .i64 x.lk, .string ⟨x.hi.toArray⟩, .int .i64 x.hk] 82)) wr.heap.size 0 x := by
      exact z11
     have HX4 := zwe hx4
     clear hbA hx4
     go_wp2_with fail
     generalize wr.alloc (.cells #[.string ⟨x.lo.toArray⟩, .int .i64 x.lk, .string ⟨x.hi.toArray⟩, .int .i64 x.hk] 82) = W1 at *
     obtain ⟨f0, f1, f2, f3⟩ := HX4.out
     rw [Nat.zero_add] at f1 f2 f3
     clear h0 h1 h2 h3 d0 d1
     refine (ziq n x.lo x.lk W1 HM1.out hlens.1).mono ?_
     rintro e W2 ⟨rfl, hb2⟩
     have k0 := za hb2 e0
     have k2 := za hb2 f2
     have k3 := za hb2 f3
     have HB2 := zwf HBA hb2
     have HM2 := zwe (HM1.out.below hb2)
     clear hb2 e0 f0 f1 f2 f3
     rcases hlo : V.jz n x.lo x.lk with _ | _
     ·exact zz0
     ·have HLO := zwe hlo
      clear hlo
      go_wp2_with fail
      refine (ziq n x.hi x.hk W2 HM2.out hlens.2).mono ?_
      exact zx2
    ·obtain rfl : k = l.length := by omega
     have HALL : Hid (l.all (V.zj n) = true) := zwe (by have := HZ.out; rwa [List.take_length] at this)
     go_wp2_with fail
     refine (zm1 n _ l wr (HM.out.below HBX.out) HSC.out (HV.out.below HBF.out) (fun x hx => List.all_eq_true.1 HALL.out x hx) (by omega)).mono ?_
     rintro e W3 ⟨rfl, hb3⟩
     have HB3 := zwf HBF hb3
     have HR : Hid (V.okR n l = V.ordB n l) := zwe (by rw [HF2.out, HALL.out]; rfl)
     clear hb3
     go_wp2
     go_ret
     exact ⟨zc HR.out.symm, HB3.out⟩
open Go.RowKit
section
variable {P : Program} {ops : Array Oper} {Q : Exit -> Act -> World -> Prop} {md : Region.Mode} {S : World -> Prop}
theorem tk (i : Nat) {oi : Oper} {v : Value} {fuel : Nat} {l l' : Array Bool} {a a' : Act} {w : World}
  (h : wpAnyH P md ops Q S fuel l' a' w)
  (hi : ops[i]? = some oi := by rfl) (hs : Region.noSelect ops = true := by kernel_rfl) (hf : Region.free md ops l i = true := by kernel_rfl)
  (hr : (Region.ready md ops l).contains i = true := by kernel_rfl)
  (hQ : ∀ c a w, Q (.panic c) (a.put oi.dst v) w -> Q (.panic c) a w := by exact fun _ _ _ h => h)
  (hw : Region.wanted oi (yielded ops a.tmps) = true := by rfl)
  (hy : ∀ w, S w -> (execOp a.eval oi).run P w = .ok (.value v) w := by intro w' hSw; (try dsimp only at hSw); go_simp; try with_reducible rfl)
  (hS : S w := by assumption)
  (hl : l.setIfInBounds i true = l' := by (try simp only [zwc, List.set_cons_succ, List.set_cons_zero]); exact rfl)
  (ha : a.put oi.dst v = a' := by (try simp only [zv9, zwa, zwb, Act.put, zwc, List.set_cons_succ, List.set_cons_zero]); exact rfl) :
  wpAnyH P md ops Q S (fuel + 1) l a w := by
 subst hl ha
 exact wpAnyH_take hi hs hf hr hQ (Or.inl ⟨hw, hy⟩) hS h
theorem tu (i : Nat) {oi : Oper} {fuel : Nat} {l l' : Array Bool} {a a' : Act} {w : World}
  (h : wpAnyH P md ops Q S fuel l' a' w)
  (hi : ops[i]? = some oi := by rfl) (hs : Region.noSelect ops = true := by kernel_rfl) (hf : Region.free md ops l i = true := by kernel_rfl)
  (hr : (Region.ready md ops l).contains i = true := by kernel_rfl)
  (hQ : ∀ c a w, Q (.panic c) (a.put oi.dst undef) w -> Q (.panic c) a w := by exact fun _ _ _ h => h)
  (hw : Region.wanted oi (yielded ops a.tmps) = false := by rfl)
  (hS : S w := by assumption)
  (hl : l.setIfInBounds i true = l' := by (try simp only [zwc, List.set_cons_succ, List.set_cons_zero]); exact rfl)
  (ha : a.put oi.dst undef = a' := by (try simp only [zv9, zwa, zwb, Act.put, zwc, List.set_cons_succ, List.set_cons_zero]); exact rfl) :
  wpAnyH P md ops Q S (fuel + 1) l a w := by
 subst hl ha
 exact wpAnyH_take hi hs hf hr hQ (Or.inr ⟨hw, rfl⟩) hS h
theorem rd (i : Nat) {o : Oper} {fuel : Nat} {l : Array Bool} {a : Act} {w : World}
  (h : ∀ K' : Act -> World -> Prop, Shut (∀ a w, S w -> (S w -> wpAnyH P md ops Q S fuel (l.setIfInBounds i true) a w) -> K' a w) -> if Region.wanted o (yielded ops a.tmps) = true then Oper.wp P o a w K' Q else K' (a.put o.dst undef) w)
  (hi : ops[i]? = some o := by exact rfl) (hr : Region.ready md ops l = [i] := by kernel_rfl) :
  wpAnyH P md ops Q S (fuel + 1) l a w :=
 wpAnyH_ready hr (by simp) (AllReadyH.cons hi h AllReadyH.nil)
theorem nx {i : Nat} {fuel : Nat} {l l' : Array Bool} {a a' : Act} {w : World}
  (h : wpAnyH P md ops Q S fuel l' a' w)
  (hl : l.setIfInBounds i true = l' := by (try simp only [zwc, List.set_cons_succ, List.set_cons_zero]); exact rfl)
  (ha : a = a' := by (try simp only [zv9, zwa, zwb, Act.put, zwc, List.set_cons_succ, List.set_cons_zero]); exact rfl) :
  wpAnyH P md ops Q S fuel (l.setIfInBounds i true) a w := by
 subst hl ha
 exact h
end
end Go.Proofs.YtcfbkcapbbhmpaaGreatDoor
