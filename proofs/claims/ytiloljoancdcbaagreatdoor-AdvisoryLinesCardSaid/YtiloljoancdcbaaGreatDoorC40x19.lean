/-
  Lemmas for the law.
-/
import Derived.Test.YtiloljoancdcbaaGreatDoorC40x18
import Derived.Test.YtiloljoancdcbaaGreatDoorC40x14
import Derived.Test.YtiloljoancdcbaaGreatDoorC40x12
import Derived.Test.YtiloljoancdcbaaGreatDoorC40x16
import Derived.BigRegion
import Derived.Deep.RegionHeld3
set_option linter.all false
set_option maxRecDepth 100000
set_option maxHeartbeats 1600000
namespace Go.Proofs.YtiloljoancdcbaaGreatDoor
open Go.RowKit
def cutV (c : V.Cut) : Value := .agg #[.string ⟨c.1.toArray⟩, .bool c.2]
def itvV (x : V.Itv) : Value := .agg #[.string ⟨x.lo.toArray⟩, .int .i64 x.lk, .string ⟨x.hi.toArray⟩, .int .i64 x.hk]
def zb3 (w : World) (b o : Nat) (x : V.Itv) : Prop := w.cell? ⟨b, o, none⟩ = some (.string ⟨x.lo.toArray⟩) /\ w.cell? ⟨b, o + 1, none⟩ = some (.int .i64 x.lk) /\ w.cell? ⟨b, o + 2, none⟩ = some (.string ⟨x.hi.toArray⟩) /\ w.cell? ⟨b, o + 3, none⟩ = some (.int .i64 x.hk)
def Itvs (w : World) (v : Value) (l : List V.Itv) : Prop := ∃ a cap, v = .slice a l.length cap /\ ∀ j (h : j < l.length), ∃ b off, a = some ⟨b, off, none⟩ /\ b < w.heap.size /\ zb3 w b (off + j * 4) l[j]
theorem zb3.below {w w' : World} {b o : Nat} {x : V.Itv} (h : zb3 w b o x) (hlt : b < w.heap.size) (hb : Below w.heap.size w w') : zb3 w' b o x :=
 ⟨(hb.cell (p := ⟨b, o, none⟩) hlt).trans h.1, (hb.cell (p := ⟨b, o + 1, none⟩) hlt).trans h.2.1, (hb.cell (p := ⟨b, o + 2, none⟩) hlt).trans h.2.2.1, (hb.cell (p := ⟨b, o + 3, none⟩) hlt).trans h.2.2.2⟩
theorem Itvs.nil (w : World) : Itvs w (.slice none 0 0) [] := ⟨none, 0, rfl, fun j h => by simp at h⟩
theorem Itvs.below {w w' : World} {v : Value} {l : List V.Itv} (h : Itvs w v l) (hb : Below w.heap.size w w') : Itvs w' v l := by
 obtain ⟨a, cap, e, hc⟩ := h
 refine ⟨a, cap, e, fun j hj => ?_⟩
 obtain ⟨b, off, ea, hlt, hcell⟩ := hc j hj
 exact ⟨b, off, ea, Nat.lt_of_lt_of_le hlt hb.size, hcell.below hlt hb⟩
theorem Itvs.slice {w : World} {v : Value} {l : List V.Itv} (h : Itvs w v l) : ∃ a cap, v = .slice a l.length cap := by
 obtain ⟨a, c, e, _⟩ := h
 exact ⟨a, c, e⟩
theorem Itvs.at {w : World} {a : Option Addr} {n cap : Nat} {l : List V.Itv} (h : Itvs w (.slice a n cap) l) (j : Nat) (hj : j < l.length) : ∃ b off, a = some ⟨b, off, none⟩ /\ b < w.heap.size /\ zb3 w b (off + j * 4) l[j] := by
 obtain ⟨a', c, e, hc⟩ := h
 obtain ⟨b, off, ea, hb, hcell⟩ := hc j hj
 cases e
 exact ⟨b, off, ea, hb, hcell⟩
theorem zzb {P : Prop} (h : P := by
 go_enter Tryz.func76, Tryz.ntmps76
 go_wp2
 go_ret
 exact ⟨rfl, rfl⟩) : P := h
theorem za0 (n : Int) (w : World) : Calls Tryz.prog 76 #[.int .i64 n] w fun e w' => e = .returned (.bool (V.scheme n)) /\ w' = w := by
 have HS : Hid (V.scheme n = (n == 1 || (n == 3 || n == 2))) := zvq (by unfold V.scheme; cases (n == 1) <;> cases (n == 2) <;> cases (n == 3) <;> rfl)
 by_cases h1 : n = 1
 ·subst h1
  exact zzb
 ·by_cases h2 : n = 2
  ·subst h2
   exact zzb
  ·by_cases h3 : n = 3
   ·subst h3
    exact zzb
   ·have b1 : (n == 1) = false := by simpa using h1
    have b2 : (n == 2) = false := by simpa using h2
    have b3 : (n == 3) = false := by simpa using h3
    have HF : Hid (V.scheme n = false) := zvq (by rw [HS.out, b1, b2, b3]; rfl)
    clear h1 h2 h3
    go_enter Tryz.func76, Tryz.ntmps76
    go_wp2
    go_ret
    exact ⟨zc HF.out.symm, rfl⟩
theorem zbg (x : V.Itv) (w : World) : Calls Tryz.prog 94 #[itvV x] w fun e w' => e = .returned (cutV x.low) /\ Below w.heap.size w w' := by
 unfold itvV cutV V.Itv.low
 obtain ⟨lo, lk, hi, hk⟩ := x
 have HD : Hid (decide (lk = 2) = (lk == 2)) := zvq (by rw [Bool.eq_iff_iff]; simp)
 simp only
 rw [HD.out]
 generalize (⟨lo.toArray⟩ : ByteArray) = s
 generalize (⟨hi.toArray⟩ : ByteArray) = t
 go_enter Tryz.func94, Tryz.ntmps94
 go_wp2
 exact bodyPost_ret (v := .agg #[.string s, .bool (lk == 2)]) (by simp [results, Tryz.results94, go_sem]) rfl ⟨rfl, ((((zvt _ _).alloc (zvs _) _).alloc (by simp) _))⟩
theorem ut (x : V.Itv) (w : World) : Calls Tryz.prog 95 #[itvV x] w fun e w' => e = .returned (cutV x.high) /\ Below w.heap.size w w' := by
 unfold itvV cutV V.Itv.high
 obtain ⟨lo, lk, hi, hk⟩ := x
 have HD : Hid (decide (hk = 1) = (hk == 1)) := zvq (by rw [Bool.eq_iff_iff]; simp)
 simp only
 rw [HD.out]
 generalize (⟨lo.toArray⟩ : ByteArray) = s
 generalize (⟨hi.toArray⟩ : ByteArray) = t
 go_enter Tryz.func95, Tryz.ntmps95
 go_wp2
 exact bodyPost_ret (v := .agg #[.string t, .bool (hk == 1)]) (by simp [results, Tryz.results95, go_sem]) rfl ⟨rfl, ((((zvt _ _).alloc (zvs _) _).alloc (by simp) _))⟩
theorem xc (n : Int) (c d : V.Cut) (w : World) (hm : zg w) (hn : V.scheme n = true) (hc : V.valid n c.1 = true) (hd : V.valid n d.1 = true) :
  Calls Tryz.prog 93 #[.int .i64 n, cutV c, cutV d] w fun e w' => e = .returned (.int .i64 (V.cutC n c d)) /\ Below w.heap.size w w' := by
 obtain ⟨a, p⟩ := c
 obtain ⟨b, q⟩ := d
 have HF : Hid (V.cutC n (a, p) (b, q) = if V.cmpV n a b ≠ 0 ∨ p = q then V.cmpV n a b else if q then -1 else 1) := rfl
 have HN := zvq hn
 have HC := zvq (show V.valid n a = true from hc)
 have HD := zvq (show V.valid n b = true from hd)
 have hb0 : Below w.heap.size w ((w.alloc (.cells #[.string ⟨a.toArray⟩, .bool p] 133)).alloc (.cells #[.string ⟨b.toArray⟩, .bool q] 133)) := ((zvt _ _).alloc (zvs _) _).alloc (by simp) _
 have HB0 := zvq hb0
 have HM := zvq (hm.below hb0)
 clear hn hc hd hb0 hm
 unfold cutV
 simp only
 obtain ⟨z, hz⟩ : ∃ z, V.cmpV n a b = z := ⟨_, rfl⟩
 have HZ := zvq hz
 rw [hz] at HF
 have e1 : ((w.alloc (.cells #[.string ⟨a.toArray⟩, .bool p] 133)).alloc (.cells #[.string ⟨b.toArray⟩, .bool q] 133)).cell? ⟨w.heap.size, 1, none⟩ = some (.bool p) := by simp [ze]
 have e2 : ((w.alloc (.cells #[.string ⟨a.toArray⟩, .bool p] 133)).alloc (.cells #[.string ⟨b.toArray⟩, .bool q] 133)).cell? ⟨w.heap.size + 1, 1, none⟩ = some (.bool q) := by simp [ze]
 have HE := zvq (And.intro e1 e2)
 clear hz e1 e2
 go_enter Tryz.func93, Tryz.ntmps93
 go_wp2_with fail
 refine (zse n a b z _ HM.out HN.out HC.out HD.out HZ.out).mono ?_
 rintro e w1 ⟨rfl, hb1⟩
 have c1 := (hb1.cell (p := ⟨w.heap.size, 1, none⟩) (by simp; omega)).trans HE.out.1
 have c2 := (hb1.cell (p := ⟨w.heap.size + 1, 1, none⟩) (by simp)).trans HE.out.2
 have HB1 := zvr HB0 hb1
 clear hb1
 by_cases h0 : z = 0
 ·subst h0
  cases p <;> cases q
  all_goals
   go_wp2
   go_ret
   exact ⟨zn (by rw [HF.out]; rfl), HB1.out⟩
 ·have hz1 : (z != 0) = true := by simpa using h0
  have hz2 : (z == 0) = false := by simpa using h0
  have HF2 : Hid (V.cutC n (a, p) (b, q) = z) := zvq (by rw [HF.out, if_pos (.inl h0)])
  clear h0 HF
  go_wp2
  go_ret
  exact ⟨zn HF2.out.symm, HB1.out⟩
theorem zic (n : Int) (v : V.Bs) (k : Int) (w : World) (hm : zg w) (hv : v.length ≤ maxLen) :
  Calls Tryz.prog 77 #[.int .i64 n, .string ⟨v.toArray⟩, .int .i64 k] w fun e w' => e = .returned (.bool (V.jx n v k)) /\ Below w.heap.size w w' := by
 have HF : Hid (V.jx n v k = if k = 0 then v.isEmpty else (decide (k = 1) || decide (k = 2)) && V.valid n v) := rfl
 by_cases h0 : k = 0
 ·subst h0
  rw [if_pos rfl] at HF
  by_cases hv0 : v = []
  ·subst hv0
   go_enter Tryz.func77, Tryz.ntmps77
   go_wp2
   go_ret
   exact ⟨rfl, zvt _ _⟩
  ·have HFE : Hid (V.jx n v 0 = false) := zvq (by rw [HF.out]; simpa using hv0)
   have hne : ¬ v = [] := hv0
   clear hv0 HF
   go_enter Tryz.func77, Tryz.ntmps77
   go_wp2
   go_ret
   exact ⟨zc (by rw [HFE.out]; simpa using hne), zvt _ _⟩
 ·rw [if_neg h0] at HF
  have b0 : (k == 0) = false := by simpa using h0
  by_cases h12 : k = 1 ∨ k = 2
  ·have HF2 : Hid (V.jx n v k = V.valid n v) := zvq (by rw [HF.out]; rcases h12 with h | h <;> simp [h])
   have HM := zvq hm
   clear HF hm
   rcases h12 with rfl | rfl
   all_goals
    go_enter Tryz.func77, Tryz.ntmps77
    go_wp2_with fail
    refine (vd n ⟨v.toArray⟩ _ HM.out hv).mono ?_
    rintro e w1 ⟨rfl, hb1⟩
    rw [wl]
    have HB1 := zvq hb1
    clear hb1
    go_wp2
    go_ret
    exact ⟨zc HF2.out.symm, HB1.out⟩
  ·have b1 : (k == 1) = false := by simpa using fun h => h12 (.inl h)
   have b2 : (k == 2) = false := by simpa using fun h => h12 (.inr h)
   have HF2 : Hid (V.jx n v k = false) := zvq (by rw [HF.out, decide_eq_false (fun h => h12 (.inl h)), decide_eq_false (fun h => h12 (.inr h))]; rfl)
   clear HF h12 h0
   go_enter Tryz.func77, Tryz.ntmps77
   go_wp2
   go_ret
   exact ⟨zc HF2.out.symm, zvt _ _⟩
def ecV (x : V.Ec) : Value := .agg #[.int .i64 x.e, .string ⟨x.v.toArray⟩, .int .i64 x.s]
theorem ws (x : V.Itv) (w : World) : Calls Tryz.prog 85 #[itvV x] w fun e w' => e = .returned (ecV (V.eLow x)) /\ Below w.heap.size w w' := by
 obtain ⟨lo, lk, hi, hk⟩ := x
 have HF : Hid (V.eLow ⟨lo, lk, hi, hk⟩ = if lk = 1 then ⟨0, lo, 0⟩ else if lk = 2 then ⟨0, lo, 1⟩ else V.ebot) := zvq rfl
 unfold itvV ecV
 simp only
 by_cases h1 : lk = 1
 ·subst h1
  have HR : Hid (V.eLow ⟨lo, 1, hi, hk⟩ = ⟨0, lo, 0⟩) := zvq rfl
  rw [HR.out]
  go_enter Tryz.func85, Tryz.ntmps85
  go_wp2
  exact bodyPost_ret (v := .agg #[.int .i64 0, .string ⟨lo.toArray⟩, .int .i64 0]) (by simp [results, Tryz.results85, go_sem]) rfl ⟨rfl, ((((zvt _ _).alloc (zvs _) _).alloc (by simp) _))⟩
 ·by_cases h2 : lk = 2
  ·subst h2
   have HR : Hid (V.eLow ⟨lo, 2, hi, hk⟩ = ⟨0, lo, 1⟩) := zvq rfl
   rw [HR.out]
   go_enter Tryz.func85, Tryz.ntmps85
   go_wp2
   exact bodyPost_ret (v := .agg #[.int .i64 0, .string ⟨lo.toArray⟩, .int .i64 1]) (by simp [results, Tryz.results85, go_sem]) rfl ⟨rfl, ((((zvt _ _).alloc (zvs _) _).alloc (by simp) _))⟩
  ·have b1 : (lk == 1) = false := by simpa using h1
   have b2 : (lk == 2) = false := by simpa using h2
   have HR : Hid (V.eLow ⟨lo, lk, hi, hk⟩ = ⟨-1, [], 0⟩) := zvq (by rw [HF.out, if_neg h1, if_neg h2]; rfl)
   rw [HR.out]
   clear h1 h2
   go_enter Tryz.func85, Tryz.ntmps85
   go_wp2
   exact bodyPost_ret (v := .agg #[.int .i64 (-1), .string ⟨#[]⟩, .int .i64 0]) (by simp [results, Tryz.results85, go_sem]) rfl ⟨rfl, ((((zvt _ _).alloc (zvs _) _).alloc (by simp) _))⟩
theorem zab (x : V.Itv) (w : World) : Calls Tryz.prog 86 #[itvV x] w fun e w' => e = .returned (ecV (V.kw x)) /\ Below w.heap.size w w' := by
 obtain ⟨lo, lk, hi, hk⟩ := x
 have HF : Hid (V.kw ⟨lo, lk, hi, hk⟩ = if hk = 1 then ⟨0, hi, 1⟩ else if hk = 2 then ⟨0, hi, 0⟩ else V.etop) := zvq rfl
 unfold itvV ecV
 simp only
 by_cases h1 : hk = 1
 ·subst h1
  have HR : Hid (V.kw ⟨lo, lk, hi, 1⟩ = ⟨0, hi, 1⟩) := zvq rfl
  rw [HR.out]
  go_enter Tryz.func86, Tryz.ntmps86
  go_wp2
  exact bodyPost_ret (v := .agg #[.int .i64 0, .string ⟨hi.toArray⟩, .int .i64 1]) (by simp [results, Tryz.results86, go_sem]) rfl ⟨rfl, ((((zvt _ _).alloc (zvs _) _).alloc (by simp) _))⟩
 ·by_cases h2 : hk = 2
  ·subst h2
   have HR : Hid (V.kw ⟨lo, lk, hi, 2⟩ = ⟨0, hi, 0⟩) := zvq rfl
   rw [HR.out]
   go_enter Tryz.func86, Tryz.ntmps86
   go_wp2
   exact bodyPost_ret (v := .agg #[.int .i64 0, .string ⟨hi.toArray⟩, .int .i64 0]) (by simp [results, Tryz.results86, go_sem]) rfl ⟨rfl, ((((zvt _ _).alloc (zvs _) _).alloc (by simp) _))⟩
  ·have b1 : (hk == 1) = false := by simpa using h1
   have b2 : (hk == 2) = false := by simpa using h2
   have HR : Hid (V.kw ⟨lo, lk, hi, hk⟩ = ⟨1, [], 0⟩) := zvq (by rw [HF.out, if_neg h1, if_neg h2]; rfl)
   rw [HR.out]
   clear h1 h2
   go_enter Tryz.func86, Tryz.ntmps86
   go_wp2
   exact bodyPost_ret (v := .agg #[.int .i64 1, .string ⟨#[]⟩, .int .i64 0]) (by simp [results, Tryz.results86, go_sem]) rfl ⟨rfl, ((((zvt _ _).alloc (zvs _) _).alloc (by simp) _))⟩
theorem ug (n : Int) (a b : V.Ec) (w : World) (hm : zg w) (hn : V.scheme n = true) (ha : V.EcOk n a) (hb : V.EcOk n b) :
  Calls Tryz.prog 84 #[.int .i64 n, ecV a, ecV b] w fun e w' => e = .returned (.int .i64 (V.ecmp n a b)) /\ Below w.heap.size w w' := by
 have HZ : Hid (V.ecmp n a b = if a.e ≠ b.e ∨ a.e ≠ 0 then a.e - b.e else if V.cmpV n a.v b.v ≠ 0 then V.cmpV n a.v b.v else a.s - b.s) := zvq rfl
 have HB := zvq (show Below w.heap.size w ((w.alloc (.cells #[.int .i64 a.e, .string ⟨a.v.toArray⟩, .int .i64 a.s] 125)).alloc (.cells #[.int .i64 b.e, .string ⟨b.v.toArray⟩, .int .i64 b.s] 125)) from ((zvt _ _).alloc (zvs _) _).alloc (by simp) _)
 have HM := zvq hm
 have HN := zvq hn
 clear hm hn
 unfold ecV
 rcases ha with rfl | rfl | ⟨⟨x, p⟩, hx, rfl⟩ <;> rcases hb with rfl | rfl | ⟨⟨y, q⟩, hy, rfl⟩
 rotate_right
 ·have HX := zvq (show V.valid n x = true from hx)
  have HY := zvq (show V.valid n y = true from hy)
  clear hx hy
  unfold V.eat at HB HZ ⊢
  simp only at HB HZ ⊢
  obtain ⟨sp, hsp⟩ : ∃ sp : Int, sp = if p then 1 else 0 := ⟨_, rfl⟩
  obtain ⟨sq, hsq⟩ : ∃ sq : Int, sq = if q then 1 else 0 := ⟨_, rfl⟩
  have hsp1 : 0 ≤ sp /\ sp ≤ 1 := by rw [hsp]; cases p <;> simp
  have hsq1 : 0 ≤ sq /\ sq ≤ 1 := by rw [hsq]; cases q <;> simp
  obtain ⟨hsp1, hsp2⟩ := hsp1
  obtain ⟨hsq1, hsq2⟩ := hsq1
  rw [← hsp, ← hsq] at HB HZ ⊢
  clear hsp hsq
  have HM0 := zvq (HM.out.below HB.out)
  obtain ⟨z, hz⟩ : ∃ z, V.cmpV n x y = z := ⟨_, rfl⟩
  rw [hz] at HZ
  have HC := zvq hz
  clear hz
  have e1 : ((w.alloc (.cells #[.int .i64 0, .string ⟨x.toArray⟩, .int .i64 sp] 125)).alloc (.cells #[.int .i64 0, .string ⟨y.toArray⟩, .int .i64 sq] 125)).cell? ⟨w.heap.size, 2, none⟩ = some (.int .i64 sp) := by simp [ze]
  have e2 : ((w.alloc (.cells #[.int .i64 0, .string ⟨x.toArray⟩, .int .i64 sp] 125)).alloc (.cells #[.int .i64 0, .string ⟨y.toArray⟩, .int .i64 sq] 125)).cell? ⟨w.heap.size + 1, 2, none⟩ = some (.int .i64 sq) := by simp [ze]
  have hw := zs0 n ⟨x.toArray⟩ ⟨y.toArray⟩ ((w.alloc (.cells #[.int .i64 0, .string ⟨x.toArray⟩, .int .i64 sp] 125)).alloc (.cells #[.int .i64 0, .string ⟨y.toArray⟩, .int .i64 sq] 125)) HM0.out HN.out (by rw [wl]; exact HX.out) (by rw [wl]; exact HY.out)
  rw [wl, wl, HC.out] at hw
  have HW := zvq hw
  have HE := zvq (And.intro e1 e2)
  clear hw e1 e2
  go_enter Tryz.func84, Tryz.ntmps84
  go_wp2_with fail
  refine HW.out.mono ?_
  rintro e w1 ⟨rfl, hb1⟩
  have c1 := (hb1.cell (p := ⟨w.heap.size, 2, none⟩) (by simp; omega)).trans HE.out.1
  have c2 := (hb1.cell (p := ⟨w.heap.size + 1, 2, none⟩) (by simp)).trans HE.out.2
  have HB1 := zvr HB hb1
  clear hb1
  by_cases h0 : z = 0
  ·subst h0
   have HF2 : Hid (V.ecmp n ⟨0, x, sp⟩ ⟨0, y, sq⟩ = sp - sq) := zvq (by rw [HZ.out]; simp)
   clear HZ
   go_wp2
   go_ret
   exact ⟨zn HF2.out.symm, HB1.out⟩
  ·have hz1 : (z != 0) = true := by simpa using h0
   have HF2 : Hid (V.ecmp n ⟨0, x, sp⟩ ⟨0, y, sq⟩ = z) := zvq (by
     rw [HZ.out, if_neg (by simp), if_pos h0])
   clear h0 HZ
   go_wp2
   go_ret
   exact ⟨zn HF2.out.symm, HB1.out⟩
 all_goals try (cases p)
 all_goals try (cases q)
 all_goals
  try unfold V.ebot at HB HZ ⊢
  try unfold V.etop at HB HZ ⊢
  try unfold V.eat at HB HZ ⊢
  simp only at HB HZ ⊢
  go_enter Tryz.func84, Tryz.ntmps84
  go_wp2
  go_ret
  exact ⟨zn (by unfold V.ecmp; simp), HB.out⟩
theorem zin (n : Int) (v : V.Bs) (k : Int) (w : World) (hm : zg w) (hv : v.length ≤ maxLen) :
  Calls Tryz.prog 83 #[.int .i64 n, .int .i64 k, .string ⟨v.toArray⟩] w fun e w' => e = .returned (.bool (V.jx n v k)) /\ Below w.heap.size w w' := by
 have HF : Hid (V.jx n v k = if k = 0 then v.isEmpty else (decide (k = 1) || decide (k = 2)) && V.valid n v) := rfl
 by_cases h0 : k = 0
 ·subst h0
  rw [if_pos rfl] at HF
  by_cases hv0 : v = []
  ·subst hv0
   go_enter Tryz.func83, Tryz.ntmps83
   go_wp2
   go_ret
   exact ⟨rfl, zvt _ _⟩
  ·have HFE : Hid (V.jx n v 0 = false) := zvq (by rw [HF.out]; simpa using hv0)
   have hne : ¬ v = [] := hv0
   clear hv0 HF
   go_enter Tryz.func83, Tryz.ntmps83
   go_wp2
   go_ret
   exact ⟨zc (by rw [HFE.out]; simpa using hne), zvt _ _⟩
 ·rw [if_neg h0] at HF
  have b0 : (k == 0) = false := by simpa using h0
  by_cases h12 : k = 1 ∨ k = 2
  ·have HF2 : Hid (V.jx n v k = V.valid n v) := zvq (by rw [HF.out]; rcases h12 with h | h <;> simp [h])
   have HM := zvq hm
   clear HF hm
   rcases h12 with rfl | rfl
   all_goals
    go_enter Tryz.func83, Tryz.ntmps83
    go_wp2_with fail
    refine (zb1 n ⟨v.toArray⟩ _ HM.out hv).mono ?_
    rintro e w1 ⟨rfl, hb1⟩
    rw [wl]
    have HB1 := zvq hb1
    clear hb1
    go_wp2
    go_ret
    exact ⟨zc HF2.out.symm, HB1.out⟩
  ·have b1 : (k == 1) = false := by simpa using fun h => h12 (.inl h)
   have b2 : (k == 2) = false := by simpa using fun h => h12 (.inr h)
   have HF2 : Hid (V.jx n v k = false) := zvq (by rw [HF.out, decide_eq_false (fun h => h12 (.inl h)), decide_eq_false (fun h => h12 (.inr h))]; rfl)
   clear HF h12 h0
   go_enter Tryz.func83, Tryz.ntmps83
   go_wp2
   go_ret
   exact ⟨zc HF2.out.symm, zvt _ _⟩
open Go.RowKit
theorem za {W W' : World} {b o : Nat} {v : Value} (hb : Below W.heap.size W W') (h : W.cell? ⟨b, o, none⟩ = some v) : W'.cell? ⟨b, o, none⟩ = some v :=
 (hb.cell (p := ⟨b, o, none⟩) (World.block_lt_of_cell? _ _ h)).trans h
theorem zvw {W W' : World} {b o : Nat} {v : Value} (hb : Below W.heap.size W W') (h : W.cell? ⟨b, o, none⟩ = some v := by assumption) : W'.cell? ⟨b, o, none⟩ = some v := za hb h
theorem zel {n : Int} {l : List V.Itv} {k : Nat} (h : ∀ i, i < k -> V.okAt n l i = true) (hk : V.okAt n l k = true) : ∀ i, i < k + 1 -> V.okAt n l i = true := fun i hi => by
 by_cases e : i = k
 ·subst e; exact hk
 ·exact h i (by omega)
theorem zhc {n : Int} {l : List V.Itv} {k : Nat} (hk : k < l.length) (h : V.okAt n l k = false) : V.ordB n l = false := by
 rcases hb : V.ordB n l with _ | _
 ·rfl
 ·rw [(V.zcg n l).1 hb k hk] at h; cases h
theorem zjg {l : List V.Itv} {k : Nat} (h : k < l.length) : l.getD k V.noI = l[k] := by rw [List.getD_eq_getElem?_getD, List.getElem?_eq_getElem h]; rfl
theorem zza {P : Prop} (h : P := by
 go_wp2
 go_roundw
 case rel => exact ⟨k + 1, by omega, by go_num, HOK.out, HBZ.out⟩
 case measure => simp [intOf]; omega) : P := h
theorem z0g {P : Prop} (h : P := by
 go_quiet (fail)
 have HBZ := zvq (below_drewN HBV.out nq)
 generalize W2.drewN nq = W3 at *
 go_wp2
 go_ret
 exact ⟨zc HNO.out.symm, HBZ.out⟩) : P := h
theorem z1i {P : Prop} (h : P := by
 refine ⟨?_, ?_, ?_, ?_⟩ <;> simp [ze]) : P := h
theorem zmi (n : Int) (v : Value) (l : List V.Itv) (w : World) (hm : zg w) (hn : V.scheme n = true) (hv : Itvs w v l) (hb : ∀ x ∈ l, V.zj n x = true) (hl : l.length ≤ 1000) :
  Calls Tryz.prog 78 #[.int .i64 n, v] w fun e w' => e = .returned (.bool (V.ordB n l)) /\ Below w.heap.size w w' := by
 have HV := zvq hv
 obtain ⟨va, vc, rfl⟩ := hv.slice
 have HN := zvq hn
 have HM := zvq hm
 have HB := zvq hb
 clear hn hm hb hv
 go_enter Tryz.func78, Tryz.ntmps78
 go_wp2
 go_loopw [10] (fun iv wx => ∃ k : Nat, k ≤ l.length /\ iv = .int .i64 k /\ (∀ i, i < k -> V.okAt n l i = true) /\ Below w.heap.size w wx) (fun iv _ => l.length - (intOf iv).toNat)
 case atStart => exact ⟨0, Nat.zero_le _, rfl, fun i hi => by omega, zvt _ _⟩
 case round =>
  obtain ⟨k, hk, rfl, hz, hbx⟩ := hrel
  have HZ := zvq hz
  have HBX := zvq hbx
  clear hz hbx
  by_cases hlt : k < l.length
  ·obtain ⟨b, off, rfl, hb0, hx⟩ := HV.out.at k hlt
   have hx' := hx.below hb0 HBX.out
   obtain ⟨h0, h1, h2, h3⟩ := hx'
   have hi1 : (0 : Int) ≤ (k : Int) := by omega
   have hi2 : (k : Int) < (l.length : Int) := by omega
   have hbx : V.zj n l[k] = true := HB.out _ (List.getElem_mem hlt)
   have HBK := zvq hbx
   have HG := zvq (zjg hlt)
   clear hx hbx
   have hz1 : wr.heap.size < (wr.alloc (.cells #[.string ⟨l[k].lo.toArray⟩, .int .i64 l[k].lk, .string ⟨l[k].hi.toArray⟩, .int .i64 l[k].hk] 87)).heap.size := by simp
   have hbW : Below w.heap.size w (wr.alloc (.cells #[.string ⟨l[k].lo.toArray⟩, .int .i64 l[k].lk, .string ⟨l[k].hi.toArray⟩, .int .i64 l[k].hk] 87)) := HBX.out.alloc HBX.out.size _
   have hx4 : zb3 (wr.alloc (.cells #[.string ⟨l[k].lo.toArray⟩, .int .i64 l[k].lk, .string ⟨l[k].hi.toArray⟩, .int .i64 l[k].hk] 87)) wr.heap.size 0 l[k] := by
    exact z1i
   have HX4 := zvq hx4
   have HBW := zvq hbW
   clear hx4 hbW
   go_wp2_with fail
   generalize wr.alloc (.cells #[.string ⟨l[k].lo.toArray⟩, .int .i64 l[k].lk, .string ⟨l[k].hi.toArray⟩, .int .i64 l[k].hk] 87) = W0 at *
   obtain ⟨d0, d1, d2, d3⟩ := HX4.out
   rw [Nat.zero_add] at d1 d2 d3
   have HXV := zvq (fun (h1 : l[k].lk ≠ 0) => V.xw HBK.out h1)
   have HXW := zvq (fun (h1 : l[k].hk ≠ 0) => V.ju HBK.out h1)
   have HM0 : Hid (zg W0) := zvq (HM.out.below HBW.out)
   have HIF : Hid (V.yw n l[k] = (decide (l[k].lk = 0) || (decide (l[k].hk = 0) || decide (V.cutC n l[k].low l[k].high < 0)))) := zvq rfl
   generalize l[k] = x at *
   clear h0 h1 h2 h3
   rcases hin : V.yw n x with _ | _
   ·have HIN := zvq hin
    rw [HIF.out] at hin
    simp only [Bool.or_eq_false_iff, decide_eq_false_iff_not] at hin
    obtain ⟨i1, i2, i3⟩ := hin
    have hlow := HXV.out i1
    have hhigh := HXW.out i2
    have g1 : (x.lk != 0) = true := by simpa using i1
    have g2 : (x.hk != 0) = true := by simpa using i2
    have i4 : 0 ≤ V.cutC n x.low x.high := by omega
    have HNO : Hid (V.ordB n l = false) := zvq (zhc hlt (by unfold V.okAt; rw [HG.out, HIN.out]; rfl))
    clear i1 i2 i3
    go_region_held3 (fun W' => zg W' /\ W'.cell? ⟨wr.heap.size, 0, none⟩ = some (.string ⟨x.lo.toArray⟩) /\ W'.cell? ⟨wr.heap.size, 1, none⟩ = some (.int .i64 x.lk) /\ W'.cell? ⟨wr.heap.size, 2, none⟩ = some (.string ⟨x.hi.toArray⟩) /\ W'.cell? ⟨wr.heap.size, 3, none⟩ = some (.int .i64 x.hk))
     (first
       | (go_split_ands; exact ⟨zg.below (by assumption) hbq, zvw hbq, zvw hbq, zvw hbq, zvw hbq⟩)
       | (exact ⟨HM0.out, d0, d1, d2, d3⟩)
       | go_keep)
     (first
       | (go_at_call 94; refine (zbg x _).mono ?_; rintro e wq ⟨rfl, hbq⟩)
       | (go_at_call 95; refine (ut x _).mono ?_; rintro e wq ⟨rfl, hbq⟩)
       | (go_at_call 93; refine (xc n x.low x.high _ (by first | assumption | exact And.left (by assumption)) HN.out hlow hhigh).mono ?_; rintro e wq ⟨rfl, hbq⟩))
    rename_i wa hba wb hbb hS
    have HBZ := zvq (HBW.out.trans ((((zvt W0.heap.size W0).drew).trans (Below.trans (show Below W0.heap.size W0.drew wa from hba) ((hbb.trans (hbq.mono hbb.size)).mono hba.size))).mono HBW.out.size))
    clear hba hbb hbq hS
    generalize V.cutC n x.low x.high = z at *
    go_wp2
    go_ret
    exact ⟨zc HNO.out.symm, HBZ.out⟩
   ·have HIN := zvq hin
    have hcase : (x.lk != 0) = false ∨ ((x.lk != 0) = true /\ (x.hk != 0) = false) ∨ ((x.lk != 0) = true /\ (x.hk != 0) = true) := by
     cases (x.lk != 0) <;> cases (x.hk != 0) <;> simp
    rcases hcase with g1 | ⟨g1, g2⟩ | ⟨g1, g2⟩
    focus
     clear hin
     go_quiet (fail)
     have HB1 := zvq (below_drewN (zvt W0.heap.size W0) nq)
     generalize W0.drewN nq = W1 at *
    rotate_left
    focus
     clear hin
     go_quiet (fail)
     have HB1 := zvq (below_drewN (zvt W0.heap.size W0) nq)
     generalize W0.drewN nq = W1 at *
    rotate_left
    focus
     have i1 : x.lk ≠ 0 := by simpa using g1
     have i2 : x.hk ≠ 0 := by simpa using g2
     have hlow := HXV.out i1
     have hhigh := HXW.out i2
     have i4 : ¬ (0 ≤ V.cutC n x.low x.high) := by
      rw [HIF.out] at hin
      simp only [Bool.or_eq_true, decide_eq_true_eq] at hin
      omega
     clear i1 i2 hin
     go_region_held3 (fun W' => zg W' /\ W'.cell? ⟨wr.heap.size, 0, none⟩ = some (.string ⟨x.lo.toArray⟩) /\ W'.cell? ⟨wr.heap.size, 1, none⟩ = some (.int .i64 x.lk) /\ W'.cell? ⟨wr.heap.size, 2, none⟩ = some (.string ⟨x.hi.toArray⟩) /\ W'.cell? ⟨wr.heap.size, 3, none⟩ = some (.int .i64 x.hk))
      (first
        | (go_split_ands; exact ⟨zg.below (by assumption) hbq, zvw hbq, zvw hbq, zvw hbq, zvw hbq⟩)
        | (exact ⟨HM0.out, d0, d1, d2, d3⟩)
        | go_keep)
      (first
        | (go_at_call 94; refine (zbg x _).mono ?_; rintro e wq ⟨rfl, hbq⟩)
        | (go_at_call 95; refine (ut x _).mono ?_; rintro e wq ⟨rfl, hbq⟩)
        | (go_at_call 93; refine (xc n x.low x.high _ (by first | assumption | exact And.left (by assumption)) HN.out hlow hhigh).mono ?_; rintro e wq ⟨rfl, hbq⟩))
     rename_i wa hba wb hbb hS
     have HB1 := zvq ((((zvt W0.heap.size W0).drew).trans (Below.trans (show Below W0.heap.size W0.drew wa from hba) ((hbb.trans (hbq.mono hbb.size)).mono hba.size))))
     clear hba hbb hbq hS
     generalize V.cutC n x.low x.high = z at *
     generalize wq = W1 at *
    rotate_left
    all_goals
     have HBW1 := zvq (HBW.out.trans (HB1.out.mono HBW.out.size))
     have e0 := za HB1.out d0
     have e1 := za HB1.out d1
     have e2 := za HB1.out d2
     have e3 := za HB1.out d3
     have hz2 : wr.heap.size < W1.heap.size := Nat.lt_of_lt_of_le hz1 HB1.out.size
     have HM1 := zvq (HM0.out.below HB1.out)
     clear d0 d1 d2 d3 HB1 HM0 hz1
     by_cases hk0 : k = 0
     ·have hkb : ((k : Int) == 0) = true := by rw [hk0]; rfl
      have HOK : Hid (∀ i, i < k + 1 -> V.okAt n l i = true) := zvq (zel HZ.out (by unfold V.okAt; rw [HG.out, HIN.out, hk0]; rfl))
      clear hk0 e0 e1 e2 e3
      go_wp2
      go_roundw
      case rel => exact ⟨k + 1, by omega, by go_num, HOK.out, HBW1.out⟩
      case measure => simp [intOf]; omega
     ·have hkb : ((k : Int) == 0) = false := by rw [zvu]; omega
      have hi3 : (1 : Int) ≤ (k : Int) := by omega
      have hi4 : (k : Int) - 1 < (l.length : Int) := by omega
      have hk1 : k - 1 < l.length := by omega
      obtain ⟨b', off', eb, hb1, hy⟩ := HV.out.at (k - 1) hk1
      cases eb
      obtain ⟨y0, y1, y2, y3⟩ := hy.below hb1 HBW1.out
      have HBY : Hid (V.zj n l[k - 1] = true) := zvq (HB.out _ (List.getElem_mem hk1))
      have HGY := zvq (zjg hk1)
      generalize l[k - 1] = y at *
      have HNB : Hid (V.vp n y x = (!decide (y.hk = 0) && (!decide (x.lk = 0) && decide (V.cutC n y.high x.low < 0)))) := zvq rfl
      have HOKF : Hid (V.okAt n l k = V.vp n y x) := zvq (by unfold V.okAt; rw [HG.out, HGY.out, HIN.out, decide_eq_false hk0]; rfl)
      have hbV : Below w.heap.size w (W1.alloc (.cells #[.string ⟨y.lo.toArray⟩, .int .i64 y.lk, .string ⟨y.hi.toArray⟩, .int .i64 y.hk] 87)) := HBW1.out.alloc HBW1.out.size _
      have HBV := zvq hbV
      have hbA : Below W1.heap.size W1 (W1.alloc (.cells #[.string ⟨y.lo.toArray⟩, .int .i64 y.lk, .string ⟨y.hi.toArray⟩, .int .i64 y.hk] 87)) := (zvt _ W1).alloc (zvs _) _
      have e0' := za hbA e0
      have e1' := za hbA e1
      have e2' := za hbA e2
      have e3' := za hbA e3
      have hy4 : zb3 (W1.alloc (.cells #[.string ⟨y.lo.toArray⟩, .int .i64 y.lk, .string ⟨y.hi.toArray⟩, .int .i64 y.hk] 87)) W1.heap.size 0 y := by
       exact z1i
      have HY4 := zvq hy4
      have HM2 := zvq (HM1.out.below hbA)
      clear hy hy4 hbV hbA hk0 hb1
      go_wp2_with fail
      generalize W1.alloc (.cells #[.string ⟨y.lo.toArray⟩, .int .i64 y.lk, .string ⟨y.hi.toArray⟩, .int .i64 y.hk] 87) = W2 at *
      obtain ⟨f0, f1, f2, f3⟩ := HY4.out
      rw [Nat.zero_add] at f1 f2 f3
      clear y0 y1 y2 y3 e0 e1 e2 e3
      have hcase2 : (y.hk == 0) = true ∨ ((y.hk == 0) = false /\ (x.lk == 0) = true) ∨ ((y.hk == 0) = false /\ (x.lk == 0) = false) := by
       cases (y.hk == 0) <;> cases (x.lk == 0) <;> simp
      rcases hcase2 with q1 | ⟨q1, q2⟩ | ⟨q1, q2⟩
      ·have HNO : Hid (V.ordB n l = false) := zvq (zhc hlt (by rw [HOKF.out, HNB.out, decide_eq_true (eq_of_beq q1)]; rfl))
       exact z0g
      ·have HNO : Hid (V.ordB n l = false) := zvq (zhc hlt (by rw [HOKF.out, HNB.out, decide_eq_true (eq_of_beq q2)]; simp))
       exact z0g
      ·have i1 : y.hk ≠ 0 := by simpa using q1
       have i2 : x.lk ≠ 0 := by simpa using q2
       have hlow := HXV.out i2
       have hhigh := V.ju HBY.out i1
       have HNB2 : Hid (V.okAt n l k = decide (V.cutC n y.high x.low < 0)) := zvq (by rw [HOKF.out, HNB.out, decide_eq_false i1, decide_eq_false i2]; simp)
       clear i1 i2
       go_region_held3 (fun W' => zg W' /\ W'.cell? ⟨wr.heap.size, 0, none⟩ = some (.string ⟨x.lo.toArray⟩) /\ W'.cell? ⟨wr.heap.size, 1, none⟩ = some (.int .i64 x.lk) /\ W'.cell? ⟨wr.heap.size, 2, none⟩ = some (.string ⟨x.hi.toArray⟩) /\ W'.cell? ⟨wr.heap.size, 3, none⟩ = some (.int .i64 x.hk) /\
         W'.cell? ⟨W1.heap.size, 0, none⟩ = some (.string ⟨y.lo.toArray⟩) /\ W'.cell? ⟨W1.heap.size, 1, none⟩ = some (.int .i64 y.lk) /\ W'.cell? ⟨W1.heap.size, 2, none⟩ = some (.string ⟨y.hi.toArray⟩) /\ W'.cell? ⟨W1.heap.size, 3, none⟩ = some (.int .i64 y.hk))
        (first
          | (go_split_ands; exact ⟨zg.below (by assumption) hbq, zvw hbq, zvw hbq, zvw hbq, zvw hbq, zvw hbq, zvw hbq, zvw hbq, zvw hbq⟩)
          | (exact ⟨HM2.out, e0', e1', e2', e3', f0, f1, f2, f3⟩)
          | go_keep)
        (first
          | (go_at_call 94; refine (zbg x _).mono ?_; rintro e wq ⟨rfl, hbq⟩)
          | (go_at_call 95; refine (ut y _).mono ?_; rintro e wq ⟨rfl, hbq⟩)
          | (go_at_call 93; refine (xc n y.high x.low _ (by first | assumption | exact And.left (by assumption)) HN.out hhigh hlow).mono ?_; rintro e wq ⟨rfl, hbq⟩))
       rename_i wa hba wb hbb hS
       have HBZ := zvq (HBV.out.trans ((((zvt W2.heap.size W2).drew).trans (Below.trans (show Below W2.heap.size W2.drew wa from hba) ((hbb.trans (hbq.mono hbb.size)).mono hba.size))).mono HBV.out.size))
       clear hba hbb hbq hS f0 f1 f2 f3 e0' e1' e2' e3'
       generalize V.cutC n y.high x.low = z2 at *
       by_cases hzz : 0 ≤ z2
       ·have HNO : Hid (V.ordB n l = false) := zvq (zhc hlt (by rw [HNB2.out]; exact decide_eq_false (by omega)))
        go_wp2
        go_ret
        exact ⟨zc HNO.out.symm, HBZ.out⟩
       ·have HOK : Hid (∀ i, i < k + 1 -> V.okAt n l i = true) := zvq (zel HZ.out (by rw [HNB2.out]; exact decide_eq_true (by omega)))
        exact zza
  ·obtain rfl : k = l.length := by omega
   have HR : Hid (V.ordB n l = true) := zvq ((V.zcg n l).2 HZ.out)
   go_wp2
   go_ret
   exact ⟨zc HR.out.symm, HBX.out⟩
end Go.Proofs.YtiloljoancdcbaaGreatDoor
