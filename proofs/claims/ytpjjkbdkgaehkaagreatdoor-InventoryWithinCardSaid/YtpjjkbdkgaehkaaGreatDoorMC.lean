/-
  Walks: cuts and bounds of range sets (package ranges): low, high, compare, bound, scheme.
  Walks: ordered of package ranges.
  Walks: Valid, Contains of package ranges.
-/
import Derived.Test.YtpjjkbdkgaehkaaGreatDoorCO
import Derived.Test.YtpjjkbdkgaehkaaGreatDoorU9
import Derived.BigRegion
import Derived.Deep.RegionHeld3
namespace Go.Proofs.YtpjjkbdkgaehkaaGreatDoor
open Go.RowKit

/-- a cut, an interval as values -/
def cutV (c : V.Cut) : Value := .agg #[.string ⟨c.1.toArray⟩, .bool c.2]
def itvV (x : V.Itv) : Value := .agg #[.string ⟨x.lo.toArray⟩, .int .i64 x.lk, .string ⟨x.hi.toArray⟩, .int .i64 x.hk]

/-- an interval lies at offset o of block b; v is a slice of the intervals l -/
def ItvAt (w : World) (b o : Nat) (x : V.Itv) : Prop := w.cell? ⟨b, o, none⟩ = some (.string ⟨x.lo.toArray⟩) ∧ w.cell? ⟨b, o + 1, none⟩ = some (.int .i64 x.lk) ∧ w.cell? ⟨b, o + 2, none⟩ = some (.string ⟨x.hi.toArray⟩) ∧ w.cell? ⟨b, o + 3, none⟩ = some (.int .i64 x.hk)
def Itvs (w : World) (v : Value) (l : List V.Itv) : Prop := ∃ a cap, v = .slice a l.length cap ∧ ∀ j (h : j < l.length), ∃ b off, a = some ⟨b, off, none⟩ ∧ b < w.heap.size ∧ ItvAt w b (off + j * 4) l[j]
theorem ItvAt.below {w w' : World} {b o : Nat} {x : V.Itv} (h : ItvAt w b o x) (hlt : b < w.heap.size) (hb : Below w.heap.size w w') : ItvAt w' b o x :=
  ⟨(hb.cell (p := ⟨b, o, none⟩) hlt).trans h.1, (hb.cell (p := ⟨b, o + 1, none⟩) hlt).trans h.2.1, (hb.cell (p := ⟨b, o + 2, none⟩) hlt).trans h.2.2.1, (hb.cell (p := ⟨b, o + 3, none⟩) hlt).trans h.2.2.2⟩
theorem Itvs.nil (w : World) : Itvs w (.slice none 0 0) [] := ⟨none, 0, rfl, fun j h => by simp at h⟩
theorem Itvs.below {w w' : World} {v : Value} {l : List V.Itv} (h : Itvs w v l) (hb : Below w.heap.size w w') : Itvs w' v l := by
  obtain ⟨a, cap, e, hc⟩ := h
  refine ⟨a, cap, e, fun j hj => ?_⟩
  obtain ⟨b, off, ea, hlt, hcell⟩ := hc j hj
  exact ⟨b, off, ea, Nat.lt_of_lt_of_le hlt hb.size, hcell.below hlt hb⟩
theorem Itvs.slice {w : World} {v : Value} {l : List V.Itv} (h : Itvs w v l) : ∃ a cap, v = .slice a l.length cap := by
  obtain ⟨a, c, e, _⟩ := h
  exact ⟨a, c, e⟩
theorem Itvs.at {w : World} {a : Option Addr} {n cap : Nat} {l : List V.Itv} (h : Itvs w (.slice a n cap) l) (j : Nat) (hj : j < l.length) : ∃ b off, a = some ⟨b, off, none⟩ ∧ b < w.heap.size ∧ ItvAt w b (off + j * 4) l[j] := by
  obtain ⟨a', c, e, hc⟩ := h
  obtain ⟨b, off, ea, hb, hcell⟩ := hc j hj
  cases e
  exact ⟨b, off, ea, hb, hcell⟩

theorem rgScheme_any (n : Int) (w : World) : Calls Tryz.prog 99 #[.int .i64 n] w fun e w' => e = .returned (.bool (V.scheme n)) ∧ w' = w := by
  have HS : Hid (V.scheme n = (n == 1 || (n == 3 || n == 2))) := Lib.hid (by unfold V.scheme; cases (n == 1) <;> cases (n == 2) <;> cases (n == 3) <;> rfl)
  by_cases h1 : n = 1
  · subst h1
    go_enter Tryz.func99, Tryz.ntmps99
    go_wp2
    go_ret
    exact ⟨rfl, rfl⟩
  · by_cases h2 : n = 2
    · subst h2
      go_enter Tryz.func99, Tryz.ntmps99
      go_wp2
      go_ret
      exact ⟨rfl, rfl⟩
    · by_cases h3 : n = 3
      · subst h3
        go_enter Tryz.func99, Tryz.ntmps99
        go_wp2
        go_ret
        exact ⟨rfl, rfl⟩
      · have b1 : (n == 1) = false := by simpa using h1
        have b2 : (n == 2) = false := by simpa using h2
        have b3 : (n == 3) = false := by simpa using h3
        have HF : Hid (V.scheme n = false) := Lib.hid (by rw [HS.out, b1, b2, b3]; rfl)
        clear h1 h2 h3
        go_enter Tryz.func99, Tryz.ntmps99
        go_wp2
        go_ret
        exact ⟨ret_bool HF.out.symm, rfl⟩

theorem rgLow_any (x : V.Itv) (w : World) : Calls Tryz.prog 70 #[itvV x] w fun e w' => e = .returned (cutV x.low) ∧ Below w.heap.size w w' := by
  unfold itvV cutV V.Itv.low
  obtain ⟨lo, lk, hi, hk⟩ := x
  have HD : Hid (decide (lk = 2) = (lk == 2)) := Lib.hid (by rw [Bool.eq_iff_iff]; simp)
  simp only
  rw [HD.out]
  generalize (⟨lo.toArray⟩ : ByteArray) = s
  generalize (⟨hi.toArray⟩ : ByteArray) = t
  go_enter Tryz.func70, Tryz.ntmps70
  go_wp2
  exact bodyPost_ret (v := .agg #[.string s, .bool (lk == 2)]) (by simp [results, Tryz.results70, go_sem]) rfl ⟨rfl, ((((Below.refl _ _).alloc (Nat.le_refl _) _).alloc (by simp) _))⟩
theorem rgHigh_any (x : V.Itv) (w : World) : Calls Tryz.prog 71 #[itvV x] w fun e w' => e = .returned (cutV x.high) ∧ Below w.heap.size w w' := by
  unfold itvV cutV V.Itv.high
  obtain ⟨lo, lk, hi, hk⟩ := x
  have HD : Hid (decide (hk = 1) = (hk == 1)) := Lib.hid (by rw [Bool.eq_iff_iff]; simp)
  simp only
  rw [HD.out]
  generalize (⟨lo.toArray⟩ : ByteArray) = s
  generalize (⟨hi.toArray⟩ : ByteArray) = t
  go_enter Tryz.func71, Tryz.ntmps71
  go_wp2
  exact bodyPost_ret (v := .agg #[.string t, .bool (hk == 1)]) (by simp [results, Tryz.results71, go_sem]) rfl ⟨rfl, ((((Below.refl _ _).alloc (Nat.le_refl _) _).alloc (by simp) _))⟩

set_option maxRecDepth 100000 in
theorem rgCompare_any (n : Int) (c d : V.Cut) (w : World) (hm : MaxOk w) (hn : V.scheme n = true) (hc : V.valid n c.1 = true) (hd : V.valid n d.1 = true) :
    Calls Tryz.prog 69 #[.int .i64 n, cutV c, cutV d] w fun e w' => e = .returned (.int .i64 (V.cutC n c d)) ∧ Below w.heap.size w w' := by
  obtain ⟨a, p⟩ := c
  obtain ⟨b, q⟩ := d
  have HF : Hid (V.cutC n (a, p) (b, q) = if V.cmpV n a b ≠ 0 ∨ p = q then V.cmpV n a b else if q then -1 else 1) := rfl
  have HN := Lib.hid hn
  have HC := Lib.hid (show V.valid n a = true from hc)
  have HD := Lib.hid (show V.valid n b = true from hd)
  have hb0 : Below w.heap.size w ((w.alloc (.cells #[.string ⟨a.toArray⟩, .bool p] 105)).alloc (.cells #[.string ⟨b.toArray⟩, .bool q] 105)) := ((Below.refl _ _).alloc (Nat.le_refl _) _).alloc (by simp) _
  have HB0 := Lib.hid hb0
  have HM := Lib.hid (hm.below hb0)
  clear hn hc hd hb0 hm
  unfold cutV
  simp only
  obtain ⟨z, hz⟩ : ∃ z, V.cmpV n a b = z := ⟨_, rfl⟩
  have HZ := Lib.hid hz
  rw [hz] at HF
  have e1 : ((w.alloc (.cells #[.string ⟨a.toArray⟩, .bool p] 105)).alloc (.cells #[.string ⟨b.toArray⟩, .bool q] 105)).cell? ⟨w.heap.size, 1, none⟩ = some (.bool p) := by simp [cell_alloc]
  have e2 : ((w.alloc (.cells #[.string ⟨a.toArray⟩, .bool p] 105)).alloc (.cells #[.string ⟨b.toArray⟩, .bool q] 105)).cell? ⟨w.heap.size + 1, 1, none⟩ = some (.bool q) := by simp [cell_alloc]
  have HE := Lib.hid (And.intro e1 e2)
  clear hz e1 e2
  go_enter Tryz.func69, Tryz.ntmps69
  go_wp2_with fail
  refine (compare_ok n a b z _ HM.out HN.out HC.out HD.out HZ.out).mono ?_
  rintro e w1 ⟨rfl, hb1⟩
  have c1 := (hb1.cell (p := ⟨w.heap.size, 1, none⟩) (by simp; omega)).trans HE.out.1
  have c2 := (hb1.cell (p := ⟨w.heap.size + 1, 1, none⟩) (by simp)).trans HE.out.2
  have HB1 := Lib.hid (HB0.out.trans (hb1.mono HB0.out.size))
  clear hb1
  by_cases h0 : z = 0
  · subst h0
    cases p <;> cases q
    all_goals
      go_wp2
      go_ret
      exact ⟨ret_int (by rw [HF.out]; rfl), HB1.out⟩
  · have hz1 : (z != 0) = true := by simpa using h0
    have hz2 : (z == 0) = false := by simpa using h0
    have HF2 : Hid (V.cutC n (a, p) (b, q) = z) := Lib.hid (by rw [HF.out, if_pos (.inl h0)])
    clear h0 HF
    go_wp2
    go_ret
    exact ⟨ret_int HF2.out.symm, HB1.out⟩

theorem rgBound_any (n : Int) (v : V.Bs) (k : Int) (w : World) (hm : MaxOk w) (hv : v.length ≤ maxLen) :
    Calls Tryz.prog 100 #[.int .i64 n, .string ⟨v.toArray⟩, .int .i64 k] w fun e w' => e = .returned (.bool (V.boundB n v k)) ∧ Below w.heap.size w w' := by
  have HF : Hid (V.boundB n v k = if k = 0 then v.isEmpty else (decide (k = 1) || decide (k = 2)) && V.valid n v) := rfl
  by_cases h0 : k = 0
  · subst h0
    rw [if_pos rfl] at HF
    by_cases hv0 : v = []
    · subst hv0
      go_enter Tryz.func100, Tryz.ntmps100
      go_wp2
      go_ret
      exact ⟨rfl, Below.refl _ _⟩
    · have HFE : Hid (V.boundB n v 0 = false) := Lib.hid (by rw [HF.out]; simpa using hv0)
      have hne : ¬ v = [] := hv0
      clear hv0 HF
      go_enter Tryz.func100, Tryz.ntmps100
      go_wp2
      go_ret
      exact ⟨ret_bool (by rw [HFE.out]; simpa using hne), Below.refl _ _⟩
  · rw [if_neg h0] at HF
    have b0 : (k == 0) = false := by simpa using h0
    by_cases h12 : k = 1 ∨ k = 2
    · have HF2 : Hid (V.boundB n v k = V.valid n v) := Lib.hid (by rw [HF.out]; rcases h12 with h | h <;> simp [h])
      have HM := Lib.hid hm
      clear HF hm
      rcases h12 with rfl | rfl
      all_goals
        go_enter Tryz.func100, Tryz.ntmps100
        go_wp2_with fail
        refine (valid_any n ⟨v.toArray⟩ _ HM.out hv).mono ?_
        rintro e w1 ⟨rfl, hb1⟩
        rw [bs_mk]
        have HB1 := Lib.hid hb1
        clear hb1
        go_wp2
        go_ret
        exact ⟨ret_bool HF2.out.symm, HB1.out⟩
    · have b1 : (k == 1) = false := by simpa using fun h => h12 (.inl h)
      have b2 : (k == 2) = false := by simpa using fun h => h12 (.inr h)
      have HF2 : Hid (V.boundB n v k = false) := Lib.hid (by rw [HF.out, decide_eq_false (fun h => h12 (.inl h)), decide_eq_false (fun h => h12 (.inr h))]; rfl)
      clear HF h12 h0
      go_enter Tryz.func100, Tryz.ntmps100
      go_wp2
      go_ret
      exact ⟨ret_bool HF2.out.symm, Below.refl _ _⟩
end Go.Proofs.YtpjjkbdkgaehkaaGreatDoor
namespace Go.Proofs.YtpjjkbdkgaehkaaGreatDoor
open Go.RowKit

theorem below_keep {W W' : World} {b o : Nat} {v : Value} (hb : Below W.heap.size W W') (h : W.cell? ⟨b, o, none⟩ = some v) : W'.cell? ⟨b, o, none⟩ = some v :=
  (hb.cell (p := ⟨b, o, none⟩) (World.block_lt_of_cell? _ _ h)).trans h
theorem okTo_step {n : Int} {l : List V.Itv} {k : Nat} (h : ∀ i, i < k → V.okAt n l i = true) (hk : V.okAt n l k = true) : ∀ i, i < k + 1 → V.okAt n l i = true := fun i hi => by
  by_cases e : i = k
  · subst e; exact hk
  · exact h i (by omega)
theorem ord_no {n : Int} {l : List V.Itv} {k : Nat} (hk : k < l.length) (h : V.okAt n l k = false) : V.ordB n l = false := by
  rcases hb : V.ordB n l with _ | _
  · rfl
  · rw [(V.ordB_iff n l).1 hb k hk] at h; cases h
theorem getI_of {l : List V.Itv} {k : Nat} (h : k < l.length) : l.getD k V.noI = l[k] := by rw [List.getD_eq_getElem?_getD, List.getElem?_eq_getElem h]; rfl

set_option maxRecDepth 100000 in
set_option maxHeartbeats 1600000 in
theorem rgOrdered_any (n : Int) (v : Value) (l : List V.Itv) (w : World) (hm : MaxOk w) (hn : V.scheme n = true) (hv : Itvs w v l) (hb : ∀ x ∈ l, V.boundsB n x = true) (hl : l.length ≤ 1000) :
    Calls Tryz.prog 101 #[.int .i64 n, v] w fun e w' => e = .returned (.bool (V.ordB n l)) ∧ Below w.heap.size w w' := by
  have HV := Lib.hid hv
  obtain ⟨va, vc, rfl⟩ := hv.slice
  have HN := Lib.hid hn
  have HM := Lib.hid hm
  have HB := Lib.hid hb
  clear hn hm hb hv
  go_enter Tryz.func101, Tryz.ntmps101
  go_wp2
  go_loopw [10] (fun iv wx => ∃ k : Nat, k ≤ l.length ∧ iv = .int .i64 k ∧ (∀ i, i < k → V.okAt n l i = true) ∧ Below w.heap.size w wx) (fun iv _ => l.length - (intOf iv).toNat)
  case atStart => exact ⟨0, Nat.zero_le _, rfl, fun i hi => by omega, Below.refl _ _⟩
  case round =>
    obtain ⟨k, hk, rfl, hz, hbx⟩ := hrel
    have HZ := Lib.hid hz
    have HBX := Lib.hid hbx
    clear hz hbx
    by_cases hlt : k < l.length
    · obtain ⟨b, off, rfl, hb0, hx⟩ := HV.out.at k hlt
      have hx' := hx.below hb0 HBX.out
      obtain ⟨h0, h1, h2, h3⟩ := hx'
      have hi1 : (0 : Int) ≤ (k : Int) := by omega
      have hi2 : (k : Int) < (l.length : Int) := by omega
      have hbx : V.boundsB n l[k] = true := HB.out _ (List.getElem_mem hlt)
      have HBK := Lib.hid hbx
      have HG := Lib.hid (getI_of hlt)
      clear hx hbx
      have hz1 : wr.heap.size < (wr.alloc (.cells #[.string ⟨l[k].lo.toArray⟩, .int .i64 l[k].lk, .string ⟨l[k].hi.toArray⟩, .int .i64 l[k].hk] 80)).heap.size := by simp
      have hbW : Below w.heap.size w (wr.alloc (.cells #[.string ⟨l[k].lo.toArray⟩, .int .i64 l[k].lk, .string ⟨l[k].hi.toArray⟩, .int .i64 l[k].hk] 80)) := HBX.out.alloc HBX.out.size _
      have hx4 : ItvAt (wr.alloc (.cells #[.string ⟨l[k].lo.toArray⟩, .int .i64 l[k].lk, .string ⟨l[k].hi.toArray⟩, .int .i64 l[k].hk] 80)) wr.heap.size 0 l[k] := by
        refine ⟨?_, ?_, ?_, ?_⟩ <;> simp [cell_alloc]
      have HX4 := Lib.hid hx4
      have HBW := Lib.hid hbW
      clear hx4 hbW
      go_wp2_with fail
      generalize wr.alloc (.cells #[.string ⟨l[k].lo.toArray⟩, .int .i64 l[k].lk, .string ⟨l[k].hi.toArray⟩, .int .i64 l[k].hk] 80) = W0 at *
      obtain ⟨d0, d1, d2, d3⟩ := HX4.out
      rw [Nat.zero_add] at d1 d2 d3
      have HXV := Lib.hid (fun (h1 : l[k].lk ≠ 0) => V.low_valid HBK.out h1)
      have HXW := Lib.hid (fun (h1 : l[k].hk ≠ 0) => V.high_valid HBK.out h1)
      have HM0 : Hid (MaxOk W0) := Lib.hid (HM.out.below HBW.out)
      have HIF : Hid (V.insideB n l[k] = (decide (l[k].lk = 0) || (decide (l[k].hk = 0) || decide (V.cutC n l[k].low l[k].high < 0)))) := Lib.hid rfl
      generalize l[k] = x at *
      clear h0 h1 h2 h3
      rcases hin : V.insideB n x with _ | _
      · have HIN := Lib.hid hin
        rw [HIF.out] at hin
        simp only [Bool.or_eq_false_iff, decide_eq_false_iff_not] at hin
        obtain ⟨i1, i2, i3⟩ := hin
        have hlow := HXV.out i1
        have hhigh := HXW.out i2
        have g1 : (x.lk != 0) = true := by simpa using i1
        have g2 : (x.hk != 0) = true := by simpa using i2
        have i4 : 0 ≤ V.cutC n x.low x.high := by omega
        have HNO : Hid (V.ordB n l = false) := Lib.hid (ord_no hlt (by unfold V.okAt; rw [HG.out, HIN.out]; rfl))
        clear i1 i2 i3
        go_region_held3 (fun W' => MaxOk W' ∧ W'.cell? ⟨wr.heap.size, 0, none⟩ = some (.string ⟨x.lo.toArray⟩) ∧ W'.cell? ⟨wr.heap.size, 1, none⟩ = some (.int .i64 x.lk) ∧ W'.cell? ⟨wr.heap.size, 2, none⟩ = some (.string ⟨x.hi.toArray⟩) ∧ W'.cell? ⟨wr.heap.size, 3, none⟩ = some (.int .i64 x.hk))
          (first
            | (go_split_ands; exact ⟨MaxOk.below (by assumption) hbq, below_keep hbq (by assumption), below_keep hbq (by assumption), below_keep hbq (by assumption), below_keep hbq (by assumption)⟩)
            | (exact ⟨HM0.out, d0, d1, d2, d3⟩)
            | go_keep)
          (first
            | (go_at_call 70; refine (rgLow_any x _).mono ?_; rintro e wq ⟨rfl, hbq⟩)
            | (go_at_call 71; refine (rgHigh_any x _).mono ?_; rintro e wq ⟨rfl, hbq⟩)
            | (go_at_call 69; refine (rgCompare_any n x.low x.high _ (by first | assumption | exact And.left (by assumption)) HN.out hlow hhigh).mono ?_; rintro e wq ⟨rfl, hbq⟩))
        rename_i wa hba wb hbb hS
        have HBZ := Lib.hid (HBW.out.trans ((((Below.refl W0.heap.size W0).drew).trans (Below.trans (show Below W0.heap.size W0.drew wa from hba) ((hbb.trans (hbq.mono hbb.size)).mono hba.size))).mono HBW.out.size))
        clear hba hbb hbq hS
        generalize V.cutC n x.low x.high = z at *
        go_wp2
        go_ret
        exact ⟨ret_bool HNO.out.symm, HBZ.out⟩
      · have HIN := Lib.hid hin
        have hcase : (x.lk != 0) = false ∨ ((x.lk != 0) = true ∧ (x.hk != 0) = false) ∨ ((x.lk != 0) = true ∧ (x.hk != 0) = true) := by
          cases (x.lk != 0) <;> cases (x.hk != 0) <;> simp
        rcases hcase with g1 | ⟨g1, g2⟩ | ⟨g1, g2⟩
        focus
          clear hin
          go_quiet (fail)
          have HB1 := Lib.hid (below_drewN (Below.refl W0.heap.size W0) nq)
          generalize W0.drewN nq = W1 at *
        rotate_left
        focus
          clear hin
          go_quiet (fail)
          have HB1 := Lib.hid (below_drewN (Below.refl W0.heap.size W0) nq)
          generalize W0.drewN nq = W1 at *
        rotate_left
        focus
          have i1 : x.lk ≠ 0 := by simpa using g1
          have i2 : x.hk ≠ 0 := by simpa using g2
          have hlow := HXV.out i1
          have hhigh := HXW.out i2
          have i4 : ¬ (0 ≤ V.cutC n x.low x.high) := by
            rw [HIF.out] at hin
            simp only [Bool.or_eq_true, decide_eq_true_eq] at hin
            omega
          clear i1 i2 hin
          go_region_held3 (fun W' => MaxOk W' ∧ W'.cell? ⟨wr.heap.size, 0, none⟩ = some (.string ⟨x.lo.toArray⟩) ∧ W'.cell? ⟨wr.heap.size, 1, none⟩ = some (.int .i64 x.lk) ∧ W'.cell? ⟨wr.heap.size, 2, none⟩ = some (.string ⟨x.hi.toArray⟩) ∧ W'.cell? ⟨wr.heap.size, 3, none⟩ = some (.int .i64 x.hk))
            (first
              | (go_split_ands; exact ⟨MaxOk.below (by assumption) hbq, below_keep hbq (by assumption), below_keep hbq (by assumption), below_keep hbq (by assumption), below_keep hbq (by assumption)⟩)
              | (exact ⟨HM0.out, d0, d1, d2, d3⟩)
              | go_keep)
            (first
              | (go_at_call 70; refine (rgLow_any x _).mono ?_; rintro e wq ⟨rfl, hbq⟩)
              | (go_at_call 71; refine (rgHigh_any x _).mono ?_; rintro e wq ⟨rfl, hbq⟩)
              | (go_at_call 69; refine (rgCompare_any n x.low x.high _ (by first | assumption | exact And.left (by assumption)) HN.out hlow hhigh).mono ?_; rintro e wq ⟨rfl, hbq⟩))
          rename_i wa hba wb hbb hS
          have HB1 := Lib.hid ((((Below.refl W0.heap.size W0).drew).trans (Below.trans (show Below W0.heap.size W0.drew wa from hba) ((hbb.trans (hbq.mono hbb.size)).mono hba.size))))
          clear hba hbb hbq hS
          generalize V.cutC n x.low x.high = z at *
          generalize wq = W1 at *
        rotate_left
        all_goals
          have HBW1 := Lib.hid (HBW.out.trans (HB1.out.mono HBW.out.size))
          have e0 := below_keep HB1.out d0
          have e1 := below_keep HB1.out d1
          have e2 := below_keep HB1.out d2
          have e3 := below_keep HB1.out d3
          have hz2 : wr.heap.size < W1.heap.size := Nat.lt_of_lt_of_le hz1 HB1.out.size
          have HM1 := Lib.hid (HM0.out.below HB1.out)
          clear d0 d1 d2 d3 HB1 HM0 hz1
          by_cases hk0 : k = 0
          · have hkb : ((k : Int) == 0) = true := by rw [hk0]; rfl
            have HOK : Hid (∀ i, i < k + 1 → V.okAt n l i = true) := Lib.hid (okTo_step HZ.out (by unfold V.okAt; rw [HG.out, HIN.out, hk0]; rfl))
            clear hk0 e0 e1 e2 e3
            go_wp2
            go_roundw
            case rel => exact ⟨k + 1, by omega, by go_num, HOK.out, HBW1.out⟩
            case measure => simp [intOf]; omega
          · have hkb : ((k : Int) == 0) = false := by rw [beq_eq_false_iff_ne]; omega
            have hi3 : (1 : Int) ≤ (k : Int) := by omega
            have hi4 : (k : Int) - 1 < (l.length : Int) := by omega
            have hk1 : k - 1 < l.length := by omega
            obtain ⟨b', off', eb, hb1, hy⟩ := HV.out.at (k - 1) hk1
            cases eb
            obtain ⟨y0, y1, y2, y3⟩ := hy.below hb1 HBW1.out
            have HBY : Hid (V.boundsB n l[k - 1] = true) := Lib.hid (HB.out _ (List.getElem_mem hk1))
            have HGY := Lib.hid (getI_of hk1)
            generalize l[k - 1] = y at *
            have HNB : Hid (V.nextB n y x = (!decide (y.hk = 0) && (!decide (x.lk = 0) && decide (V.cutC n y.high x.low < 0)))) := Lib.hid rfl
            have HOKF : Hid (V.okAt n l k = V.nextB n y x) := Lib.hid (by unfold V.okAt; rw [HG.out, HGY.out, HIN.out, decide_eq_false hk0]; rfl)
            have hbV : Below w.heap.size w (W1.alloc (.cells #[.string ⟨y.lo.toArray⟩, .int .i64 y.lk, .string ⟨y.hi.toArray⟩, .int .i64 y.hk] 80)) := HBW1.out.alloc HBW1.out.size _
            have HBV := Lib.hid hbV
            have hbA : Below W1.heap.size W1 (W1.alloc (.cells #[.string ⟨y.lo.toArray⟩, .int .i64 y.lk, .string ⟨y.hi.toArray⟩, .int .i64 y.hk] 80)) := (Below.refl _ W1).alloc (Nat.le_refl _) _
            have e0' := below_keep hbA e0
            have e1' := below_keep hbA e1
            have e2' := below_keep hbA e2
            have e3' := below_keep hbA e3
            have hy4 : ItvAt (W1.alloc (.cells #[.string ⟨y.lo.toArray⟩, .int .i64 y.lk, .string ⟨y.hi.toArray⟩, .int .i64 y.hk] 80)) W1.heap.size 0 y := by
              refine ⟨?_, ?_, ?_, ?_⟩ <;> simp [cell_alloc]
            have HY4 := Lib.hid hy4
            have HM2 := Lib.hid (HM1.out.below hbA)
            clear hy hy4 hbV hbA hk0 hb1
            go_wp2_with fail
            generalize W1.alloc (.cells #[.string ⟨y.lo.toArray⟩, .int .i64 y.lk, .string ⟨y.hi.toArray⟩, .int .i64 y.hk] 80) = W2 at *
            obtain ⟨f0, f1, f2, f3⟩ := HY4.out
            rw [Nat.zero_add] at f1 f2 f3
            clear y0 y1 y2 y3 e0 e1 e2 e3
            have hcase2 : (y.hk == 0) = true ∨ ((y.hk == 0) = false ∧ (x.lk == 0) = true) ∨ ((y.hk == 0) = false ∧ (x.lk == 0) = false) := by
              cases (y.hk == 0) <;> cases (x.lk == 0) <;> simp
            rcases hcase2 with q1 | ⟨q1, q2⟩ | ⟨q1, q2⟩
            · have HNO : Hid (V.ordB n l = false) := Lib.hid (ord_no hlt (by rw [HOKF.out, HNB.out, decide_eq_true (eq_of_beq q1)]; rfl))
              go_quiet (fail)
              have HBZ := Lib.hid (below_drewN HBV.out nq)
              generalize W2.drewN nq = W3 at *
              go_wp2
              go_ret
              exact ⟨ret_bool HNO.out.symm, HBZ.out⟩
            · have HNO : Hid (V.ordB n l = false) := Lib.hid (ord_no hlt (by rw [HOKF.out, HNB.out, decide_eq_true (eq_of_beq q2)]; simp))
              go_quiet (fail)
              have HBZ := Lib.hid (below_drewN HBV.out nq)
              generalize W2.drewN nq = W3 at *
              go_wp2
              go_ret
              exact ⟨ret_bool HNO.out.symm, HBZ.out⟩
            · have i1 : y.hk ≠ 0 := by simpa using q1
              have i2 : x.lk ≠ 0 := by simpa using q2
              have hlow := HXV.out i2
              have hhigh := V.high_valid HBY.out i1
              have HNB2 : Hid (V.okAt n l k = decide (V.cutC n y.high x.low < 0)) := Lib.hid (by rw [HOKF.out, HNB.out, decide_eq_false i1, decide_eq_false i2]; simp)
              clear i1 i2
              go_region_held3 (fun W' => MaxOk W' ∧ W'.cell? ⟨wr.heap.size, 0, none⟩ = some (.string ⟨x.lo.toArray⟩) ∧ W'.cell? ⟨wr.heap.size, 1, none⟩ = some (.int .i64 x.lk) ∧ W'.cell? ⟨wr.heap.size, 2, none⟩ = some (.string ⟨x.hi.toArray⟩) ∧ W'.cell? ⟨wr.heap.size, 3, none⟩ = some (.int .i64 x.hk) ∧
                W'.cell? ⟨W1.heap.size, 0, none⟩ = some (.string ⟨y.lo.toArray⟩) ∧ W'.cell? ⟨W1.heap.size, 1, none⟩ = some (.int .i64 y.lk) ∧ W'.cell? ⟨W1.heap.size, 2, none⟩ = some (.string ⟨y.hi.toArray⟩) ∧ W'.cell? ⟨W1.heap.size, 3, none⟩ = some (.int .i64 y.hk))
                (first
                  | (go_split_ands; exact ⟨MaxOk.below (by assumption) hbq, below_keep hbq (by assumption), below_keep hbq (by assumption), below_keep hbq (by assumption), below_keep hbq (by assumption), below_keep hbq (by assumption), below_keep hbq (by assumption), below_keep hbq (by assumption), below_keep hbq (by assumption)⟩)
                  | (exact ⟨HM2.out, e0', e1', e2', e3', f0, f1, f2, f3⟩)
                  | go_keep)
                (first
                  | (go_at_call 70; refine (rgLow_any x _).mono ?_; rintro e wq ⟨rfl, hbq⟩)
                  | (go_at_call 71; refine (rgHigh_any y _).mono ?_; rintro e wq ⟨rfl, hbq⟩)
                  | (go_at_call 69; refine (rgCompare_any n y.high x.low _ (by first | assumption | exact And.left (by assumption)) HN.out hhigh hlow).mono ?_; rintro e wq ⟨rfl, hbq⟩))
              rename_i wa hba wb hbb hS
              have HBZ := Lib.hid (HBV.out.trans ((((Below.refl W2.heap.size W2).drew).trans (Below.trans (show Below W2.heap.size W2.drew wa from hba) ((hbb.trans (hbq.mono hbb.size)).mono hba.size))).mono HBV.out.size))
              clear hba hbb hbq hS f0 f1 f2 f3 e0' e1' e2' e3'
              generalize V.cutC n y.high x.low = z2 at *
              by_cases hzz : 0 ≤ z2
              · have HNO : Hid (V.ordB n l = false) := Lib.hid (ord_no hlt (by rw [HNB2.out]; exact decide_eq_false (by omega)))
                go_wp2
                go_ret
                exact ⟨ret_bool HNO.out.symm, HBZ.out⟩
              · have HOK : Hid (∀ i, i < k + 1 → V.okAt n l i = true) := Lib.hid (okTo_step HZ.out (by rw [HNB2.out]; exact decide_eq_true (by omega)))
                go_wp2
                go_roundw
                case rel => exact ⟨k + 1, by omega, by go_num, HOK.out, HBZ.out⟩
                case measure => simp [intOf]; omega
    · obtain rfl : k = l.length := by omega
      have HR : Hid (V.ordB n l = true) := Lib.hid ((V.ordB_iff n l).2 HZ.out)
      go_wp2
      go_ret
      exact ⟨ret_bool HR.out.symm, HBX.out⟩
end Go.Proofs.YtpjjkbdkgaehkaaGreatDoor
namespace Go.Proofs.YtpjjkbdkgaehkaaGreatDoor
open Go.RowKit

/-- a range set as a value -/
def setV (n : Int) (v : Value) : Value := .agg #[.int .i64 n, v]
/-- strings of intervals that can be -/
def Lens (l : List V.Itv) : Prop := ∀ x ∈ l, x.lo.length ≤ maxLen ∧ x.hi.length ≤ maxLen
theorem bnd_step {n : Int} {l : List V.Itv} {k : Nat} (h : (l.take k).all (V.boundsB n) = true) (hk : k < l.length) (hb : V.boundsB n l[k] = true) : (l.take (k + 1)).all (V.boundsB n) = true := by
  rw [List.take_succ_eq_append_getElem hk, List.all_append, h]
  simpa using hb
theorem bnd_no {n : Int} {l : List V.Itv} {k : Nat} (hk : k < l.length) (hb : V.boundsB n l[k] = false) : l.all (V.boundsB n) = false := by
  rw [List.all_eq_false]
  exact ⟨l[k], List.getElem_mem hk, by rw [hb]; decide⟩

set_option maxRecDepth 100000 in
set_option maxHeartbeats 1600000 in
theorem rgValid_any (n : Int) (v : Value) (l : List V.Itv) (w : World) (hm : MaxOk w) (hv : Itvs w v l) (hs : Lens l) (hl : l.length ≤ maxLen) :
    Calls Tryz.prog 68 #[setV n v] w fun e w' => e = .returned (.bool (V.okR n l)) ∧ Below w.heap.size w w' := by
  have HV := Lib.hid hv
  obtain ⟨va, vc, rfl⟩ := hv.slice
  unfold maxLen at hl
  have HS := Lib.hid hs
  have HF : Hid (V.okR n l = (V.scheme n && (decide (l.length ≤ 32) && (l.all (V.boundsB n) && V.ordB n l)))) := Lib.hid rfl
  have hb0 : Below w.heap.size w (w.alloc (.cells #[.int .i64 n, .slice va l.length vc] 39)) := (Below.refl _ w).alloc (Nat.le_refl _) _
  have HB0 := Lib.hid hb0
  have HM := Lib.hid (hm.below hb0)
  have c0 : (w.alloc (.cells #[.int .i64 n, .slice va l.length vc] 39)).cell? ⟨w.heap.size, 0, none⟩ = some (.int .i64 n) := by simp [cell_alloc]
  have c1 : (w.alloc (.cells #[.int .i64 n, .slice va l.length vc] 39)).cell? ⟨w.heap.size, 1, none⟩ = some (.slice va l.length vc) := by simp [cell_alloc]
  clear hv hs hb0 hm
  unfold setV
  rcases hsch : V.scheme n with _ | _
  · have HR : Hid (V.okR n l = false) := Lib.hid (by rw [HF.out, hsch]; rfl)
    have HSC := Lib.hid hsch
    clear hsch
    go_enter Tryz.func68, Tryz.ntmps68
    go_wp2_with fail
    generalize w.alloc (.cells #[.int .i64 n, .slice va l.length vc] 39) = w0 at *
    refine (rgScheme_any n w0).mono ?_
    rintro e w' ⟨rfl, rfl⟩
    rw [HSC.out]
    go_wp2
    go_ret
    exact ⟨ret_bool HR.out.symm, HB0.out⟩
  · have HSC := Lib.hid hsch
    clear hsch
    by_cases h32 : 32 < l.length
    · have HR : Hid (V.okR n l = false) := Lib.hid (by rw [HF.out, decide_eq_false (show ¬ l.length ≤ 32 by omega), Bool.false_and, Bool.and_false])
      go_enter Tryz.func68, Tryz.ntmps68
      go_wp2_with fail
      generalize w.alloc (.cells #[.int .i64 n, .slice va l.length vc] 39) = w0 at *
      refine (rgScheme_any n w0).mono ?_
      rintro e w' ⟨rfl, rfl⟩
      rw [HSC.out]
      go_wp2
      go_ret
      exact ⟨ret_bool HR.out.symm, HB0.out⟩
    · have h32' : l.length ≤ 32 := by omega
      have HF2 : Hid (V.okR n l = (l.all (V.boundsB n) && V.ordB n l)) := Lib.hid (by rw [HF.out, HSC.out, decide_eq_true h32']; rfl)
      have hz0 : w.heap.size < (w.alloc (.cells #[.int .i64 n, .slice va l.length vc] 39)).heap.size := by simp
      go_enter Tryz.func68, Tryz.ntmps68
      go_wp2_with fail
      generalize w.alloc (.cells #[.int .i64 n, .slice va l.length vc] 39) = w0 at *
      refine (rgScheme_any n w0).mono ?_
      rintro e w' ⟨rfl, rfl⟩
      rw [HSC.out]
      go_wp2
      go_loopw [18] (fun iv wx => ∃ k : Nat, k ≤ l.length ∧ iv = .int .i64 k ∧ (l.take k).all (V.boundsB n) = true ∧ Below w'.heap.size w' wx) (fun iv _ => l.length - (intOf iv).toNat)
      case atStart => exact ⟨0, Nat.zero_le _, rfl, rfl, Below.refl _ _⟩
      case round =>
        obtain ⟨k, hk, rfl, hz, hbx⟩ := hrel
        have HZ := Lib.hid hz
        have HBX := Lib.hid hbx
        have HBF := Lib.hid (HB0.out.trans (hbx.mono HB0.out.size))
        have d0 := (hbx.cell (p := ⟨w.heap.size, 0, none⟩) hz0).trans c0
        have d1 := (hbx.cell (p := ⟨w.heap.size, 1, none⟩) hz0).trans c1
        clear hz hbx
        by_cases hlt : k < l.length
        · obtain ⟨b, off, rfl, hb0, hx⟩ := HV.out.at k hlt
          obtain ⟨h0, h1, h2, h3⟩ := hx.below hb0 HBF.out
          have hi1 : (0 : Int) ≤ (k : Int) := by omega
          have hi2 : (k : Int) < (l.length : Int) := by omega
          have hlens := HS.out _ (List.getElem_mem hlt)
          have HBD : Hid (V.boundsB n l[k] = (V.boundB n l[k].lo l[k].lk && V.boundB n l[k].hi l[k].hk)) := Lib.hid rfl
          have HYES := Lib.hid (fun hb => bnd_step (n := n) HZ.out hlt hb)
          have HNO := Lib.hid (fun hb => bnd_no (n := n) hlt hb)
          clear hx
          generalize l[k] = x at *
          have hbA : Below wr.heap.size wr (wr.alloc (.cells #[.string ⟨x.lo.toArray⟩, .int .i64 x.lk, .string ⟨x.hi.toArray⟩, .int .i64 x.hk] 80)) := (Below.refl _ wr).alloc (Nat.le_refl _) _
          have HM1 := Lib.hid ((HM.out.below HBX.out).below hbA)
          have HBA := Lib.hid (HBX.out.trans (hbA.mono HBX.out.size))
          have e0 := below_keep hbA d0
          have hx4 : ItvAt (wr.alloc (.cells #[.string ⟨x.lo.toArray⟩, .int .i64 x.lk, .string ⟨x.hi.toArray⟩, .int .i64 x.hk] 80)) wr.heap.size 0 x := by
            refine ⟨?_, ?_, ?_, ?_⟩ <;> simp [cell_alloc]
          have HX4 := Lib.hid hx4
          clear hbA hx4
          go_wp2_with fail
          generalize wr.alloc (.cells #[.string ⟨x.lo.toArray⟩, .int .i64 x.lk, .string ⟨x.hi.toArray⟩, .int .i64 x.hk] 80) = W1 at *
          obtain ⟨f0, f1, f2, f3⟩ := HX4.out
          rw [Nat.zero_add] at f1 f2 f3
          clear h0 h1 h2 h3 d0 d1
          refine (rgBound_any n x.lo x.lk W1 HM1.out hlens.1).mono ?_
          rintro e W2 ⟨rfl, hb2⟩
          have k0 := below_keep hb2 e0
          have k2 := below_keep hb2 f2
          have k3 := below_keep hb2 f3
          have HB2 := Lib.hid (HBA.out.trans (hb2.mono HBA.out.size))
          have HM2 := Lib.hid (HM1.out.below hb2)
          clear hb2 e0 f0 f1 f2 f3
          rcases hlo : V.boundB n x.lo x.lk with _ | _
          · have HR : Hid (V.okR n l = false) := Lib.hid (by rw [HF2.out, HNO.out (by rw [HBD.out, hlo]; rfl)]; rfl)
            clear hlo
            go_wp2
            go_ret
            exact ⟨ret_bool HR.out.symm, HB0.out.trans (HB2.out.mono HB0.out.size)⟩
          · have HLO := Lib.hid hlo
            clear hlo
            go_wp2_with fail
            refine (rgBound_any n x.hi x.hk W2 HM2.out hlens.2).mono ?_
            rintro e W3 ⟨rfl, hb3⟩
            have HB3 := Lib.hid (HB2.out.trans (hb3.mono HB2.out.size))
            clear hb3 k0 k2 k3
            rcases hhi : V.boundB n x.hi x.hk with _ | _
            · have HR : Hid (V.okR n l = false) := Lib.hid (by rw [HF2.out, HNO.out (by rw [HBD.out, HLO.out, hhi]; rfl)]; rfl)
              clear hhi
              go_wp2
              go_ret
              exact ⟨ret_bool HR.out.symm, HB0.out.trans (HB3.out.mono HB0.out.size)⟩
            · have HY : Hid ((l.take (k + 1)).all (V.boundsB n) = true) := Lib.hid (HYES.out (by rw [HBD.out, HLO.out, hhi]; rfl))
              clear hhi
              go_wp2
              go_roundw
              case rel => exact ⟨k + 1, by omega, by go_num, HY.out, HB3.out⟩
              case measure => simp [intOf]; omega
        · obtain rfl : k = l.length := by omega
          have HALL : Hid (l.all (V.boundsB n) = true) := Lib.hid (by have := HZ.out; rwa [List.take_length] at this)
          go_wp2_with fail
          refine (rgOrdered_any n _ l wr (HM.out.below HBX.out) HSC.out (HV.out.below HBF.out) (fun x hx => List.all_eq_true.1 HALL.out x hx) (by omega)).mono ?_
          rintro e W3 ⟨rfl, hb3⟩
          have HB3 := Lib.hid (HBF.out.trans (hb3.mono HBF.out.size))
          have HR : Hid (V.okR n l = V.ordB n l) := Lib.hid (by rw [HF2.out, HALL.out]; rfl)
          clear hb3
          go_wp2
          go_ret
          exact ⟨ret_bool HR.out.symm, HB3.out⟩
end Go.Proofs.YtpjjkbdkgaehkaaGreatDoor
