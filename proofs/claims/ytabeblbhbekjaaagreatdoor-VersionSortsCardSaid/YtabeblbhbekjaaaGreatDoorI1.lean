/-
  Walk: the library's insertion sort over versions of a scheme.
-/
import Derived.Test.YtabeblbhbekjaaaGreatDoorTN
import Derived.Test.YtabeblbhbekjaaaGreatDoorT2
import Derived.Test.YtabeblbhbekjaaaGreatDoorP5
import Derived.Test.YtabeblbhbekjaaaGreatDoorE3
import Derived.StillTailTactics
import Derived.BigRegion
import Derived.IntWalk
namespace Go.Proofs.YtabeblbhbekjaaaGreatDoor
open Go.RowKit

/-! plain: a row that is sorted by exchanges -/

def swp (xs : Nat → V.Bs) (j : Nat) : Nat → V.Bs := fun i => if i = j then xs (j - 1) else if i = j - 1 then xs j else xs i

/-- the same strings in another order -/
structure Alike (L xs : Nat → V.Bs) (m : Nat) : Prop where
  old : ∀ j, j < m → ∃ k, k < m ∧ xs j = L k
  all : ∀ k, k < m → ∃ j, j < m ∧ xs j = L k

theorem Alike.refl (L : Nat → V.Bs) (m : Nat) : Alike L L m := ⟨fun j h => ⟨j, h, rfl⟩, fun j h => ⟨j, h, rfl⟩⟩

theorem Alike.xchg {L xs : Nat → V.Bs} {m j : Nat} (h : Alike L xs m) (hj : j < m) (h0 : 0 < j) : Alike L (swp xs j) m := by
  have e1 : swp xs j j = xs (j - 1) := by unfold swp; rw [if_pos rfl]
  have e2 : swp xs j (j - 1) = xs j := by unfold swp; rw [if_neg (by omega), if_pos rfl]
  have e3 : ∀ i, i ≠ j → i ≠ j - 1 → swp xs j i = xs i := fun i g1 g2 => by unfold swp; rw [if_neg g1, if_neg g2]
  refine ⟨fun i hi => ?_, fun k hk => ?_⟩
  · by_cases g1 : i = j
    · subst g1; rw [e1]; exact h.old _ (by omega)
    · by_cases g2 : i = j - 1
      · subst g2; rw [e2]; exact h.old _ hj
      · rw [e3 i g1 g2]; exact h.old _ hi
  · obtain ⟨i, hi, e⟩ := h.all k hk
    by_cases g1 : i = j
    · subst g1; exact ⟨i - 1, by omega, by rw [e2]; exact e⟩
    · by_cases g2 : i = j - 1
      · subst g2; exact ⟨j, hj, by rw [e1]; exact e⟩
      · exact ⟨i, hi, by rw [e3 i g1 g2]; exact e⟩

/-- sorted up to i, but for the element at j, which is only less than what stands behind it -/
def SortedBut (n : Int) (xs : Nat → V.Bs) (i j : Nat) : Prop := ∀ p q, p < q → q ≤ i → q ≠ j → V.cmpV n (xs p) (xs q) ≤ 0
def SortedTo (n : Int) (xs : Nat → V.Bs) (m : Nat) : Prop := ∀ p q, p < q → q < m → V.cmpV n (xs p) (xs q) ≤ 0

theorem le_trans' {n : Int} (hn : V.scheme n = true) {a b c : V.Bs} (ha : V.valid n a = true) (hb : V.valid n b = true) (hc : V.valid n c = true) (h1 : V.cmpV n a b ≤ 0) (h2 : V.cmpV n b c ≤ 0) : V.cmpV n a c ≤ 0 := by
  have := (V.total_law hn ha hb hc).2.2.1
  omega

theorem SortedBut.start {n : Int} {xs : Nat → V.Bs} {i : Nat} (h : SortedTo n xs i) : SortedBut n xs i i := fun p q hp hq hne => h p q hp (by omega)

theorem SortedBut.step {n : Int} {xs : Nat → V.Bs} {i j : Nat} (h : SortedBut n xs i j) (h0 : 0 < j) (hlt : V.cmpV n (xs j) (xs (j - 1)) < 0) : SortedBut n (swp xs j) i (j - 1) := by
  have e1 : swp xs j j = xs (j - 1) := by unfold swp; rw [if_pos rfl]
  have e2 : swp xs j (j - 1) = xs j := by unfold swp; rw [if_neg (by omega), if_pos rfl]
  have e3 : ∀ i, i ≠ j → i ≠ j - 1 → swp xs j i = xs i := fun i g1 g2 => by unfold swp; rw [if_neg g1, if_neg g2]
  intro p q hp hq hne
  by_cases q1 : q = j
  · subst q1
    rw [e1]
    by_cases p1 : p = q - 1
    · subst p1; rw [e2]; omega
    · rw [e3 p (by omega) p1]; exact h p (q - 1) (by omega) (by omega) (by omega)
  · rw [e3 q q1 hne]
    by_cases p1 : p = j
    · subst p1; rw [e1]; exact h (p - 1) q (by omega) hq q1
    · by_cases p2 : p = j - 1
      · subst p2; rw [e2]; exact h j q (by omega) hq q1
      · rw [e3 p p1 p2]; exact h p q hp hq q1

theorem SortedBut.stop0 {n : Int} {xs : Nat → V.Bs} {i : Nat} (h : SortedBut n xs i 0) : SortedTo n xs (i + 1) := fun p q hp hq => h p q hp (by omega) (by omega)

theorem SortedBut.stop {n : Int} (hn : V.scheme n = true) {xs : Nat → V.Bs} {i j : Nat} (h : SortedBut n xs i j) (hji : j ≤ i) (h0 : 0 < j) (hv : ∀ k, k ≤ i → V.valid n (xs k) = true) (hge : ¬ V.cmpV n (xs j) (xs (j - 1)) < 0) : SortedTo n xs (i + 1) := by
  have hle : V.cmpV n (xs (j - 1)) (xs j) ≤ 0 := by
    have := (V.total_law hn (hv (j - 1) (by omega)) (hv j hji) (hv j hji)).1
    omega
  intro p q hp hq
  by_cases q1 : q = j
  · subst q1
    by_cases p1 : p = q - 1
    · subst p1; exact hle
    · exact le_trans' hn (hv p (by omega)) (hv (q - 1) (by omega)) (hv q hji) (h p (q - 1) (by omega) (by omega) (by omega)) hle
  · exact h p q hp (by omega) q1

theorem Alike.valid {L xs : Nat → V.Bs} {m : Nat} {n : Int} (h : Alike L xs m) (hv : ∀ k, k < m → V.valid n (L k) = true) : ∀ k, k < m → V.valid n (xs k) = true := fun k hk => by
  obtain ⟨j, hj, e⟩ := h.old k hk
  rw [e]; exact hv j hj

/-! the row in memory -/

structure Row (w : World) (b m : Nat) (xs : Nat → V.Bs) : Prop where
  cell : ∀ j, j < m → w.cell? ⟨b, j, none⟩ = some (.string ⟨(xs j).toArray⟩)
  free : ∀ j, j < m → w.frozen? ⟨b, j, none⟩ = false

theorem Row.below {w w' : World} {b m : Nat} {xs : Nat → V.Bs} (h : Row w b m xs) (hlt : b < w.heap.size) (hb : Below w.heap.size w w') : Row w' b m xs :=
  ⟨fun j hj => (hb.cell (p := ⟨b, j, none⟩) hlt).trans (h.cell j hj), fun j hj => (hb.frozen (p := ⟨b, j, none⟩) hlt).trans (h.free j hj)⟩

theorem Row.xchg {w : World} {b m j : Nat} {xs : Nat → V.Bs} (h : Row w b m xs) (hj : j < m) (h0 : 0 < j) :
    Row ((w.setCell ⟨b, j, none⟩ (.string ⟨(xs (j - 1)).toArray⟩)).setCell ⟨b, j - 1, none⟩ (.string ⟨(xs j).toArray⟩)) b m (swp xs j) := by
  have c1 := fun b2 o2 => cell_set w b j b2 o2 (.string ⟨(xs (j - 1)).toArray⟩) ⟨_, h.cell j hj⟩
  have hc : ∃ v, (w.setCell ⟨b, j, none⟩ (.string ⟨(xs (j - 1)).toArray⟩)).cell? ⟨b, j - 1, none⟩ = some v := ⟨_, by rw [c1, if_neg (by omega)]; exact h.cell (j - 1) (by omega)⟩
  have c2 := fun b2 o2 => cell_set (w.setCell ⟨b, j, none⟩ (.string ⟨(xs (j - 1)).toArray⟩)) b (j - 1) b2 o2 (.string ⟨(xs j).toArray⟩) hc
  refine ⟨fun i hi => ?_, fun i hi => by simp only [World.frozen?_setCell]; exact h.free i hi⟩
  rw [c2, c1]
  unfold swp
  by_cases g1 : i = j
  · subst g1; rw [if_neg (by omega), if_pos ⟨rfl, rfl⟩, if_pos rfl]
  · by_cases g2 : i = j - 1
    · subst g2; rw [if_pos ⟨rfl, rfl⟩, if_neg g1, if_pos rfl]
    · rw [if_neg (fun q => g2 q.2), if_neg (fun q => g1 q.2), if_neg g1, if_neg g2]; exact h.cell i hi

theorem MaxOk.set {w : World} {b j : Nat} {s : ByteArray} (h : MaxOk w) (hc : w.cell? ⟨b, 0, none⟩ = some (.string s)) (u : Value) : MaxOk (w.setCell ⟨b, j, none⟩ u) := by
  obtain ⟨m, hm⟩ := h
  refine ⟨m, ?_⟩
  rw [World.cell?_setCell_other _ _ _ _ ?_]
  · exact hm
  · intro e
    injection e with e1 e2
    subst e1
    rw [hc] at hm
    cases hm

theorem MaxOk.xchg {w : World} {b m j : Nat} {xs : Nat → V.Bs} (hm : MaxOk w) (h : Row w b m xs) (hj : j < m) (h0 : 0 < j) :
    MaxOk ((w.setCell ⟨b, j, none⟩ (.string ⟨(xs (j - 1)).toArray⟩)).setCell ⟨b, j - 1, none⟩ (.string ⟨(xs j).toArray⟩)) := by
  have c1 := fun b2 o2 => cell_set w b j b2 o2 (.string ⟨(xs (j - 1)).toArray⟩) ⟨_, h.cell j hj⟩
  refine (hm.set (h.cell 0 (by omega)) _).set (s := ⟨(xs 0).toArray⟩) ?_ _
  rw [c1, if_neg (by omega)]; exact h.cell 0 (by omega)

/-- the comparison of a scheme, as check hands it out -/
def cmpVal (T : TypeId) : Value := .func (.method "admission/version.compare") #[.iface T (.agg #[])] #[]

def InsPost (n : Int) (L : Nat → V.Bs) (m b : Nat) (w : World) (e : Ending) (w' : World) : Prop :=
  e = .returned (.tuple #[]) ∧ ∃ xs, Alike L xs m ∧ SortedTo n xs m ∧ Row w' b m xs ∧ w.grownBy w' (some b)

set_option maxRecDepth 100000 in
set_option maxHeartbeats 3200000 in
theorem insertion_any (n : Int) (T : TypeId) (K : FuncId) (L : Nat → V.Bs) (m b cap : Nat) (w : World) (hm : MaxOk w) (hn : V.scheme n = true) (h20 : m ≤ 20) (hv : ∀ k, k < m → V.valid n (L k) = true) (hrow : Row w b m L) (hlt : b < w.heap.size)
    (hmeth : ∀ k w, (method (k + 1) T (.agg #[]) "admission/version.compare").run Tryz.prog w = .ok (K, .agg #[]) w)
    (henter : ∀ args w, (callFunc K args).run Tryz.prog w = .ok (.enter K args) w)
    (hK : ∀ (x y : V.Bs) W, V.valid n x = true → V.valid n y = true → MaxOk W → Calls Tryz.prog K #[.agg #[], .string ⟨x.toArray⟩, .string ⟨y.toArray⟩] W fun e w' => e = .returned (.int .i64 (V.cmpV n x y)) ∧ Below W.heap.size W w') :
    Calls Tryz.prog 49 #[.slice (some ⟨b, 0, none⟩) m cap, .int .i64 0, .int .i64 m, cmpVal T] w (InsPost n L m b w) := by
  have HM := Lib.hid hm
  have HN := Lib.hid hn
  have HV := Lib.hid hv
  have HROW := Lib.hid hrow
  have HK := Lib.hid hK
  clear hm hn hv hrow hK
  unfold cmpVal
  go_enter Tryz.func49, Tryz.ntmps49
  go_wp2
  go_loopw [8] (fun i wr => ∃ (k : Nat) (xs : Nat → V.Bs), 1 ≤ k ∧ k ≤ max m 1 ∧ i = .int .i64 k ∧ Alike L xs m ∧ SortedTo n xs (min k m) ∧ Row wr b m xs ∧ w.grownBy wr (some b) ∧ MaxOk wr) (fun i _ => m - (intOf i).toNat)
  case atStart => exact ⟨1, L, Nat.le_refl _, by omega, rfl, Alike.refl _ _, fun p q hp hq => by omega, HROW.out, World.grownBy.refl _ _, HM.out⟩
  case round =>
    obtain ⟨k, xs, hk1, hk2, rfl, hal, hso, hro, hgr, hmx⟩ := hrel
    have HAL := Lib.hid hal
    have HSO := Lib.hid hso
    have HRO := Lib.hid hro
    have HGR := Lib.hid hgr
    have HMX := Lib.hid hmx
    clear hal hso hro hgr hmx
    by_cases hkm : k < m
    · obtain ⟨wo, rfl⟩ : ∃ wo : World, wo = wr := ⟨_, rfl⟩
      have HSB := Lib.hid (SortedBut.start (show SortedTo n xs k by have := HSO.out; rwa [Nat.min_eq_left (by omega)] at this))
      go_wp2
      go_loopw [9] (fun i wr => ∃ (j : Nat) (xs : Nat → V.Bs), j ≤ k ∧ i = .int .i64 j ∧ Alike L xs m ∧ SortedBut n xs k j ∧ Row wr b m xs ∧ w.grownBy wr (some b) ∧ MaxOk wr) (fun i _ => (intOf i).toNat)
      case atStart => exact ⟨k, xs, Nat.le_refl _, rfl, HAL.out, HSB.out, HRO.out, HGR.out, HMX.out⟩
      case round =>
        obtain ⟨j, ys, hj, rfl, hal, hsb, hro, hgr, hmx⟩ := hrel
        have HAL := Lib.hid hal
        have HSB := Lib.hid hsb
        have HRO := Lib.hid hro
        have HGR := Lib.hid hgr
        have HMX := Lib.hid hmx
        clear hal hsb hro hgr hmx
        have hbs : b < wr.heap.size := Nat.lt_of_lt_of_le hlt HGR.out.size
        by_cases hj0 : 0 < j
        · have c0 := HRO.out.cell j (by omega)
          have c1 := HRO.out.cell (j - 1) (by omega)
          have hw1 : IntKind.i64.wrap ((j : Int) - 1) = (j : Int) - 1 := IntWalk.i64_in _ (by omega)
          have hn1 : ((j : Int) - 1).toNat = j - 1 := by omega
          have hp1 : (0 : Int) ≤ (j : Int) - 1 := by omega
          have hp2 : (0 : Int) ≤ (j : Int) := by omega
          have hp3 : (j : Int) < (m : Int) := by omega
          have hp4 : (j : Int) - 1 < (m : Int) := by omega
          have hp5 : (1 : Int) ≤ (j : Int) := by omega
          have hp6 : j < m := by omega
          generalize hy0 : ys j = y0 at *
          generalize hy1 : ys (j - 1) = y1 at *
          have HY0 := Lib.hid hy0
          have HY1 := Lib.hid hy1
          clear hy0 hy1
          go_wp2
          go_still_tail 14, (by kernel_rfl)
          change wpList _ _ _ _ _ wr.drew
          have HRO2 : Hid (Row wr.drew b m ys) := Lib.hid (HRO.out.below hbs ((Below.refl _ wr).drew))
          have HGR2 : Hid (w.grownBy wr.drew (some b)) := Lib.hid (World.grownBy.trans HGR.out (drew_grown wr _))
          have HMX2 := Lib.hid (HMX.out.below (Below.refl _ wr).drew)
          have hbs2 : b < wr.drew.heap.size := hbs
          clear c0 c1 hbs
          generalize wr.drew = W1 at *
          have HV0 : Hid (V.valid n y0 = true) := Lib.hid (by rw [← HY0.out]; exact HAL.out.valid HV.out j (by omega))
          have HV1 : Hid (V.valid n y1 = true) := Lib.hid (by rw [← HY1.out]; exact HAL.out.valid HV.out (j - 1) (by omega))
          go_wp2_with fail
          refine (HK.out y0 y1 _ HV0.out HV1.out HMX2.out).mono ?_
          rintro e W2 ⟨rfl, hb2⟩
          have HRO3 := Lib.hid (HRO2.out.below hbs2 hb2)
          have HGR3 := Lib.hid (World.grownBy.trans HGR2.out (below_grown hb2 (some b)))
          have HMX3 := Lib.hid (HMX2.out.below hb2)
          have hbs3 : b < W2.heap.size := Nat.lt_of_lt_of_le hbs2 hb2.size
          clear hb2 hbs2 HRO2 HGR2 HMX2
          obtain ⟨c, hc⟩ : ∃ c, V.cmpV n y0 y1 = c := ⟨_, rfl⟩
          have HC := Lib.hid hc
          rw [hc]
          clear hc
          by_cases hcn : c < 0
          · have HST := Lib.hid (HSB.out.step hj0 (by rw [HY0.out, HY1.out, HC.out]; exact hcn))
            have HAL2 := Lib.hid (HAL.out.xchg (j := j) (by omega) hj0)
            have d0 := HRO3.out.cell j (by omega)
            have d1 := HRO3.out.cell (j - 1) (by omega)
            have f0 := HRO3.out.free j (by omega)
            have f1 := HRO3.out.free (j - 1) (by omega)
            rw [HY0.out] at d0
            rw [HY1.out] at d1
            go_wp2
            go_region
            have HROd : Hid (Row W2.drew b m ys) := Lib.hid (HRO3.out.below hbs3 ((Below.refl _ W2).drew))
            have HMXd := Lib.hid (HMX3.out.below (Below.refl _ W2).drew)
            have HGRd : Hid (w.grownBy W2.drew (some b)) := Lib.hid (World.grownBy.trans HGR3.out (drew_grown W2 _))
            have HROx := Lib.hid (HROd.out.xchg (j := j) (by omega) hj0)
            have HMXx := Lib.hid (HMXd.out.xchg HROd.out (j := j) (by omega) hj0)
            rw [HY0.out, HY1.out] at HROx HMXx
            clear d0 d1 f0 f1
            go_wp2
            go_roundw
            case rel => exact ⟨j - 1, swp ys j, by omega, by rw [← hn1, Int.toNat_of_nonneg hp1], HAL2.out, HST.out, HROx.out, World.grownBy.trans (World.grownBy.trans HGRd.out (set_grown _ _ _ _)) (set_grown _ _ _ _), HMXx.out⟩
            case measure => simp [intOf]; omega
          · have HST := Lib.hid (SortedBut.stop HN.out HSB.out hj hj0 (fun q hq => HAL.out.valid HV.out q (by omega)) (by rw [HY0.out, HY1.out, HC.out]; exact hcn))
            go_wp2
            go_roundw
            case rel => exact ⟨k + 1, ys, by omega, by omega, by go_num, HAL.out, by rw [Nat.min_eq_left (by omega)]; exact HST.out, HRO3.out, HGR3.out, HMX3.out⟩
            case measure => simp [intOf]; omega
        · have hj00 : j = 0 := by omega
          have HST := Lib.hid (SortedBut.stop0 (show SortedBut n ys k 0 by have := HSB.out; rwa [hj00] at this))
          subst hj00
          clear hj0
          go_wp2
          go_quiet (fail)
          rename_i nq
          have HRO4 : Hid (Row (wr.drewN nq) b m ys) := Lib.hid (HRO.out.below hbs (below_drewN (Below.refl _ wr) nq))
          have HGR4 : Hid (w.grownBy (wr.drewN nq) (some b)) := Lib.hid (World.grownBy.trans HGR.out (drewN_grown wr nq _))
          have HMX4 := Lib.hid (HMX.out.below (below_drewN (Below.refl _ wr) nq))
          generalize wr.drewN nq = W3 at *
          go_wp2
          go_roundw
          case rel => exact ⟨k + 1, ys, by omega, by omega, by go_num, HAL.out, by rw [Nat.min_eq_left (by omega)]; exact HST.out, HRO4.out, HGR4.out, HMX4.out⟩
          case measure => simp [intOf]; omega
    · have HE := Lib.hid (show SortedTo n xs m by
        have := HSO.out
        rcases Nat.lt_or_ge m 1 with h | h
        · intro p q hp hq; omega
        · rwa [Nat.min_eq_right (by omega)] at this)
      go_wp2
      go_end0
      exact ⟨rfl, xs, HAL.out, HE.out, HRO.out, HGR.out⟩
end Go.Proofs.YtabeblbhbekjaaaGreatDoor
