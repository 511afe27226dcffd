/-
  Walk: the reference's Same of range sets.
-/
import Derived.Test.YtolojkkhmamddaaGreatDoorMC
import Derived.Laws.StructEq
import Derived.Deep.QuietTactic
import Derived.BigQuiet
namespace Go.Proofs.YtolojkkhmamddaaGreatDoor
open Go.RowKit

/-- two range sets are the same -/
noncomputable def sameP (n : Int) (a : List V.Itv) (m : Int) (b : List V.Itv) : Bool := @decide (n = m ∧ a = b) (Classical.propDecidable _)
theorem sameP_iff {n m : Int} {a b : List V.Itv} : sameP n a m b = true ↔ n = m ∧ a = b := by
  unfold sameP
  exact @decide_eq_true_iff _ (Classical.propDecidable _)
theorem sameP_no {n m : Int} {a b : List V.Itv} (h : ¬ (n = m ∧ a = b)) : sameP n a m b = false := by
  rcases hs : sameP n a m b with _ | _
  · rfl
  · exact absurd (sameP_iff.1 hs) h
theorem sameP_self (n : Int) (a : List V.Itv) : sameP n a n a = true := sameP_iff.2 ⟨rfl, rfl⟩

/-! '==' on intervals -/
def eqI (x y : V.Itv) : Bool := x.lo == y.lo && (x.lk == y.lk && (x.hi == y.hi && x.hk == y.hk))
theorem eqI_iff {x y : V.Itv} : eqI x y = true ↔ x = y := by
  obtain ⟨a, b, c, d⟩ := x
  obtain ⟨e, f, g, h⟩ := y
  simp [eqI]
theorem guard_itv : Tryz.prog.eqGuardType Tryz.prog.depth 64 = false := by kernel_rfl
set_option maxRecDepth 100000 in
theorem eq_itv (x y : V.Itv) (w : World) : (Op.equalIn 10000 64 (.agg #[.string ⟨x.lo.toArray⟩, .int .i64 x.lk, .string ⟨x.hi.toArray⟩, .int .i64 x.hk]) (.agg #[.string ⟨y.lo.toArray⟩, .int .i64 y.lk, .string ⟨y.hi.toArray⟩, .int .i64 y.hk])).run Tryz.prog w = .ok (eqI x y) w := by
  rw [run_equalIn_agg w 9999 64 _ _ (by kernel_rfl) (by kernel_rfl)]
  unfold Program.fieldsOf
  rw [Tryz.underlying64]
  simp only [Op.eqFields]
  simp [go_sem]
  unfold eqI
  by_cases h1 : x.lo = y.lo
  · by_cases h2 : x.lk = y.lk
    · by_cases h3 : x.hi = y.hi
      · by_cases h4 : x.hk = y.hk
        · simp [h1, h2, h3, h4]
        · simp [h1, h2, h3, h4]
      · simp [h1, h2, h3]
    · simp [h1, h2]
  · simp [h1]
theorem neq_itv (x y : V.Itv) (w : World) : (binOp .neq 64 (.agg #[.string ⟨x.lo.toArray⟩, .int .i64 x.lk, .string ⟨x.hi.toArray⟩, .int .i64 x.hk]) (.agg #[.string ⟨y.lo.toArray⟩, .int .i64 y.lk, .string ⟨y.hi.toArray⟩, .int .i64 y.hk])).run Tryz.prog w = .ok (.bool (!eqI x y)) w := by
  rw [run_neq_struct, eq_itv]
  rfl

set_option maxRecDepth 100000 in
set_option maxHeartbeats 1600000 in
theorem rrSame_any (n m : Int) (va vb : Value) (a b : List V.Itv) (w : World) (hva : Itvs w va a) (hvb : Itvs w vb b) (hla : a.length ≤ maxLen) (_hlb : b.length ≤ maxLen) :
    Calls Tryz.prog 24 #[setV n va, setV m vb] w fun e w' => e = .returned (.bool (sameP n a m b)) ∧ Below w.heap.size w w' := by
  have HVA := Lib.hid hva
  have HVB := Lib.hid hvb
  obtain ⟨aa, ac, rfl⟩ := hva.slice
  obtain ⟨ba, bc, rfl⟩ := hvb.slice
  unfold maxLen at hla _hlb
  obtain ⟨hb0, hc0, _, hz0⟩ := two_alloc w #[.int .i64 n, .slice aa a.length ac] #[.int .i64 m, .slice ba b.length bc] 25 25
  have c0 : ((w.alloc (.cells #[.int .i64 n, .slice aa a.length ac] 25)).alloc (.cells #[.int .i64 m, .slice ba b.length bc] 25)).cell? ⟨w.heap.size, 0, none⟩ = some (.int .i64 n) := by simp [cell_alloc]
  have c1 : ((w.alloc (.cells #[.int .i64 n, .slice aa a.length ac] 25)).alloc (.cells #[.int .i64 m, .slice ba b.length bc] 25)).cell? ⟨w.heap.size, 1, none⟩ = some (.slice aa a.length ac) := by simp [cell_alloc]
  have d0 : ((w.alloc (.cells #[.int .i64 n, .slice aa a.length ac] 25)).alloc (.cells #[.int .i64 m, .slice ba b.length bc] 25)).cell? ⟨w.heap.size + 1, 0, none⟩ = some (.int .i64 m) := by rw [hc0]; rfl
  have d1 : ((w.alloc (.cells #[.int .i64 n, .slice aa a.length ac] 25)).alloc (.cells #[.int .i64 m, .slice ba b.length bc] 25)).cell? ⟨w.heap.size + 1, 1, none⟩ = some (.slice ba b.length bc) := by rw [hc0]; rfl
  have HB0 := Lib.hid hb0
  clear hva hvb hc0 hb0 hz0
  unfold setV
  by_cases hnm : n = m
  · subst hnm
    by_cases hlen : a.length = b.length
    · have hq : ((a.length : Int) != (b.length : Int)) = false := by simp [hlen]
      go_enter Tryz.func24, Tryz.ntmps24
      have HC := Lib.hid (And.intro c1 d1)
      have HLEN := Lib.hid hlen
      clear hlen
      go_wp2_with fail
      clear c0 c1 d0 d1
      generalize (w.alloc (.cells #[.int .i64 n, .slice aa a.length ac] 25)).alloc (.cells #[.int .i64 n, .slice ba b.length bc] 25) = w0 at *
      go_loopw [5] (fun iv wx => ∃ k : Nat, k ≤ a.length ∧ iv = .int .i64 k ∧ (∀ i, i < k → a[i]? = b[i]?) ∧ Below w0.heap.size w0 wx) (fun iv _ => a.length - (intOf iv).toNat)
      case atStart => exact ⟨0, Nat.zero_le _, rfl, fun i hi => by omega, Below.refl _ _⟩
      case round =>
        obtain ⟨k, hk, rfl, hz, hbx⟩ := hrel
        have HZ := Lib.hid hz
        have HBX := Lib.hid hbx
        have HBF := Lib.hid (HB0.out.trans (hbx.mono HB0.out.size))
        have e1 := below_keep hbx HC.out.1
        have e2 := below_keep hbx HC.out.2
        clear hz hbx
        by_cases hlt : k < a.length
        · have hlt2 : k < b.length := by have := HLEN.out; omega
          obtain ⟨g1, o1, rfl, hg1, hx⟩ := HVA.out.at k hlt
          obtain ⟨g2, o2, rfl, hg2, hy⟩ := HVB.out.at k hlt2
          obtain ⟨x0, x1, x2, x3⟩ := hx.below hg1 HBF.out
          obtain ⟨y0, y1, y2, y3⟩ := hy.below hg2 HBF.out
          have hi1 : (0 : Int) ≤ (k : Int) := by omega
          have hi2 : (k : Int) < (a.length : Int) := by omega
          have hi3 : (k : Int) < (b.length : Int) := by omega
          have HYES : Hid (eqI a[k] b[k] = true → ∀ i, i < k + 1 → a[i]? = b[i]?) := Lib.hid (fun hq i hi => by
            by_cases h : i < k
            · exact HZ.out i h
            · obtain rfl : i = k := by omega
              rw [List.getElem?_eq_getElem hlt, List.getElem?_eq_getElem hlt2, eqI_iff.1 hq])
          have HNO : Hid (eqI a[k] b[k] = false → sameP n a n b = false) := Lib.hid (fun hq => sameP_no (fun hs => by
            have : a[k]? = b[k]? := by rw [hs.2]
            rw [List.getElem?_eq_getElem hlt, List.getElem?_eq_getElem hlt2] at this
            rw [eqI_iff.2 (Option.some.inj this)] at hq
            cases hq))
          clear hx hy
          have hgd := guard_itv
          have hneq := neq_itv a[k] b[k]
          generalize a[k] = x at *
          generalize b[k] = y at *
          rcases hxy : eqI x y with _ | _
          · have HN := Lib.hid (HNO.out hxy)
            simp only [hxy] at hneq
            clear hxy
            go_wp2_with fail
            go_quiet (fail)
            rename_i nq
            go_wp2
            go_ret
            exact ⟨ret_bool HN.out.symm, below_drewN HBF.out nq⟩
          · have HY := Lib.hid (HYES.out hxy)
            simp only [hxy] at hneq
            clear hxy
            go_wp2_with fail
            go_quiet (fail)
            rename_i nq
            go_wp2
            go_roundw
            case rel => exact ⟨k + 1, by omega, by go_num, HY.out, below_drewN HBX.out nq⟩
            case measure => simp [intOf]; omega
        · obtain rfl : k = a.length := by omega
          have HS : Hid (sameP n a n b = true) := Lib.hid (sameP_iff.2 ⟨rfl, List.ext_getElem? (fun i => by
            by_cases h : i < a.length
            · exact HZ.out i h
            · rw [List.getElem?_eq_none (by omega), List.getElem?_eq_none (by have := HLEN.out; omega)])⟩)
          go_wp2
          go_ret
          exact ⟨ret_bool HS.out.symm, HBF.out⟩
    · have hq : ((a.length : Int) != (b.length : Int)) = true := by rw [bne_iff_ne]; omega
      have HN : Hid (sameP n a n b = false) := Lib.hid (sameP_no (fun h => hlen (by rw [h.2])))
      clear hlen
      go_enter Tryz.func24, Tryz.ntmps24
      go_wp2
      go_ret
      exact ⟨ret_bool HN.out.symm, HB0.out⟩
  · have hq : (n != m) = true := by simpa using hnm
    have HN : Hid (sameP n a m b = false) := Lib.hid (sameP_no (fun h => hnm h.1))
    clear hnm
    go_enter Tryz.func24, Tryz.ntmps24
    go_wp2
    go_ret
    exact ⟨ret_bool HN.out.symm, HB0.out⟩
end Go.Proofs.YtolojkkhmamddaaGreatDoor
