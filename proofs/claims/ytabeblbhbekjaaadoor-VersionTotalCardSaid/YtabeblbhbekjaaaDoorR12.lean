/-
  Walk: the law VersionTotal.
-/
import Derived.Test.YtabeblbhbekjaaaDoorR11
import Derived.Test.YtabeblbhbekjaaaDoorT3
namespace Go.Proofs.YtabeblbhbekjaaaDoor
open Go.RowKit

/-- two versions of a scheme compared -/
theorem compare_ok (n : Int) (x y : V.Bs) (c : Int) (w : World) (hm : MaxOk w) (hn : V.scheme n = true) (hx : V.valid n x = true) (hy : V.valid n y = true) (hc : V.cmpV n x y = c) :
    Calls Tryd.prog 10 #[.int .i64 n, .string ⟨x.toArray⟩, .string ⟨y.toArray⟩] w fun e w' => e = .returned (.tuple #[.int .i64 c, .int .i64 0]) ∧ Below w.heap.size w w' := by
  have l1 := V.valid_short hx
  have l2 := V.valid_short hy
  refine compare_at n ⟨x.toArray⟩ ⟨y.toArray⟩ c 0 ?_ w hm (by show x.length ≤ _; unfold maxLen; omega) (by show y.length ≤ _; unfold maxLen; omega)
  simp only [arr_list]
  unfold V.compareR
  rw [hn, hx, hy]
  simp only [Bool.not_true, Bool.false_eq_true, if_false, Bool.and_self, if_true, hc]

theorem cmpV_rng {n : Int} (hn : V.scheme n = true) {a b : V.Bs} (ha : V.valid n a = true) (hb : V.valid n b = true) : V.cmpV n a b = -1 ∨ V.cmpV n a b = 0 ∨ V.cmpV n a b = 1 := by
  rw [← V.key_law hn ha hb]
  exact V.cb_rng _ _

set_option maxRecDepth 100000 in
set_option maxHeartbeats 3200000 in
theorem versionTotal_any (n : Int) (L : List V.Bs) (v : Value) (a : Option Addr) (m cap : Nat) (w : World) (hmx : MaxOk w) (hn : (Lit.int .i64 n).wf = true) (hL : Strs w v L) (hlen : L.length ≤ maxLen) (hl : ∀ x ∈ L, x.length ≤ maxLen) (ht : Nums w a m) :
    Calls Tryd.prog 5 #[.int .i64 n, v, .slice a m cap] w fun e w' => e = .returned (.bool true) ∧ Below w.heap.size w w' := by
  have HM := Lib.hid hmx
  have HN := Lib.hid hn
  have HL := Lib.hid hL
  have HLL := Lib.hid hl
  have HT := Lib.hid ht
  unfold maxLen at hlen
  obtain ⟨va, vc, rfl, _⟩ := hL
  clear hmx hn hl ht
  by_cases h10 : 10 < L.length
  · go_enter Tryd.func5, Tryd.ntmps5
    go_wp2
    go_ret
    exact ⟨ret_bool rfl, Below.refl _ _⟩
  · have h10' : L.length ≤ 10 := by omega
    clear h10 hlen
    go_enter Tryd.func5, Tryd.ntmps5
    go_wp2_with fail
    refine (scheme_any n _ HN.out).mono ?_
    rintro e w' ⟨rfl, rfl⟩
    have hs := schemeOf_ok n
    generalize schemeOf n = s at *
    have HS := Lib.hid hs
    clear hs
    go_wp2_with fail
    refine (three_any s L _ a m cap _ HM.out HS.out HL.out (by omega) HLL.out HT.out).mono ?_
    rintro e w1 ⟨x, y, z, hx, hy, hz, rfl, hb1⟩
    have HB1 := Lib.hid hb1
    have HX := Lib.hid hx
    have HY := Lib.hid hy
    have HZ := Lib.hid hz
    obtain ⟨law1, law2, law3, law4, law5⟩ := V.total_law HS.out hx hy hz
    have rng1 := cmpV_rng HS.out hx hy
    have rng2 := cmpV_rng HS.out hy hz
    have rng3 := cmpV_rng HS.out hx hz
    obtain ⟨ca, hca⟩ : ∃ c, V.cmpV s x y = c := ⟨_, rfl⟩
    obtain ⟨cb, hcb⟩ : ∃ c, V.cmpV s y z = c := ⟨_, rfl⟩
    obtain ⟨cc, hcc⟩ : ∃ c, V.cmpV s x z = c := ⟨_, rfl⟩
    obtain ⟨cd, hcd⟩ : ∃ c, V.cmpV s y x = c := ⟨_, rfl⟩
    rw [hca] at law1 law3 law4 law5 rng1
    rw [hcb] at law3 law4 law5 rng2
    rw [hcc] at law3 law4 law5 rng3
    rw [hcd] at law1
    have HCA := Lib.hid hca
    have HCB := Lib.hid hcb
    have HCC := Lib.hid hcc
    have HCD := Lib.hid hcd
    have HCZ := Lib.hid law2
    have L1 := Lib.hid law1
    have L3 := Lib.hid law3
    have L4 := Lib.hid law4
    have L5 := Lib.hid law5
    have R1 := Lib.hid rng1
    have R2 := Lib.hid rng2
    have R3 := Lib.hid rng3
    clear hb1 hx hy hz law1 law2 law3 law4 law5 rng1 rng2 rng3 hca hcb hcc hcd
    go_wp2_with fail
    refine (compare_ok s x y ca _ (HM.out.below (HB1.out.alloc HB1.out.size _)) HS.out HX.out HY.out HCA.out).mono ?_
    rintro e w2 ⟨rfl, hb2⟩
    have hb1' := (HB1.out.alloc HB1.out.size (.cells #[.string ⟨x.toArray⟩, .string ⟨y.toArray⟩, .string ⟨z.toArray⟩] 31))
    have HB2 := Lib.hid (hb1'.trans (hb2.mono hb1'.size))
    have hcell : ∀ o, w2.cell? ⟨w1.heap.size, o, none⟩ = #[Value.string ⟨x.toArray⟩, .string ⟨y.toArray⟩, .string ⟨z.toArray⟩][o]? := fun o => by
      rw [hb2.cell (p := ⟨w1.heap.size, o, none⟩) (by simp), World.cell?_alloc_new]
    have c0 := hcell 0
    have c1 := hcell 1
    have c2 := hcell 2
    have hz2 : w1.heap.size < w2.heap.size := Nat.lt_of_lt_of_le (by simp) hb2.size
    simp at c0 c1 c2
    clear hb2 hb1' hcell
    go_wp2_with fail
    refine (compare_ok s y z cb _ (HM.out.below HB2.out) HS.out HY.out HZ.out HCB.out).mono ?_
    rintro e w3 ⟨rfl, hb3⟩
    have HB3 := Lib.hid (HB2.out.trans (hb3.mono HB2.out.size))
    have d0 := keep_cell hb3 c0
    have d1 := keep_cell hb3 c1
    have d2 := keep_cell hb3 c2
    clear hb3 c0 c1 c2
    go_wp2_with fail
    refine (compare_ok s x z cc _ (HM.out.below HB3.out) HS.out HX.out HZ.out HCC.out).mono ?_
    rintro e w4 ⟨rfl, hb4⟩
    have HB4 := Lib.hid (HB3.out.trans (hb4.mono HB3.out.size))
    have e0 := keep_cell hb4 d0
    have e1 := keep_cell hb4 d1
    clear hb4 d0 d1 d2
    go_wp2_with fail
    refine (compare_ok s y x cd _ (HM.out.below HB4.out) HS.out HY.out HX.out HCD.out).mono ?_
    rintro e w5 ⟨rfl, hb5⟩
    have HB5 := Lib.hid (HB4.out.trans (hb5.mono HB4.out.size))
    have f0 := keep_cell hb5 e0
    clear hb5 e0 e1
    go_wp2_with fail
    refine (compare_ok s x x 0 _ (HM.out.below HB5.out) HS.out HX.out HX.out HCZ.out).mono ?_
    rintro e w6 ⟨rfl, hb6⟩
    have HB6 := Lib.hid (HB5.out.trans (hb6.mono HB5.out.size))
    clear hb6 f0 hz2
    obtain rfl : cd = -ca := by have := L1.out; omega
    rcases R1.out with rfl | rfl | rfl <;> rcases R2.out with rfl | rfl | rfl <;> rcases R3.out with rfl | rfl | rfl
    all_goals first
      | (exfalso; have l3 := L3.out; have l4 := L4.out; have l5 := L5.out; omega)
      | skip
    all_goals
      clear L1 L3 L4 L5
      go_wp2_with fail
      refine (awake_any _ (HM.out.below HB6.out)).mono ?_
      rintro e w7 ⟨rfl, hb7⟩
      have HB7 := Lib.hid (HB6.out.trans (hb7.mono HB6.out.size))
      clear hb7
      go_wp2
      go_ret
      exact ⟨ret_bool rfl, HB7.out⟩
end Go.Proofs.YtabeblbhbekjaaaDoor
