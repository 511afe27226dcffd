/-
  Walk: the law FindingLess.
-/
import Derived.Test.YtoiabbhppbghdaaFI
import Derived.Test.YtoiabbhppbghdaaFE
import Derived.Test.YtoiabbhppbghdaaFD
import Derived.Test.YtoiabbhppbghdaaFG
namespace Go.Proofs.Ytoiabbhppbghdaa
open Go.RowKit

def wakeA : FV := ⟨⟨zero32, 0, [119], 5, [], 4, [], true⟩, .slice none 0 0, .slice none 0 0⟩
def wakeB : FV := ⟨⟨zero32, 0, [120], 9, [], 2, [], false⟩, .slice none 0 0, .slice none 0 0⟩
theorem wake_ok (w : World) : ∀ x ∈ [wakeA, wakeB], FOk w x := by
  intro x hx
  have hz : DigOk zero32 := ⟨rfl, by decide⟩
  rcases List.mem_cons.1 hx with rfl | hx
  · exact ⟨hz, Digs.nil _, Digs.nil _, by decide, by decide, by decide⟩
  · rw [List.mem_singleton.1 hx]
    exact ⟨hz, Digs.nil _, Digs.nil _, by decide, by decide, by decide⟩
theorem wl_build2F {ops : Array Oper} {rest : List Oper} {o : Oper} {a : Act} {w : World} {Q : Exit → Act → World → Prop} (hgd : o.guard = none) (e1 e2 : Operand) (ho : o.op = .buildSlice 26 2 #[(0, e1), (1, e2)])
    (x y : FV) (hx : DigOk x.f.inv) (hy : DigOk y.f.inv) (h1 : a.eval e1 = .agg (fcells x)) (h2 : a.eval e2 = .agg (fcells y)) (W : World) (hW : W = w.alloc (.cells (fl x ++ fl y).toArray 64))
    (h : wpList Try.prog ops Q rest (a.put o.dst (.slice (some ⟨w.heap.size, 0, none⟩) 2 2)) W) : wpList Try.prog ops Q (o :: rest) a w := by
  subst hW
  obtain ⟨ie, z, hie, hz, hsz, _, _⟩ := findIE3
  refine wpList_buildSlice hgd _ 64 2 _ ho (fl x ++ fl y).toArray ie z Try.underlying26 hie hz (by rw [hsz]; decide) (by rw [hsz]; decide) ?_ h
  have := Great.fill_whole (s := 39) (by decide) [Value.agg (fcells x), Value.agg (fcells y)] ((Array.range (2 * ie.size)).map (z.cells[· % z.cells.size]!)) (fun v hv => by
    rcases List.mem_cons.1 hv with rfl | hv
    · exact fcells_size hx
    · rcases List.mem_cons.1 hv with rfl | hv
      · exact fcells_size hy
      · cases hv) (by rw [hsz]; simp)
  rw [hsz] at this ⊢
  simp only [h1, h2, List.map_toArray, List.map_cons, List.map_nil]
  exact this.trans (by simp [Value.cells, fcells])
theorem two_finds {x y : FV} (w : World) (hx : DigOk x.f.inv) (hok : ∀ (w : World), ∀ z ∈ [x, y], FOk w z) : Finds (w.alloc (.cells (fl x ++ fl y).toArray 64)) (.slice (some ⟨w.heap.size, 0, none⟩) 2 2) [x, y] :=
  ⟨_, 2, rfl, fun j hj => by
    have hl := fl_len hx
    have hj2 : j = 0 ∨ j = 1 := by simp at hj; omega
    rcases hj2 with rfl | rfl
    · refine ⟨hok _ _ (by simp), _, 0, rfl, by simp, fun i u hu => ?_⟩
      have hi : i < (fl x).length := (List.getElem?_eq_some_iff.1 hu).1
      rw [World.cell?_alloc_new]
      simp only [Nat.zero_mul, Nat.zero_add, List.getElem?_toArray]
      rw [List.getElem?_append_left hi]
      exact hu
    · refine ⟨hok _ _ (by simp), _, 0, rfl, by simp, fun i u hu => ?_⟩
      rw [World.cell?_alloc_new]
      simp only [Nat.one_mul, Nat.zero_add, List.getElem?_toArray]
      rw [List.getElem?_append_right (by omega), hl, Nat.add_sub_cancel_left]
      exact hu⟩
/-- the findings of a case -/
theorem run_caseF (cs : Array Value) (v : Value) (h : cs[34]? = some v) (w : World) : (Instr.field 29 (.agg cs) 3).run Try.prog w = .ok v w := by
  have h1 := run_isAgg_plain (P := Try.prog) Try.underlying26 rfl w
  unfold Instr.field part
  simp [run_underlying Try.underlying29, asAgg, h1, h]
theorem wake_con : (conSaid [wakeA, wakeB]).length = 1 := by
  have h : conIds [wakeA, wakeB] = [[119]] := rfl
  unfold conSaid
  rw [h, List.mergeSort_singleton]
  decide

set_option maxRecDepth 100000 in
set_option maxHeartbeats 1600000 in
theorem awake27_any (w : World) : Calls Try.prog 12 #[] w fun e w' => e = .returned (.bool true) ∧ Below w.heap.size w w' := by
  obtain ⟨W, hW⟩ : ∃ W, W = w.alloc (.cells (fl wakeA ++ fl wakeB).toArray 64) := ⟨_, rfl⟩
  have hz : DigOk zero32 := ⟨rfl, by decide⟩
  have HA : Hid (DigOk wakeA.f.inv) := Lib.hid hz
  have HB : Hid (DigOk wakeB.f.inv) := Lib.hid hz
  have HF : Hid (Finds W (.slice (some ⟨w.heap.size, 0, none⟩) 2 2) [wakeA, wakeB]) := Lib.hid (by rw [hW]; exact two_finds w hz wake_ok)
  have HBW : Hid (Below w.heap.size w W) := Lib.hid (by rw [hW]; exact (Below.refl _ w).alloc (Nat.le_refl _) _)
  have HW := Lib.hid hW
  clear hW hz
  go_enter Try.func12, Try.ntmps12
  go_wp2_with (first | (refine wpList_buildTo rfl 64 #[(1, .tmp 2), (2, .tmp 3)] rfl _ rfl (fcells wakeA) (by kernel_rfl) ?_) | (refine wpList_buildTo rfl 64 #[(1, .tmp 5), (2, .tmp 6)] rfl _ rfl (fcells wakeB) (by kernel_rfl) ?_) | (refine wl_build2F rfl _ _ rfl wakeA wakeB HA.out HB.out rfl rfl W HW.out ?_) | fail)
  refine (worst_any _ [wakeA, wakeB] W HF.out (by decide)).mono ?_
  rintro e w1 ⟨rfl, hb1⟩
  have hw5 : V.worst ([wakeA, wakeB].map FV.f) = 5 := rfl
  rw [hw5]
  have HB1 := Lib.hid (HBW.out.trans (hb1.mono HBW.out.size))
  have HF1 := Lib.hid (HF.out.below hb1)
  clear hb1 hw5
  go_wp2_with fail
  refine (openAll_any _ [wakeA, wakeB] 5 w1 HF1.out (by decide)).mono ?_
  rintro e w2 ⟨v2, ys2, rfl, hf2, hm2, _, hb2⟩
  have HB2 := Lib.hid (HB1.out.trans (hb2.mono HB1.out.size))
  have HF2 := Lib.hid (HF1.out.below hb2)
  have hl2 : ys2.length = 1 := by have := congrArg List.length hm2; rw [List.length_map] at this; exact this
  obtain ⟨a2, c2, rfl, _⟩ := hf2
  rw [hl2]
  clear hb2 hm2 hl2
  go_wp2_with fail
  refine (openAll_any _ [wakeA, wakeB] 6 w2 HF2.out (by decide)).mono ?_
  rintro e w3 ⟨v3, ys3, rfl, hf3, hm3, _, hb3⟩
  have HB3 := Lib.hid (HB2.out.trans (hb3.mono HB2.out.size))
  have HF3 := Lib.hid (HF2.out.below hb3)
  have hl3 : ys3.length = 0 := by have := congrArg List.length hm3; rw [List.length_map] at this; exact this
  obtain ⟨a3, c3, rfl, _⟩ := hf3
  rw [hl3]
  clear hb3 hm3 hl3
  go_wp2_with fail
  refine (contra_any _ [wakeA, wakeB] w3 HF3.out (by decide)).mono ?_
  rintro e w4 ⟨v4, rfl, hs4, hb4⟩
  have HB4 := Lib.hid (HB3.out.trans (hb4.mono HB3.out.size))
  obtain ⟨a4, c4, rfl, _⟩ := hs4
  rw [wake_con]
  clear hb4
  go_wp2
  go_ret
  exact ⟨rfl, HB4.out⟩

set_option maxRecDepth 100000 in
set_option maxHeartbeats 3200000 in
theorem findingLess_any (a : Option Addr) (m cap : Nat) (x y : Int) (w : World) (hn : Nums w a m) (hmc : m ≤ cap) (hx : (Lit.int .i64 x).wf = true) (hy : (Lit.int .i64 y).wf = true) :
    Calls Try.prog 3 #[.slice a m cap, .int .i64 x, .int .i64 y] w fun e w' => e = .returned (.bool true) ∧ Below w.heap.size w w' := by
  have HX := Lib.hid hx
  have HY := Lib.hid hy
  have HN := Lib.hid hn
  clear hx hy hn
  go_enter Try.func3, Try.ntmps3
  go_wp2_with fail
  refine (tapeOf_any a m cap w HN.out hmc).mono ?_
  rintro e w1 ⟨rfl, ht1, hb1, hlt1⟩
  have HT1 := Lib.hid ht1
  have HB1 := Lib.hid hb1
  clear ht1 hb1
  go_wp2_with fail
  refine (case_any w.heap.size w1 HT1.out).mono ?_
  rintro e w2 ⟨cs, v, xs, rfl, hcs, hfi, hxl, hsev, hg⟩
  have HF := Lib.hid hfi
  have HSEV : Hid (∀ f ∈ xs.map FV.f, 1 ≤ f.sev ∧ f.sev ≤ 10) := Lib.hid (by
    intro f hf
    obtain ⟨z, hz, rfl⟩ := List.mem_map.1 hf
    exact hsev z hz)
  have HB2 : Hid (Below w.heap.size w w2) := Lib.hid (HB1.out.grown hg HB1.out.size (by intro k e; cases e; exact Nat.le_refl _))
  obtain ⟨va, vc, rfl, _⟩ := hfi
  have hcf := run_caseF cs _ hcs
  clear hg hsev HB1 HT1
  go_wp2_with fail
  refine (within_any x w2 HX.out).mono ?_
  rintro e w2' ⟨r, rfl, hr0, hr1, rfl⟩
  go_wp2_with fail
  refine (within_any y w2' HY.out).mono ?_
  rintro e w2 ⟨s, rfl, hs0, hs1, rfl⟩
  clear hcs hcf
  go_wp2_with fail
  refine (openAll_any _ xs (min r s) w2 HF.out (by omega)).mono ?_
  rintro e w3 ⟨v3, ys3, rfl, hf3, hm3, hl3, hb3⟩
  have HB3 := Lib.hid (HB2.out.trans (hb3.mono HB2.out.size))
  have HF3 := Lib.hid (HF.out.below hb3)
  have HY3 := Lib.hid hf3
  have HM3 := Lib.hid hm3
  obtain ⟨a3, c3, rfl, _⟩ := hf3
  clear hb3 hm3 HF HB2
  go_wp2_with fail
  refine (openAll_any _ xs (max r s) w3 HF3.out (by omega)).mono ?_
  rintro e w4 ⟨v4, ys4, rfl, hf4, hm4, hl4, hb4⟩
  have HB4 := Lib.hid (HB3.out.trans (hb4.mono HB3.out.size))
  have HF4 := Lib.hid (HF3.out.below hb4)
  have HY3' := Lib.hid (HY3.out.below hb4)
  have HY4 := Lib.hid hf4
  have HM4 := Lib.hid hm4
  obtain ⟨a4, c4, rfl, _⟩ := hf4
  clear hb4 hm4 HF3 HB3 HY3
  go_wp2_with fail
  refine (openAll_any _ ys3 (max r s) w4 HY3'.out (by omega)).mono ?_
  rintro e w5 ⟨v5, ys5, rfl, hf5, hm5, hl5, hb5⟩
  have HB5 := Lib.hid (HB4.out.trans (hb5.mono HB4.out.size))
  have HF5 := Lib.hid (HF4.out.below hb5)
  have HY4' := Lib.hid (HY4.out.below hb5)
  have HY5 := Lib.hid hf5
  have HM5 : Hid (ys5.map FV.f = ys4.map FV.f) := Lib.hid (by rw [hm5, HM3.out, HM4.out, V.openL_openL _ (by omega)])
  obtain ⟨a5, c5, rfl, _⟩ := hf5
  clear hb5 hm5 HF4 HB4 HY4 HY3' HM3 HM4
  go_wp2_with fail
  refine (sameF_true _ _ ys5 ys4 w5 HY5.out HY4'.out HM5.out (by omega)).mono ?_
  rintro e w6 ⟨rfl, hb6⟩
  have HB6 := Lib.hid (HB5.out.trans (hb6.mono HB5.out.size))
  have HF6 := Lib.hid (HF5.out.below hb6)
  clear hb6 HB5 HF5 HY5 HY4' HM5
  obtain ⟨W, hW⟩ : ∃ W, W = V.worst (xs.map FV.f) := ⟨_, rfl⟩
  have hwr := V.worst_le (xs.map FV.f) 10 (by decide) (fun f hf => ⟨by have := (HSEV.out f hf).1; omega, (HSEV.out f hf).2⟩)
  have HZ : Hid (W = 0 ↔ V.openL (xs.map FV.f) 1 = []) := Lib.hid (by rw [hW]; exact V.worst_zero _ (fun f hf => (HSEV.out f hf).1))
  have HAB : Hid (V.openL (xs.map FV.f) (W + 1) = []) := Lib.hid (by rw [hW]; exact V.open_above _)
  rw [← hW] at hwr
  have HW := Lib.hid hW
  clear hW HSEV
  go_wp2_with fail
  refine (worst_any _ xs w6 HF6.out (by omega)).mono ?_
  rintro e w7 ⟨rfl, hb7⟩
  rw [← HW.out]
  have HB7 := Lib.hid (HB6.out.trans (hb7.mono HB6.out.size))
  have HF7 := Lib.hid (HF6.out.below hb7)
  clear hb7 HB6 HF6
  go_wp2_with fail
  refine (openAll_any _ xs (W + 1) w7 HF7.out (by omega)).mono ?_
  rintro e w8 ⟨v8, ys8, rfl, hf8, hm8, _, hb8⟩
  have HB8 := Lib.hid (HB7.out.trans (hb8.mono HB7.out.size))
  have HF8 := Lib.hid (HF7.out.below hb8)
  have hl8 : ys8.length = 0 := by have := congrArg List.length hm8; rw [List.length_map, HAB.out] at this; exact this
  obtain ⟨a8, c8, rfl, _⟩ := hf8
  rw [hl8]
  clear hb8 hm8 hl8 HB7 HF7 HAB
  go_wp2_with fail
  refine (worst_any _ xs w8 HF8.out (by omega)).mono ?_
  rintro e w9 ⟨rfl, hb9⟩
  rw [← HW.out]
  have HB9 := Lib.hid (HB8.out.trans (hb9.mono HB8.out.size))
  have HF9 := Lib.hid (HF8.out.below hb9)
  clear hb9 HB8 HF8
  go_wp2_with fail
  refine (openAll_any _ xs 1 w9 HF9.out (by omega)).mono ?_
  rintro e w10 ⟨v10, ys10, rfl, hf10, hm10, hlm, hb10⟩
  have HB10 := Lib.hid (HB9.out.trans (hb10.mono HB9.out.size))
  have HE : Hid (W = 0 ↔ ys10.length = 0) := Lib.hid (by
    rw [HZ.out, ← hm10]
    simp)
  obtain ⟨a10, c10, rfl, _⟩ := hf10
  clear hb10 hm10 HB9 HF9 HZ
  by_cases hw0 : W = 0
  · have hl10 : ys10.length = 0 := HE.out.1 hw0
    subst hw0
    rw [hl10]
    clear hl10
    go_wp2_with fail
    refine (awake27_any w10).mono ?_
    rintro e w11 ⟨rfl, hb11⟩
    have HB11 := Lib.hid (HB10.out.trans (hb11.mono HB10.out.size))
    clear hb11
    go_wp2
    go_ret
    exact ⟨rfl, HB11.out⟩
  · have hl10 : ¬ ys10.length = 0 := fun e => hw0 (HE.out.2 e)
    have hb1 : (W == 0) = false := by rw [beq_eq_false_iff_ne]; exact hw0
    have hb2 : ((ys10.length : Int) == 0) = false := by rw [beq_eq_false_iff_ne]; omega
    go_wp2_with fail
    refine (awake27_any w10).mono ?_
    rintro e w11 ⟨rfl, hb11⟩
    have HB11 := Lib.hid (HB10.out.trans (hb11.mono HB10.out.size))
    clear hb11
    go_wp2
    go_ret
    exact ⟨rfl, HB11.out⟩
end Go.Proofs.Ytoiabbhppbghdaa
