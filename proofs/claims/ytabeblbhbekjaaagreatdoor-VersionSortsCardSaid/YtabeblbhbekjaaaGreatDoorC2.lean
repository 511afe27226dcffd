/-
  Walks: semantic versions compared.
-/
import Derived.Test.YtabeblbhbekjaaaGreatDoorC1
import Derived.Deep.RegionHeld3
namespace Go.Proofs.YtabeblbhbekjaaaGreatDoor
open Go.RowKit

theorem identifier_for (a b : V.Bs) (W : World) (ha : a.length ≤ 1000) (hb : b.length ≤ 1000) : Calls Tryz.prog 99 (#[.string ⟨a.toArray⟩, .string ⟨b.toArray⟩] ++ #[]) W fun e w' => e = .returned (.int .i64 (V.identC a b)) ∧ Below W.heap.size W w' := by
  have h := identifier_any ⟨a.toArray⟩ ⟨b.toArray⟩ W (by show a.length ≤ _; unfold maxLen; omega) (by show b.length ≤ _; unfold maxLen; omega)
  simp only [arr_list] at h
  exact h

theorem three_ints (w : World) (a b c : Int) (t : TypeId) : ∀ j, j < [a, b, c].length → (w.alloc (.cells #[.int .i64 a, .int .i64 b, .int .i64 c] t)).cell? ⟨w.heap.size, j, none⟩ = some (.int .i64 ([a, b, c].getD j 0)) := by
  intro j hj
  rw [World.cell?_alloc_new]
  have : j = 0 ∨ j = 1 ∨ j = 2 := by simp at hj; omega
  rcases this with rfl | rfl | rfl <;> rfl

theorem semParse_pre {s : V.Bs} {l pre : List V.Bs} (h : V.semParse s = some (l, pre)) : pre.length ≤ s.length + 1 ∧ ∀ x ∈ pre, x.length ≤ s.length := by
  unfold V.semParse at h
  split at h
  · cases h
  · split at h
    · simp only [Option.some.injEq, Prod.mk.injEq] at h
      obtain ⟨_, h⟩ := h
      have h1 := cut1_len 43 s
      have h2 := cut1_len 45 (V.cut1 43 s).1
      have h3 := splitOn_le 46 (V.cut1 45 (V.cut1 43 s).1).2.1
      split at h
      · subst h
        exact ⟨by omega, fun x hx => by have := splitOn_mem 46 _ x hx; omega⟩
      · subst h; simp
    · cases h

theorem keep_cell {W W' : World} {b o : Nat} {v : Value} (hb : Below W.heap.size W W') (h : W.cell? ⟨b, o, none⟩ = some v) : W'.cell? ⟨b, o, none⟩ = some v :=
  (hb.cell (p := ⟨b, o, none⟩) (World.block_lt_of_cell? _ _ h)).trans h

theorem semPost_at {r : Option (List V.Bs × List V.Bs)} {l pre : List V.Bs} {x0 x1 x2 : V.Bs} {w : World} {e : Ending} {w' : World} (h : SemPost r w e w') (hr : r = some (l, pre)) (h0 : l.getD 0 [] = x0) (h1 : l.getD 1 [] = x1) (h2 : l.getD 2 [] = x2) :
    ∃ a cap, e = .returned (.tuple #[.agg #[.string ⟨x0.toArray⟩, .string ⟨x1.toArray⟩, .string ⟨x2.toArray⟩, .slice a pre.length cap], .bool true]) ∧ Strs w' (.slice a pre.length cap) pre ∧ Below w.heap.size w w' := by
  subst h0 h1 h2
  obtain ⟨pv, rfl, hpv, hb⟩ := semPost_some h hr
  have hpv' := hpv
  obtain ⟨a, cap, rfl, hc⟩ := hpv
  exact ⟨a, cap, rfl, hpv', hb⟩

set_option maxRecDepth 100000 in
set_option maxHeartbeats 3200000 in
theorem semCompare_any (s t : ByteArray) (la pa lb pb : List V.Bs) (w : World) (hm : MaxOk w) (hs : s.size ≤ 1000) (ht : t.size ≤ 1000)
    (hp : V.semParse s.data.toList = some (la, pa)) (hq : V.semParse t.data.toList = some (lb, pb)) :
    Calls Tryz.prog 91 #[.agg #[], .string s, .string t] w fun e w' => e = .returned (.int .i64 (V.semCmp (la, pa) (lb, pb))) ∧ Below w.heap.size w w' := by
  obtain ⟨x0, hx0⟩ : ∃ x, la.getD 0 [] = x := ⟨_, rfl⟩
  obtain ⟨x1, hx1⟩ : ∃ x, la.getD 1 [] = x := ⟨_, rfl⟩
  obtain ⟨x2, hx2⟩ : ∃ x, la.getD 2 [] = x := ⟨_, rfl⟩
  obtain ⟨y0, hy0⟩ : ∃ x, lb.getD 0 [] = x := ⟨_, rfl⟩
  obtain ⟨y1, hy1⟩ : ∃ x, lb.getD 1 [] = x := ⟨_, rfl⟩
  obtain ⟨y2, hy2⟩ : ∃ x, lb.getD 2 [] = x := ⟨_, rfl⟩
  have HF : Hid (V.semCmp (la, pa) (lb, pb) = V.cor (V.orI [V.numbers x0 y0, V.numbers x1 y1, V.numbers x2 y2]) (V.preCmp pa pb)) := Lib.hid (by
    unfold V.semCmp; simp only [hx0, hx1, hx2, hy0, hy1, hy2])
  have hb0 : Below w.heap.size w (w.alloc (.cells #[] 63)) := (Below.refl _ w).alloc (Nat.le_refl _) _
  have hm0 := hm.below hb0
  have HP := Lib.hid hp
  have HQ := Lib.hid hq
  have HB0 := Lib.hid hb0
  have HX0 := Lib.hid hx0
  have HX1 := Lib.hid hx1
  have HX2 := Lib.hid hx2
  have HY0 := Lib.hid hy0
  have HY1 := Lib.hid hy1
  have HY2 := Lib.hid hy2
  clear hp hq hb0 hx0 hx1 hx2 hy0 hy1 hy2
  go_enter Tryz.func91, Tryz.ntmps91
  go_wp2_with fail
  refine (semParse_any s _ hm0 hs).mono ?_
  rintro e w1 h
  obtain ⟨a, cap, rfl, hsa, hb1⟩ := semPost_at h HP.out HX0.out HX1.out HX2.out
  have hB1 := HB0.out.trans (hb1.mono HB0.out.size)
  have HB1 := Lib.hid hB1
  have hm1 := hm.below hB1
  have HSA := Lib.hid hsa
  clear h hb1 hsa hB1
  go_wp2_with fail
  have hbc : Below w1.heap.size w1 (w1.alloc (.cells #[.string ⟨x0.toArray⟩, .string ⟨x1.toArray⟩, .string ⟨x2.toArray⟩, .slice a pa.length cap] 108)) := (Below.refl _ _).alloc (Nat.le_refl _) _
  refine (semParse_any t _ (hm1.below hbc) ht).mono ?_
  rintro e w2 h
  obtain ⟨a2, cap2, rfl, hsb, hb2⟩ := semPost_at h HQ.out HY0.out HY1.out HY2.out
  have hc2 : ∀ i, w2.cell? ⟨w1.heap.size, i, none⟩ = #[Value.string ⟨x0.toArray⟩, .string ⟨x1.toArray⟩, .string ⟨x2.toArray⟩, .slice a pa.length cap][i]? := carry_cell hb2 (by simp) (fun i => by rw [cell_alloc, if_pos rfl])
  have hB2 := hbc.trans (hb2.mono hbc.size)
  have hz2 : w1.heap.size < w2.heap.size := Nat.lt_of_lt_of_le (by simp) hb2.size
  have HSA2 := Lib.hid (HSA.out.below hB2)
  have HSB2 := Lib.hid hsb
  have HB2 := Lib.hid (HB1.out.trans (hB2.mono HB1.out.size))
  clear h hb2 hsb hbc hB2 HSA
  go_wp2_with fail
  obtain ⟨W3, hW3⟩ : ∃ W3, W3 = w2.alloc (.cells #[.string ⟨y0.toArray⟩, .string ⟨y1.toArray⟩, .string ⟨y2.toArray⟩, .slice a2 pb.length cap2] 108) := ⟨_, rfl⟩
  rw [← hW3]
  have hb3 : Below w2.heap.size w2 W3 := by rw [hW3]; exact (Below.refl _ _).alloc (Nat.le_refl _) _
  have e : ∀ i, W3.cell? ⟨w1.heap.size, i, none⟩ = #[Value.string ⟨x0.toArray⟩, .string ⟨x1.toArray⟩, .string ⟨x2.toArray⟩, .slice a pa.length cap][i]? := carry_cell hb3 hz2 hc2
  have g : ∀ i, W3.cell? ⟨w2.heap.size, i, none⟩ = #[Value.string ⟨y0.toArray⟩, .string ⟨y1.toArray⟩, .string ⟨y2.toArray⟩, .slice a2 pb.length cap2][i]? := fun i => by rw [hW3, cell_alloc, if_pos rfl]
  have e0 := e 0
  have e1 := e 1
  have e2 := e 2
  have e3 := e 3
  have g0 := g 0
  have g1 := g 1
  have g2 := g 2
  have g3 := g 3
  simp at e0 e1 e2 e3 g0 g1 g2 g3
  have HSA3 := Lib.hid (HSA2.out.below hb3)
  have HSB3 := Lib.hid (HSB2.out.below hb3)
  have HB3 := Lib.hid (HB2.out.trans (hb3.mono HB2.out.size))
  have hz3 : w2.heap.size < W3.heap.size := by rw [hW3]; simp
  have hz4 : w1.heap.size < W3.heap.size := by omega
  clear hW3 hb3 e g hc2 hm0 hm1 HSA2 HSB2 HB1 HB2 HB0
  go_region_held3 (fun W' => (W'.cell? ⟨w1.heap.size, 0, none⟩ = some (.string ⟨x0.toArray⟩) ∧ W'.cell? ⟨w1.heap.size, 1, none⟩ = some (.string ⟨x1.toArray⟩) ∧ W'.cell? ⟨w1.heap.size, 2, none⟩ = some (.string ⟨x2.toArray⟩) ∧
      W'.cell? ⟨w2.heap.size, 0, none⟩ = some (.string ⟨y0.toArray⟩) ∧ W'.cell? ⟨w2.heap.size, 1, none⟩ = some (.string ⟨y1.toArray⟩) ∧ W'.cell? ⟨w2.heap.size, 2, none⟩ = some (.string ⟨y2.toArray⟩)))
    (first
      | go_keep
      | (go_split_ands
         refine ⟨?_, ?_, ?_, ?_, ?_, ?_⟩ <;> (refine keep_cell hbq ?_; first | assumption | (simp only [World.cell?_drew]; assumption))))
    (first
      | (go_at_call 96; refine (numbers_any _ _ _).mono ?_; rintro e wq ⟨rfl, hbq⟩)
      | (go_at_call 95; refine (or_any _ [V.numbers x0 y0, V.numbers x1 y1, V.numbers x2 y2] _ (by simp) (three_ints _ _ _ _ _)).mono ?_; rintro e wq ⟨rfl, rfl⟩))
  rename_i wa hba wb hbb hS
  have hbx : Below W3.heap.size W3 wq := ((Below.refl W3.heap.size W3).drew).trans (Below.trans (show Below W3.heap.size W3.drew wa from hba) ((hbb.trans (hbq.mono hbb.size)).mono hba.size))
  obtain ⟨W4, hW4⟩ : ∃ W4, W4 = wq.alloc (.cells #[.int .i64 (V.numbers x0 y0), .int .i64 (V.numbers x1 y1), .int .i64 (V.numbers x2 y2)] 3) := ⟨_, rfl⟩
  rw [← hW4]
  have hb4 : Below W3.heap.size W3 W4 := hbx.trans (by rw [hW4]; exact ((Below.refl wq.heap.size wq).alloc (Nat.le_refl _) _).mono hbx.size)
  clear hba hbb hbq hbx hW4 hS
  have k3 := keep_cell hb4 e3
  have j3 := keep_cell hb4 g3
  have HSA4 := Lib.hid (HSA3.out.below hb4)
  have HSB4 := Lib.hid (HSB3.out.below hb4)
  have HB4 := Lib.hid (HB3.out.trans (hb4.mono HB3.out.size))
  clear e0 e1 e2 e3 g0 g1 g2 g3 hb4 HSA3 HSB3 HB3 hz2 hz3 hz4
  by_cases h0 : V.orI [V.numbers x0 y0, V.numbers x1 y1, V.numbers x2 y2] = 0
  · have HF2 : Hid (V.semCmp (la, pa) (lb, pb) = V.preCmp pa pb) := Lib.hid (by rw [HF.out, h0]; rfl)
    rw [h0]
    clear h0
    have hP : Hid (V.preCmp pa pb = if pa.isEmpty || pb.isEmpty then Lib.compareInt pb.length pa.length else V.listCmp V.identC pa pb) := rfl
    by_cases hpa : pa.length = 0
    · have HF3 : Hid (V.semCmp (la, pa) (lb, pb) = Lib.compareInt pb.length pa.length) := Lib.hid (by
        rw [HF2.out, hP.out, if_pos]; rw [List.eq_nil_of_length_eq_zero hpa]; rfl)
      have hbo : ((pa.length : Int) == 0) = true := by rw [hpa]; rfl
      clear hpa
      go_wp2_with fail
      refine (Tryz.cmp_Compare_int _ _ _).mono ?_
      rintro e wz ⟨rfl, rfl⟩
      go_wp2
      go_ret
      exact ⟨ret_int HF3.out.symm, HB4.out⟩
    · have hbo : ((pa.length : Int) == 0) = false := by rw [beq_eq_false_iff_ne]; omega
      by_cases hpb : pb.length = 0
      · have HF3 : Hid (V.semCmp (la, pa) (lb, pb) = Lib.compareInt pb.length pa.length) := Lib.hid (by
          rw [HF2.out, hP.out, if_pos]; rw [List.eq_nil_of_length_eq_zero hpb]; simp)
        have hbo2 : ((pb.length : Int) == 0) = true := by rw [hpb]; rfl
        clear hpa hpb
        go_wp2_with fail
        refine (Tryz.cmp_Compare_int _ _ _).mono ?_
        rintro e wz ⟨rfl, rfl⟩
        go_wp2
        go_ret
        exact ⟨ret_int HF3.out.symm, HB4.out⟩
      · have hbo2 : ((pb.length : Int) == 0) = false := by rw [beq_eq_false_iff_ne]; omega
        have HF3 : Hid (V.semCmp (la, pa) (lb, pb) = V.listCmp V.identC pa pb) := Lib.hid (by
          rw [HF2.out, hP.out, if_neg]
          cases pa <;> cases pb <;> simp at hpa hpb ⊢)
        clear hpa hpb
        go_wp2_with fail
        refine (compareFunc_any _ _ pa pb 99 #[] V.identC _ HSA4.out HSB4.out ?_ ?_ ?_ ?_ (enters_of Tryz.func99 (by kernel_rfl) rfl) (fun x y W hx hy => identifier_for x y W hx hy)).mono ?_
        · have := semParse_pre HP.out; rw [bs_size] at this; omega
        · have := semParse_pre HQ.out; rw [bs_size] at this; omega
        · intro x hx; have := (semParse_pre HP.out).2 x hx; rw [bs_size] at this; omega
        · intro x hx; have := (semParse_pre HQ.out).2 x hx; rw [bs_size] at this; omega
        rintro e wz ⟨rfl, hbz⟩
        have HB5 := Lib.hid (HB4.out.trans (hbz.mono HB4.out.size))
        clear hbz
        go_wp2
        go_ret
        exact ⟨ret_int HF3.out.symm, HB5.out⟩
  · have HF2 : Hid (V.semCmp (la, pa) (lb, pb) = V.orI [V.numbers x0 y0, V.numbers x1 y1, V.numbers x2 y2]) := Lib.hid (by rw [HF.out, V.cor_ne h0])
    have hb : (V.orI [V.numbers x0 y0, V.numbers x1 y1, V.numbers x2 y2] != 0) = true := by simpa using h0
    generalize V.orI [V.numbers x0 y0, V.numbers x1 y1, V.numbers x2 y2] = c at *
    clear h0
    go_wp2
    go_ret
    exact ⟨ret_int HF2.out.symm, HB4.out⟩
end Go.Proofs.YtabeblbhbekjaaaGreatDoor
