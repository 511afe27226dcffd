/-
  Walks: package version, numbers compared, keys of numbers, identifiers compared.
  Walks: lists compared.
  Walks: semantic versions compared.
-/
import Derived.Test.YtpjjkbdkgaehkaaGreatDoorV6
import Derived.Test.YtpjjkbdkgaehkaaGreatDoorD0
import Derived.Deep.RegionHeld3
namespace Go.Proofs.YtpjjkbdkgaehkaaGreatDoor
open Go.RowKit

set_option maxRecDepth 100000 in
set_option maxHeartbeats 400000 in
theorem numbers_any (s t : ByteArray) (w : World) :
    Calls Tryz.prog 196 #[.string s, .string t] w fun e w' => e = .returned (.int .i64 (V.numbers s.data.toList t.data.toList)) ∧ Below w.heap.size w w' := by
  have HF : Hid (V.numbers s.data.toList t.data.toList = V.orI [Lib.compareInt (V.value s.data.toList).length (V.value t.data.toList).length, Lib.compareBytes (V.value s.data.toList) (V.value t.data.toList)]) := Lib.hid (by
    unfold V.numbers V.orI V.orI V.orI V.cor; split <;> simp)
  go_enter Tryz.func196, Tryz.ntmps196
  go_wp2_with fail
  refine (value_any s _).mono ?_
  rintro e w' ⟨rfl, rfl⟩
  go_wp2_with fail
  refine (value_any t _).mono ?_
  rintro e w' ⟨rfl, rfl⟩
  generalize V.value s.data.toList = x at *
  generalize V.value t.data.toList = y at *
  go_wp2_with fail
  refine (Tryz.cmp_Compare_int _ _ _).mono ?_
  rintro e w' ⟨rfl, rfl⟩
  go_wp2_with fail
  refine (Tryz.strings_Compare _ _ _).mono ?_
  rintro e w' ⟨rfl, rfl⟩
  go_wp2_with fail
  generalize Lib.compareInt _ _ = p at *
  generalize Lib.compareBytes _ _ = q at *
  refine (or_any _ [p, q] _ (by simp) ?_).mono ?_
  · intro j hj
    rw [World.cell?_alloc_new]
    have : j = 0 ∨ j = 1 := by simp at hj; omega
    rcases this with rfl | rfl <;> rfl
  rintro e w' ⟨rfl, rfl⟩
  go_wp2
  go_ret
  exact ⟨ret_int HF.out.symm, (Below.refl _ _).alloc (Nat.le_refl _) _⟩

set_option maxRecDepth 100000 in
set_option maxHeartbeats 800000 in
theorem identifier_any (s t : ByteArray) (w : World) (hs : s.size ≤ maxLen) (ht : t.size ≤ maxLen) :
    Calls Tryz.prog 199 #[.string s, .string t] w fun e w' => e = .returned (.int .i64 (V.identC s.data.toList t.data.toList)) ∧ Below w.heap.size w w' := by
  have HF : Hid (V.identC s.data.toList t.data.toList = if V.digits s.data.toList && V.digits t.data.toList then V.numbers s.data.toList t.data.toList else if V.digits s.data.toList then -1 else if V.digits t.data.toList then 1 else Lib.compareBytes s.data.toList t.data.toList) := rfl
  rcases hx : V.digits s.data.toList with _ | _ <;> rcases hy : V.digits t.data.toList with _ | _
  all_goals
    have HX := Lib.hid hx
    have HY := Lib.hid hy
    clear hx hy
    rw [HX.out, HY.out] at HF
    go_enter Tryz.func199, Tryz.ntmps199
    go_wp2_with fail
    refine (only_digit s _ hs).mono ?_
    rintro e w' ⟨rfl, rfl⟩
    simp only [HX.out]
    go_wp2_with fail
    refine (only_digit t _ ht).mono ?_
    rintro e w' ⟨rfl, rfl⟩
    simp only [HY.out]
    go_wp2_with fail
  · refine (Tryz.strings_Compare _ _ _).mono ?_
    rintro e w' ⟨rfl, rfl⟩
    go_wp2
    go_ret
    exact ⟨ret_int HF.out.symm, Below.refl _ _⟩
  · go_ret
    exact ⟨ret_int HF.out.symm, Below.refl _ _⟩
  · go_ret
    exact ⟨ret_int HF.out.symm, Below.refl _ _⟩
  · refine (numbers_any _ _ _).mono ?_
    rintro e w' ⟨rfl, hb⟩
    go_wp2
    go_ret
    exact ⟨ret_int HF.out.symm, hb⟩
end Go.Proofs.YtpjjkbdkgaehkaaGreatDoor
namespace Go.Proofs.YtpjjkbdkgaehkaaGreatDoor
open Go.RowKit

theorem listCmp_skip {f : V.Bs → V.Bs → Int} : ∀ (k : Nat) (l1 l2 : List V.Bs), k ≤ l1.length → k ≤ l2.length → (∀ j, j < k → f (l1.getD j []) (l2.getD j []) = 0) → V.listCmp f l1 l2 = V.listCmp f (l1.drop k) (l2.drop k)
  | 0, _, _, _, _, _ => rfl
  | k + 1, [], _, h, _, _ => by simp at h
  | k + 1, _ :: _, [], _, h, _ => by simp at h
  | k + 1, a :: l1, b :: l2, h1, h2, h => by
    have h0 : f a b = 0 := h 0 (by omega)
    rw [V.listCmp, h0]
    exact listCmp_skip k l1 l2 (by simpa using h1) (by simpa using h2) (fun j hj => h (j + 1) (by omega))

theorem listCmp_hit {f : V.Bs → V.Bs → Int} (k : Nat) (l1 l2 : List V.Bs) (h1 : k < l1.length) (h2 : k < l2.length) (h : ∀ j, j < k → f (l1.getD j []) (l2.getD j []) = 0) (h0 : f (l1.getD k []) (l2.getD k []) ≠ 0) :
    V.listCmp f l1 l2 = f (l1.getD k []) (l2.getD k []) := by
  rw [listCmp_skip k l1 l2 (by omega) (by omega) h, List.drop_eq_getElem_cons h1, List.drop_eq_getElem_cons h2]
  have e1 : l1.getD k [] = l1[k] := by simp [List.getD, List.getElem?_eq_getElem h1]
  have e2 : l2.getD k [] = l2[k] := by simp [List.getD, List.getElem?_eq_getElem h2]
  rw [e1, e2] at h0 ⊢
  rw [V.listCmp, V.cor_ne h0]

theorem listCmp_left {f : V.Bs → V.Bs → Int} (k : Nat) (l1 l2 : List V.Bs) (h1 : k < l1.length) (h2 : l2.length = k) (h : ∀ j, j < k → f (l1.getD j []) (l2.getD j []) = 0) : V.listCmp f l1 l2 = 1 := by
  rw [listCmp_skip k l1 l2 (by omega) (by omega) h, List.drop_eq_getElem_cons h1, List.drop_of_length_le (l := l2) (by omega)]; rfl

theorem listCmp_right {f : V.Bs → V.Bs → Int} (k : Nat) (l1 l2 : List V.Bs) (h1 : l1.length = k) (h2 : k ≤ l2.length) (h : ∀ j, j < k → f (l1.getD j []) (l2.getD j []) = 0) : V.listCmp f l1 l2 = if k < l2.length then -1 else 0 := by
  rw [listCmp_skip k l1 l2 (by omega) (by omega) h, List.drop_of_length_le (by omega)]
  by_cases hlt : k < l2.length
  · rw [List.drop_eq_getElem_cons hlt, if_pos hlt]; rfl
  · rw [List.drop_of_length_le (by omega), if_neg hlt]; rfl

set_option maxRecDepth 100000 in
set_option maxHeartbeats 1600000 in
theorem compareFunc_any (v1 v2 : Value) (l1 l2 : List V.Bs) (K : Nat) (cap : Array Value) (f : V.Bs → V.Bs → Int) (w : World) (h1 : Strs w v1 l1) (h2 : Strs w v2 l2)
    (n1 : l1.length ≤ 2000) (_n2 : l2.length ≤ 2000) (m1 : ∀ x ∈ l1, x.length ≤ 1000) (m2 : ∀ x ∈ l2, x.length ≤ 1000)
    (eg : ∀ args w, (callFunc K args).run Tryz.prog w = .ok (.enter K args) w)
    (hK : ∀ (a b : V.Bs) W, a.length ≤ 1000 → b.length ≤ 1000 → Calls Tryz.prog K (#[.string ⟨a.toArray⟩, .string ⟨b.toArray⟩] ++ cap) W fun e w' => e = .returned (.int .i64 (f a b)) ∧ Below W.heap.size W w') :
    Calls Tryz.prog 198 #[v1, v2, .func (.func K) #[] cap] w fun e w' => e = .returned (.int .i64 (V.listCmp f l1 l2)) ∧ Below w.heap.size w w' := by
  obtain ⟨a1, c1, rfl, hc1⟩ := h1
  obtain ⟨a2, c2, rfl, hc2⟩ := h2
  have HK := Lib.hid hK
  have HC1 := Lib.hid hc1
  have HC2 := Lib.hid hc2
  have M1 := Lib.hid m1
  have M2 := Lib.hid m2
  clear hK hc1 hc2 m1 m2
  go_enter Tryz.func198, Tryz.ntmps198
  go_wp2
  go_loopw [13] (fun i wr => ∃ k : Nat, k ≤ l1.length ∧ k ≤ l2.length ∧ i = .int .i64 k ∧ (∀ j, j < k → f (l1.getD j []) (l2.getD j []) = 0) ∧ Below w.heap.size w wr) (fun i _ => l1.length - (intOf i).toNat)
  case atStart => exact ⟨0, Nat.zero_le _, Nat.zero_le _, rfl, fun j hj => by omega, Below.refl _ _⟩
  case round =>
    obtain ⟨k, hk1, hk2, rfl, hz, hB⟩ := hrel
    have HZ := Lib.hid hz
    have HB := Lib.hid hB
    clear hz hB
    by_cases hlt1 : k < l1.length
    · obtain ⟨b1, o1, ha1, hb1, hcell1⟩ := HC1.out k hlt1
      have hx1 := (HB.out.cell (p := ⟨b1, o1 + k, none⟩) hb1).trans hcell1
      rw [← getD_of hlt1] at hx1
      by_cases hlt2 : k < l2.length
      · obtain ⟨b2, o2, ha2, hb2, hcell2⟩ := HC2.out k hlt2
        have hx2 := (HB.out.cell (p := ⟨b2, o2 + k, none⟩) hb2).trans hcell2
        rw [← getD_of hlt2] at hx2
        have s1 := M1.out _ (List.getElem_mem hlt1)
        have s2 := M2.out _ (List.getElem_mem hlt2)
        rw [← getD_of hlt1] at s1
        rw [← getD_of hlt2] at s2
        have HIT := Lib.hid (listCmp_hit k l1 l2 hlt1 hlt2 HZ.out)
        have NEXT : Hid (f (l1.getD k []) (l2.getD k []) = 0 → ∀ j, j < k + 1 → f (l1.getD j []) (l2.getD j []) = 0) := Lib.hid (fun h0 j hj => by
          by_cases e : j = k
          · subst e; exact h0
          · exact HZ.out j (by omega))
        subst ha1
        subst ha2
        clear hcell1 hcell2
        generalize l1.getD k [] = x at *
        generalize l2.getD k [] = y at *
        go_wp2_with fail
        refine (HK.out x y _ s1 s2).mono ?_
        rintro e w1 ⟨rfl, hb⟩
        have HB1 := Lib.hid (HB.out.trans (hb.mono HB.out.size))
        clear hb
        by_cases h0 : f x y = 0
        · have HN := Lib.hid (NEXT.out h0)
          rw [h0]
          clear h0
          go_wp2
          go_roundw
          case rel => exact ⟨k + 1, by omega, by omega, by go_num, HN.out, HB1.out⟩
          case measure => simp [intOf]; omega
        · have HN := Lib.hid (HIT.out h0)
          have hb : (f x y != 0) = true := by simpa using h0
          generalize f x y = c at *
          clear h0
          go_wp2
          go_ret
          exact ⟨ret_int HN.out.symm, HB1.out⟩
      · have HN := Lib.hid (listCmp_left k l1 l2 hlt1 (by omega) HZ.out)
        subst ha1
        clear hcell1
        go_wp2
        go_ret
        exact ⟨ret_int HN.out.symm, HB.out⟩
    · have HN := Lib.hid (listCmp_right k l1 l2 (by omega) hk2 HZ.out)
      by_cases hlt2 : k < l2.length
      · rw [if_pos hlt2] at HN
        go_wp2
        go_ret
        exact ⟨ret_int HN.out.symm, HB.out⟩
      · rw [if_neg hlt2] at HN
        go_wp2
        go_ret
        exact ⟨ret_int HN.out.symm, HB.out⟩
end Go.Proofs.YtpjjkbdkgaehkaaGreatDoor
namespace Go.Proofs.YtpjjkbdkgaehkaaGreatDoor
open Go.RowKit

theorem identifier_for (a b : V.Bs) (W : World) (ha : a.length ≤ 1000) (hb : b.length ≤ 1000) : Calls Tryz.prog 199 (#[.string ⟨a.toArray⟩, .string ⟨b.toArray⟩] ++ #[]) W fun e w' => e = .returned (.int .i64 (V.identC a b)) ∧ Below W.heap.size W w' := by
  have h := identifier_any ⟨a.toArray⟩ ⟨b.toArray⟩ W (by show a.length ≤ _; unfold maxLen; omega) (by show b.length ≤ _; unfold maxLen; omega)
  simp only  at h
  exact h

theorem three_ints (w : World) (a b c : Int) (t : TypeId) : ∀ j, j < [a, b, c].length → (w.alloc (.cells #[.int .i64 a, .int .i64 b, .int .i64 c] t)).cell? ⟨w.heap.size, j, none⟩ = some (.int .i64 ([a, b, c].getD j 0)) := by
  intro j hj
  rw [World.cell?_alloc_new]
  have : j = 0 ∨ j = 1 ∨ j = 2 := by simp at hj; omega
  rcases this with rfl | rfl | rfl <;> rfl

theorem semParse_pre {s : V.Bs} {l pre : List V.Bs} (h : V.semParse s = some (l, pre)) : pre.length ≤ s.length + 1 ∧ ∀ x ∈ pre, x.length ≤ s.length := by
  unfold V.semParse at h
  split at h
  · cases h
  · split at h
    · simp only [Option.some.injEq, Prod.mk.injEq] at h
      obtain ⟨_, h⟩ := h
      have h1 := cut1_len 43 s
      have h2 := cut1_len 45 (V.cut1 43 s).1
      have h3 := splitOn_le 46 (V.cut1 45 (V.cut1 43 s).1).2.1
      split at h
      · subst h
        exact ⟨by omega, fun x hx => by have := splitOn_mem 46 _ x hx; omega⟩
      · subst h; simp
    · cases h

theorem keep_cell {W W' : World} {b o : Nat} {v : Value} (hb : Below W.heap.size W W') (h : W.cell? ⟨b, o, none⟩ = some v) : W'.cell? ⟨b, o, none⟩ = some v :=
  (hb.cell (p := ⟨b, o, none⟩) (World.block_lt_of_cell? _ _ h)).trans h

theorem semPost_at {r : Option (List V.Bs × List V.Bs)} {l pre : List V.Bs} {x0 x1 x2 : V.Bs} {w : World} {e : Ending} {w' : World} (h : SemPost r w e w') (hr : r = some (l, pre)) (h0 : l.getD 0 [] = x0) (h1 : l.getD 1 [] = x1) (h2 : l.getD 2 [] = x2) :
    ∃ a cap, e = .returned (.tuple #[.agg #[.string ⟨x0.toArray⟩, .string ⟨x1.toArray⟩, .string ⟨x2.toArray⟩, .slice a pre.length cap], .bool true]) ∧ Strs w' (.slice a pre.length cap) pre ∧ Below w.heap.size w w' := by
  subst h0 h1 h2
  obtain ⟨pv, rfl, hpv, hb⟩ := semPost_some h hr
  have hpv' := hpv
  obtain ⟨a, cap, rfl, hc⟩ := hpv
  exact ⟨a, cap, rfl, hpv', hb⟩

set_option maxRecDepth 100000 in
set_option maxHeartbeats 3200000 in
theorem semCompare_any (s t : ByteArray) (la pa lb pb : List V.Bs) (w : World) (hm : MaxOk w) (hs : s.size ≤ 1000) (ht : t.size ≤ 1000)
    (hp : V.semParse s.data.toList = some (la, pa)) (hq : V.semParse t.data.toList = some (lb, pb)) :
    Calls Tryz.prog 191 #[.agg #[], .string s, .string t] w fun e w' => e = .returned (.int .i64 (V.semCmp (la, pa) (lb, pb))) ∧ Below w.heap.size w w' := by
  obtain ⟨x0, hx0⟩ : ∃ x, la.getD 0 [] = x := ⟨_, rfl⟩
  obtain ⟨x1, hx1⟩ : ∃ x, la.getD 1 [] = x := ⟨_, rfl⟩
  obtain ⟨x2, hx2⟩ : ∃ x, la.getD 2 [] = x := ⟨_, rfl⟩
  obtain ⟨y0, hy0⟩ : ∃ x, lb.getD 0 [] = x := ⟨_, rfl⟩
  obtain ⟨y1, hy1⟩ : ∃ x, lb.getD 1 [] = x := ⟨_, rfl⟩
  obtain ⟨y2, hy2⟩ : ∃ x, lb.getD 2 [] = x := ⟨_, rfl⟩
  have HF : Hid (V.semCmp (la, pa) (lb, pb) = V.cor (V.orI [V.numbers x0 y0, V.numbers x1 y1, V.numbers x2 y2]) (V.preCmp pa pb)) := Lib.hid (by
    unfold V.semCmp; simp only [hx0, hx1, hx2, hy0, hy1, hy2])
  have hb0 : Below w.heap.size w (w.alloc (.cells #[] 163)) := (Below.refl _ w).alloc (Nat.le_refl _) _
  have hm0 := hm.below hb0
  have HP := Lib.hid hp
  have HQ := Lib.hid hq
  have HB0 := Lib.hid hb0
  have HX0 := Lib.hid hx0
  have HX1 := Lib.hid hx1
  have HX2 := Lib.hid hx2
  have HY0 := Lib.hid hy0
  have HY1 := Lib.hid hy1
  have HY2 := Lib.hid hy2
  clear hp hq hb0 hx0 hx1 hx2 hy0 hy1 hy2
  go_enter Tryz.func191, Tryz.ntmps191
  go_wp2_with fail
  refine (semParse_any s _ hm0 hs).mono ?_
  rintro e w1 h
  obtain ⟨a, cap, rfl, hsa, hb1⟩ := semPost_at h HP.out HX0.out HX1.out HX2.out
  have hB1 := HB0.out.trans (hb1.mono HB0.out.size)
  have HB1 := Lib.hid hB1
  have hm1 := hm.below hB1
  have HSA := Lib.hid hsa
  clear h hb1 hsa hB1
  go_wp2_with fail
  have hbc : Below w1.heap.size w1 (w1.alloc (.cells #[.string ⟨x0.toArray⟩, .string ⟨x1.toArray⟩, .string ⟨x2.toArray⟩, .slice a pa.length cap] 215)) := (Below.refl _ _).alloc (Nat.le_refl _) _
  refine (semParse_any t _ (hm1.below hbc) ht).mono ?_
  rintro e w2 h
  obtain ⟨a2, cap2, rfl, hsb, hb2⟩ := semPost_at h HQ.out HY0.out HY1.out HY2.out
  have hc2 : ∀ i, w2.cell? ⟨w1.heap.size, i, none⟩ = #[Value.string ⟨x0.toArray⟩, .string ⟨x1.toArray⟩, .string ⟨x2.toArray⟩, .slice a pa.length cap][i]? := carry_cell hb2 (by simp) (fun i => by rw [cell_alloc, if_pos rfl])
  have hB2 := hbc.trans (hb2.mono hbc.size)
  have hz2 : w1.heap.size < w2.heap.size := Nat.lt_of_lt_of_le (by simp) hb2.size
  have HSA2 := Lib.hid (HSA.out.below hB2)
  have HSB2 := Lib.hid hsb
  have HB2 := Lib.hid (HB1.out.trans (hB2.mono HB1.out.size))
  clear h hb2 hsb hbc hB2 HSA
  go_wp2_with fail
  obtain ⟨W3, hW3⟩ : ∃ W3, W3 = w2.alloc (.cells #[.string ⟨y0.toArray⟩, .string ⟨y1.toArray⟩, .string ⟨y2.toArray⟩, .slice a2 pb.length cap2] 215) := ⟨_, rfl⟩
  rw [← hW3]
  have hb3 : Below w2.heap.size w2 W3 := by rw [hW3]; exact (Below.refl _ _).alloc (Nat.le_refl _) _
  have e : ∀ i, W3.cell? ⟨w1.heap.size, i, none⟩ = #[Value.string ⟨x0.toArray⟩, .string ⟨x1.toArray⟩, .string ⟨x2.toArray⟩, .slice a pa.length cap][i]? := carry_cell hb3 hz2 hc2
  have g : ∀ i, W3.cell? ⟨w2.heap.size, i, none⟩ = #[Value.string ⟨y0.toArray⟩, .string ⟨y1.toArray⟩, .string ⟨y2.toArray⟩, .slice a2 pb.length cap2][i]? := fun i => by rw [hW3, cell_alloc, if_pos rfl]
  have e0 := e 0
  have e1 := e 1
  have e2 := e 2
  have e3 := e 3
  have g0 := g 0
  have g1 := g 1
  have g2 := g 2
  have g3 := g 3
  simp at e0 e1 e2 e3 g0 g1 g2 g3
  have HSA3 := Lib.hid (HSA2.out.below hb3)
  have HSB3 := Lib.hid (HSB2.out.below hb3)
  have HB3 := Lib.hid (HB2.out.trans (hb3.mono HB2.out.size))
  have hz3 : w2.heap.size < W3.heap.size := by rw [hW3]; simp
  have hz4 : w1.heap.size < W3.heap.size := by omega
  clear hW3 hb3 e g hc2 hm0 hm1 HSA2 HSB2 HB1 HB2 HB0
  go_region_held3 (fun W' => (W'.cell? ⟨w1.heap.size, 0, none⟩ = some (.string ⟨x0.toArray⟩) ∧ W'.cell? ⟨w1.heap.size, 1, none⟩ = some (.string ⟨x1.toArray⟩) ∧ W'.cell? ⟨w1.heap.size, 2, none⟩ = some (.string ⟨x2.toArray⟩) ∧
      W'.cell? ⟨w2.heap.size, 0, none⟩ = some (.string ⟨y0.toArray⟩) ∧ W'.cell? ⟨w2.heap.size, 1, none⟩ = some (.string ⟨y1.toArray⟩) ∧ W'.cell? ⟨w2.heap.size, 2, none⟩ = some (.string ⟨y2.toArray⟩)))
    (first
      | go_keep
      | (go_split_ands
         refine ⟨?_, ?_, ?_, ?_, ?_, ?_⟩ <;> (refine keep_cell hbq ?_; first | assumption | (simp only [World.cell?_drew]; assumption))))
    (first
      | (go_at_call 196; refine (numbers_any _ _ _).mono ?_; rintro e wq ⟨rfl, hbq⟩)
      | (go_at_call 195; refine (or_any _ [V.numbers x0 y0, V.numbers x1 y1, V.numbers x2 y2] _ (by simp) (three_ints _ _ _ _ _)).mono ?_; rintro e wq ⟨rfl, rfl⟩))
  rename_i wa hba wb hbb hS
  have hbx : Below W3.heap.size W3 wq := ((Below.refl W3.heap.size W3).drew).trans (Below.trans (show Below W3.heap.size W3.drew wa from hba) ((hbb.trans (hbq.mono hbb.size)).mono hba.size))
  obtain ⟨W4, hW4⟩ : ∃ W4, W4 = wq.alloc (.cells #[.int .i64 (V.numbers x0 y0), .int .i64 (V.numbers x1 y1), .int .i64 (V.numbers x2 y2)] 3) := ⟨_, rfl⟩
  rw [← hW4]
  have hb4 : Below W3.heap.size W3 W4 := hbx.trans (by rw [hW4]; exact ((Below.refl wq.heap.size wq).alloc (Nat.le_refl _) _).mono hbx.size)
  clear hba hbb hbq hbx hW4 hS
  have k3 := keep_cell hb4 e3
  have j3 := keep_cell hb4 g3
  have HSA4 := Lib.hid (HSA3.out.below hb4)
  have HSB4 := Lib.hid (HSB3.out.below hb4)
  have HB4 := Lib.hid (HB3.out.trans (hb4.mono HB3.out.size))
  clear e0 e1 e2 e3 g0 g1 g2 g3 hb4 HSA3 HSB3 HB3 hz2 hz3 hz4
  by_cases h0 : V.orI [V.numbers x0 y0, V.numbers x1 y1, V.numbers x2 y2] = 0
  · have HF2 : Hid (V.semCmp (la, pa) (lb, pb) = V.preCmp pa pb) := Lib.hid (by rw [HF.out, h0]; rfl)
    rw [h0]
    clear h0
    have hP : Hid (V.preCmp pa pb = if pa.isEmpty || pb.isEmpty then Lib.compareInt pb.length pa.length else V.listCmp V.identC pa pb) := rfl
    by_cases hpa : pa.length = 0
    · have HF3 : Hid (V.semCmp (la, pa) (lb, pb) = Lib.compareInt pb.length pa.length) := Lib.hid (by
        rw [HF2.out, hP.out, if_pos]; rw [List.eq_nil_of_length_eq_zero hpa]; rfl)
      have hbo : ((pa.length : Int) == 0) = true := by rw [hpa]; rfl
      clear hpa
      go_wp2_with fail
      refine (Tryz.cmp_Compare_int _ _ _).mono ?_
      rintro e wz ⟨rfl, rfl⟩
      go_wp2
      go_ret
      exact ⟨ret_int HF3.out.symm, HB4.out⟩
    · have hbo : ((pa.length : Int) == 0) = false := by rw [beq_eq_false_iff_ne]; omega
      by_cases hpb : pb.length = 0
      · have HF3 : Hid (V.semCmp (la, pa) (lb, pb) = Lib.compareInt pb.length pa.length) := Lib.hid (by
          rw [HF2.out, hP.out, if_pos]; rw [List.eq_nil_of_length_eq_zero hpb]; simp)
        have hbo2 : ((pb.length : Int) == 0) = true := by rw [hpb]; rfl
        clear hpa hpb
        go_wp2_with fail
        refine (Tryz.cmp_Compare_int _ _ _).mono ?_
        rintro e wz ⟨rfl, rfl⟩
        go_wp2
        go_ret
        exact ⟨ret_int HF3.out.symm, HB4.out⟩
      · have hbo2 : ((pb.length : Int) == 0) = false := by rw [beq_eq_false_iff_ne]; omega
        have HF3 : Hid (V.semCmp (la, pa) (lb, pb) = V.listCmp V.identC pa pb) := Lib.hid (by
          rw [HF2.out, hP.out, if_neg]
          cases pa <;> cases pb <;> simp at hpa hpb ⊢)
        clear hpa hpb
        go_wp2_with fail
        refine (compareFunc_any _ _ pa pb 199 #[] V.identC _ HSA4.out HSB4.out ?_ ?_ ?_ ?_ (enters_of Tryz.func199 (by kernel_rfl) rfl) (fun x y W hx hy => identifier_for x y W hx hy)).mono ?_
        · have := semParse_pre HP.out; rw [bs_size] at this; omega
        · have := semParse_pre HQ.out; rw [bs_size] at this; omega
        · intro x hx; have := (semParse_pre HP.out).2 x hx; rw [bs_size] at this; omega
        · intro x hx; have := (semParse_pre HQ.out).2 x hx; rw [bs_size] at this; omega
        rintro e wz ⟨rfl, hbz⟩
        have HB5 := Lib.hid (HB4.out.trans (hbz.mono HB4.out.size))
        clear hbz
        go_wp2
        go_ret
        exact ⟨ret_int HF3.out.symm, HB5.out⟩
  · have HF2 : Hid (V.semCmp (la, pa) (lb, pb) = V.orI [V.numbers x0 y0, V.numbers x1 y1, V.numbers x2 y2]) := Lib.hid (by rw [HF.out, V.cor_ne h0])
    have hb : (V.orI [V.numbers x0 y0, V.numbers x1 y1, V.numbers x2 y2] != 0) = true := by simpa using h0
    generalize V.orI [V.numbers x0 y0, V.numbers x1 y1, V.numbers x2 y2] = c at *
    clear h0
    go_wp2
    go_ret
    exact ⟨ret_int HF2.out.symm, HB4.out⟩
end Go.Proofs.YtpjjkbdkgaehkaaGreatDoor
