/-
  Lemmas for the law.
-/
import Derived.Test.YtiloljoancdcbaaGreatDoorC40x05
import Derived.Test.YtiloljoancdcbaaGreatDoorC40x01
import Derived.Test.YtiloljoancdcbaaGreatDoorC40x03
import Derived.Deep.RegionHeld3
set_option linter.all false
set_option maxRecDepth 100000
set_option maxHeartbeats 3200000
namespace Go.Proofs.YtiloljoancdcbaaGreatDoor
open Go.RowKit
theorem zou {r : Option (List V.Bs × List V.Bs)} {w : World} {e : Ending} {w' : World} (h : zjf r w e w') (hr : r = none) :
  e = .returned (.tuple #[.agg #[.string ⟨#[]⟩, .string ⟨#[]⟩, .string ⟨#[]⟩, .slice none 0 0], .bool false]) /\ Below w.heap.size w w' := by
 subst hr; exact ⟨h.2, h.1⟩
theorem zf9 {r : Option (List V.Bs × List V.Bs)} {l pre : List V.Bs} {w : World} {e : Ending} {w' : World} (h : zjf r w e w') (hr : r = some (l, pre)) :
  ∃ pv, e = .returned (.tuple #[.agg #[.string ⟨(l.getD 0 []).toArray⟩, .string ⟨(l.getD 1 []).toArray⟩, .string ⟨(l.getD 2 []).toArray⟩, pv], .bool true]) /\ Strs w' pv pre /\ Below w.heap.size w w' := by
 subst hr; obtain ⟨h1, pv, h2, h3⟩ := h; exact ⟨pv, h3, h2, h1⟩
theorem zzi {P : Prop} (h : P := by
 have HB1 := zvr HB0 hb1
 clear h hb1
 go_wp2
 go_ret
 refine ⟨zc rfl, ?_⟩
 exact (HB1.out.alloc HB1.out.size _)) : P := h
theorem zoq (s : ByteArray) (w : World) (hm : zg w) (hs : s.size ≤ 1000) :
  Calls Tryz.prog 211 #[.agg #[], .string s] w fun e w' => e = .returned (.bool (V.zo s.data.toList).isSome) /\ Below w.heap.size w w' := by
 have hb0 : Below w.heap.size w (w.alloc (.cells #[] 175)) := (zvt _ w).alloc (zvs _) _
 have hm0 := hm.below hb0
 rcases hp : V.zo s.data.toList with _ | ⟨l, pre⟩
 ·have HP := zvq hp
  have HB0 := zvq hb0
  clear hp hb0
  go_enter Tryz.func211, Tryz.ntmps211
  go_wp2_with fail
  refine (zbd s _ hm0 hs).mono ?_
  rintro e w1 h
  obtain ⟨rfl, hb1⟩ := zou h HP.out
  exact zzi
 ·have HP := zvq hp
  have HB0 := zvq hb0
  clear hp hb0
  go_enter Tryz.func211, Tryz.ntmps211
  go_wp2_with fail
  refine (zbd s _ hm0 hs).mono ?_
  rintro e w1 h
  obtain ⟨pv, rfl, hpv, hb1⟩ := zf9 h HP.out
  obtain ⟨a, cap, rfl, hc⟩ := hpv
  have HB1 := zvr HB0 hb1
  clear h hb1 hc
  go_wp2
  go_ret
  refine ⟨zc rfl, ?_⟩
  exact (HB1.out.alloc HB1.out.size _)
theorem ke {l : List V.Bs} {k : Nat} (h : k < l.length) : l.getD k [] = l[k] := by simp [List.getD, List.getElem?_eq_getElem h]
theorem z09 {P : Prop} (h : P := by
 intro j hj
 rw [World.cell?_alloc_new]
 have : j = 0 ∨ j = 1 := by simp at hj; omega
 rcases this with rfl | rfl <;> rfl) : P := h
theorem zah (s t : ByteArray) (w : World) :
  Calls Tryz.prog 213 #[.string s, .string t] w fun e w' => e = .returned (.int .i64 (V.numbers s.data.toList t.data.toList)) /\ Below w.heap.size w w' := by
 have HF : Hid (V.numbers s.data.toList t.data.toList = V.orI [Lib.compareInt (V.value s.data.toList).length (V.value t.data.toList).length, Lib.compareBytes (V.value s.data.toList) (V.value t.data.toList)]) := zvq (by
   unfold V.numbers V.orI V.orI V.orI V.cor; split <;> simp)
 go_enter Tryz.func213, Tryz.ntmps213
 go_wp2_with fail
 refine (zhn s _).mono ?_
 rintro e w' ⟨rfl, rfl⟩
 go_wp2_with fail
 refine (zhn t _).mono ?_
 rintro e w' ⟨rfl, rfl⟩
 generalize V.value s.data.toList = x at *
 generalize V.value t.data.toList = y at *
 go_wp2_with fail
 refine (Tryz.cmp_Compare_int _ _ _).mono ?_
 rintro e w' ⟨rfl, rfl⟩
 go_wp2_with fail
 refine (Tryz.strings_Compare _ _ _).mono ?_
 rintro e w' ⟨rfl, rfl⟩
 go_wp2_with fail
 generalize Lib.compareInt _ _ = p at *
 generalize Lib.compareBytes _ _ = q at *
 refine (zoy _ [p, q] _ (by simp) ?_).mono ?_
 ·exact z09
 rintro e w' ⟨rfl, rfl⟩
 go_wp2
 go_ret
 exact ⟨zn HF.out.symm, (zvt _ _).alloc (zvs _) _⟩
theorem zj4 (s t : ByteArray) (w : World) (hs : s.size ≤ maxLen) (ht : t.size ≤ maxLen) :
  Calls Tryz.prog 215 #[.string s, .string t] w fun e w' => e = .returned (.int .i64 (V.ki s.data.toList t.data.toList)) /\ Below w.heap.size w w' := by
 have HF : Hid (V.ki s.data.toList t.data.toList = if V.digits s.data.toList && V.digits t.data.toList then V.numbers s.data.toList t.data.toList else if V.digits s.data.toList then -1 else if V.digits t.data.toList then 1 else Lib.compareBytes s.data.toList t.data.toList) := rfl
 rcases hx : V.digits s.data.toList with _ | _ <;> rcases hy : V.digits t.data.toList with _ | _
 all_goals
  have HX := zvq hx
  have HY := zvq hy
  clear hx hy
  rw [HX.out, HY.out] at HF
  go_enter Tryz.func215, Tryz.ntmps215
  go_wp2_with fail
  refine (yp s _ hs).mono ?_
  rintro e w' ⟨rfl, rfl⟩
  simp only [HX.out]
  go_wp2_with fail
  refine (yp t _ ht).mono ?_
  rintro e w' ⟨rfl, rfl⟩
  simp only [HY.out]
  go_wp2_with fail
 ·refine (Tryz.strings_Compare _ _ _).mono ?_
  rintro e w' ⟨rfl, rfl⟩
  go_wp2
  go_ret
  exact ⟨zn HF.out.symm, zvt _ _⟩
 ·go_ret
  exact ⟨zn HF.out.symm, zvt _ _⟩
 ·go_ret
  exact ⟨zn HF.out.symm, zvt _ _⟩
 ·refine (zah _ _ _).mono ?_
  rintro e w' ⟨rfl, hb⟩
  go_wp2
  go_ret
  exact ⟨zn HF.out.symm, hb⟩
open Go.RowKit
theorem za2 {f : V.Bs -> V.Bs -> Int} : ∀ (k : Nat) (l1 l2 : List V.Bs), k ≤ l1.length -> k ≤ l2.length -> (∀ j, j < k -> f (l1.getD j []) (l2.getD j []) = 0) -> V.ji f l1 l2 = V.ji f (l1.drop k) (l2.drop k)
 | 0, _, _, _, _, _ => rfl
 | k + 1, [], _, h, _, _ => by simp at h
 | k + 1, _ :: _, [], _, h, _ => by simp at h
 | k + 1, a :: l1, b :: l2, h1, h2, h => by
  have h0 : f a b = 0 := h 0 (by omega)
  rw [V.ji, h0]
  exact za2 k l1 l2 (by simpa using h1) (by simpa using h2) (fun j hj => h (j + 1) (by omega))
theorem zio {f : V.Bs -> V.Bs -> Int} (k : Nat) (l1 l2 : List V.Bs) (h1 : k < l1.length) (h2 : k < l2.length) (h : ∀ j, j < k -> f (l1.getD j []) (l2.getD j []) = 0) (h0 : f (l1.getD k []) (l2.getD k []) ≠ 0) :
  V.ji f l1 l2 = f (l1.getD k []) (l2.getD k []) := by
 rw [za2 k l1 l2 (by omega) (by omega) h, List.drop_eq_getElem_cons h1, List.drop_eq_getElem_cons h2]
 have e1 : l1.getD k [] = l1[k] := by simp [List.getD, List.getElem?_eq_getElem h1]
 have e2 : l2.getD k [] = l2[k] := by simp [List.getD, List.getElem?_eq_getElem h2]
 rw [e1, e2] at h0 ⊢
 rw [V.ji, V.kh h0]
theorem zf8 {f : V.Bs -> V.Bs -> Int} (k : Nat) (l1 l2 : List V.Bs) (h1 : k < l1.length) (h2 : l2.length = k) (h : ∀ j, j < k -> f (l1.getD j []) (l2.getD j []) = 0) : V.ji f l1 l2 = 1 := by
 rw [za2 k l1 l2 (by omega) (by omega) h, List.drop_eq_getElem_cons h1, List.drop_of_length_le (l := l2) (by omega)]; rfl
theorem zfg {f : V.Bs -> V.Bs -> Int} (k : Nat) (l1 l2 : List V.Bs) (h1 : l1.length = k) (h2 : k ≤ l2.length) (h : ∀ j, j < k -> f (l1.getD j []) (l2.getD j []) = 0) : V.ji f l1 l2 = if k < l2.length then -1 else 0 := by
 rw [za2 k l1 l2 (by omega) (by omega) h, List.drop_of_length_le (by omega)]
 by_cases hlt : k < l2.length
 ·rw [List.drop_eq_getElem_cons hlt, if_pos hlt]; rfl
 ·rw [List.drop_of_length_le (by omega), if_neg hlt]; rfl
theorem zdh (v1 v2 : Value) (l1 l2 : List V.Bs) (K : Nat) (cap : Array Value) (f : V.Bs -> V.Bs -> Int) (w : World) (h1 : Strs w v1 l1) (h2 : Strs w v2 l2)
  (n1 : l1.length ≤ 2000) (_n2 : l2.length ≤ 2000) (m1 : ∀ x ∈ l1, x.length ≤ 1000) (m2 : ∀ x ∈ l2, x.length ≤ 1000)
  (eg : ∀ args w, (callFunc K args).run Tryz.prog w = .ok (.enter K args) w)
  (hK : ∀ (a b : V.Bs) W, a.length ≤ 1000 -> b.length ≤ 1000 -> Calls Tryz.prog K (#[.string ⟨a.toArray⟩, .string ⟨b.toArray⟩] ++ cap) W fun e w' => e = .returned (.int .i64 (f a b)) /\ Below W.heap.size W w') :
  Calls Tryz.prog 214 #[v1, v2, .func (.func K) #[] cap] w fun e w' => e = .returned (.int .i64 (V.ji f l1 l2)) /\ Below w.heap.size w w' := by
 obtain ⟨a1, c1, rfl, hc1⟩ := h1
 obtain ⟨a2, c2, rfl, hc2⟩ := h2
 have HK := zvq hK
 have HC1 := zvq hc1
 have HC2 := zvq hc2
 have M1 := zvq m1
 have M2 := zvq m2
 clear hK hc1 hc2 m1 m2
 go_enter Tryz.func214, Tryz.ntmps214
 go_wp2
 go_loopw [13] (fun i wr => ∃ k : Nat, k ≤ l1.length /\ k ≤ l2.length /\ i = .int .i64 k /\ (∀ j, j < k -> f (l1.getD j []) (l2.getD j []) = 0) /\ Below w.heap.size w wr) (fun i _ => l1.length - (intOf i).toNat)
 case atStart => exact ⟨0, Nat.zero_le _, Nat.zero_le _, rfl, fun j hj => by omega, zvt _ _⟩
 case round =>
  obtain ⟨k, hk1, hk2, rfl, hz, hB⟩ := hrel
  have HZ := zvq hz
  have HB := zvq hB
  clear hz hB
  by_cases hlt1 : k < l1.length
  ·obtain ⟨b1, o1, ha1, hb1, hcell1⟩ := HC1.out k hlt1
   have hx1 := (HB.out.cell (p := ⟨b1, o1 + k, none⟩) hb1).trans hcell1
   rw [← ke hlt1] at hx1
   by_cases hlt2 : k < l2.length
   ·obtain ⟨b2, o2, ha2, hb2, hcell2⟩ := HC2.out k hlt2
    have hx2 := (HB.out.cell (p := ⟨b2, o2 + k, none⟩) hb2).trans hcell2
    rw [← ke hlt2] at hx2
    have s1 := M1.out _ (List.getElem_mem hlt1)
    have s2 := M2.out _ (List.getElem_mem hlt2)
    rw [← ke hlt1] at s1
    rw [← ke hlt2] at s2
    have HIT := zvq (zio k l1 l2 hlt1 hlt2 HZ.out)
    have NEXT : Hid (f (l1.getD k []) (l2.getD k []) = 0 -> ∀ j, j < k + 1 -> f (l1.getD j []) (l2.getD j []) = 0) := zvq (fun h0 j hj => by
      by_cases e : j = k
      · subst e; exact h0
      · exact HZ.out j (by omega))
    subst ha1
    subst ha2
    clear hcell1 hcell2
    generalize l1.getD k [] = x at *
    generalize l2.getD k [] = y at *
    go_wp2_with fail
    refine (HK.out x y _ s1 s2).mono ?_
    rintro e w1 ⟨rfl, hb⟩
    have HB1 := zvr HB hb
    clear hb
    by_cases h0 : f x y = 0
    ·have HN := zvq (NEXT.out h0)
     rw [h0]
     clear h0
     go_wp2
     go_roundw
     case rel => exact ⟨k + 1, by omega, by omega, by go_num, HN.out, HB1.out⟩
     case measure => simp [intOf]; omega
    ·have HN := zvq (HIT.out h0)
     have hb : (f x y != 0) = true := by simpa using h0
     generalize f x y = c at *
     clear h0
     go_wp2
     go_ret
     exact ⟨zn HN.out.symm, HB1.out⟩
   ·have HN := zvq (zf8 k l1 l2 hlt1 (by omega) HZ.out)
    subst ha1
    clear hcell1
    go_wp2
    go_ret
    exact ⟨zn HN.out.symm, HB.out⟩
  ·have HN := zvq (zfg k l1 l2 (by omega) hk2 HZ.out)
   by_cases hlt2 : k < l2.length
   ·rw [if_pos hlt2] at HN
    go_wp2
    go_ret
    exact ⟨zn HN.out.symm, HB.out⟩
   ·rw [if_neg hlt2] at HN
    go_wp2
    go_ret
    exact ⟨zn HN.out.symm, HB.out⟩
theorem zll (a b : V.Bs) (W : World) (ha : a.length ≤ 1000) (hb : b.length ≤ 1000) : Calls Tryz.prog 215 (#[.string ⟨a.toArray⟩, .string ⟨b.toArray⟩] ++ #[]) W fun e w' => e = .returned (.int .i64 (V.ki a b)) /\ Below W.heap.size W w' := by
 have h := zj4 ⟨a.toArray⟩ ⟨b.toArray⟩ W (by show a.length ≤ _; unfold maxLen; omega) (by show b.length ≤ _; unfold maxLen; omega)
 simp only  at h
 exact h
theorem zk5 (w : World) (a b c : Int) (t : TypeId) : ∀ j, j < [a, b, c].length -> (w.alloc (.cells #[.int .i64 a, .int .i64 b, .int .i64 c] t)).cell? ⟨w.heap.size, j, none⟩ = some (.int .i64 ([a, b, c].getD j 0)) := by
 intro j hj
 rw [World.cell?_alloc_new]
 have : j = 0 ∨ j = 1 ∨ j = 2 := by simp at hj; omega
 rcases this with rfl | rfl | rfl <;> rfl
theorem za1 {s : V.Bs} {l pre : List V.Bs} (h : V.zo s = some (l, pre)) : pre.length ≤ s.length + 1 /\ ∀ x ∈ pre, x.length ≤ s.length := by
 unfold V.zo at h
 split at h
 ·cases h
 ·split at h
  ·simp only [Option.some.injEq, Prod.mk.injEq] at h
   obtain ⟨_, h⟩ := h
   have h1 := uh 43 s
   have h2 := uh 45 (V.cut1 43 s).1
   have h3 := jm 46 (V.cut1 45 (V.cut1 43 s).1).2.1
   split at h
   ·subst h
    exact ⟨by omega, fun x hx => by have := kb 46 _ x hx; omega⟩
   ·subst h; simp
  ·cases h
theorem zei {W W' : World} {b o : Nat} {v : Value} (hb : Below W.heap.size W W') (h : W.cell? ⟨b, o, none⟩ = some v) : W'.cell? ⟨b, o, none⟩ = some v :=
 (hb.cell (p := ⟨b, o, none⟩) (World.block_lt_of_cell? _ _ h)).trans h
theorem zlv {r : Option (List V.Bs × List V.Bs)} {l pre : List V.Bs} {x0 x1 x2 : V.Bs} {w : World} {e : Ending} {w' : World} (h : zjf r w e w') (hr : r = some (l, pre)) (h0 : l.getD 0 [] = x0) (h1 : l.getD 1 [] = x1) (h2 : l.getD 2 [] = x2) :
  ∃ a cap, e = .returned (.tuple #[.agg #[.string ⟨x0.toArray⟩, .string ⟨x1.toArray⟩, .string ⟨x2.toArray⟩, .slice a pre.length cap], .bool true]) /\ Strs w' (.slice a pre.length cap) pre /\ Below w.heap.size w w' := by
 subst h0 h1 h2
 obtain ⟨pv, rfl, hpv, hb⟩ := zf9 h hr
 have hpv' := hpv
 obtain ⟨a, cap, rfl, hc⟩ := hpv
 exact ⟨a, cap, rfl, hpv', hb⟩
theorem z0j {P : Prop} (h : P := by
 go_wp2_with fail
 refine (Tryz.cmp_Compare_int _ _ _).mono ?_
 rintro e wz ⟨rfl, rfl⟩
 go_wp2
 go_ret
 exact ⟨zn HF3.out.symm, HB4.out⟩) : P := h
theorem zju (s t : ByteArray) (la pa lb pb : List V.Bs) (w : World) (hm : zg w) (hs : s.size ≤ 1000) (ht : t.size ≤ 1000)
  (hp : V.zo s.data.toList = some (la, pa)) (hq : V.zo t.data.toList = some (lb, pb)) :
  Calls Tryz.prog 209 #[.agg #[], .string s, .string t] w fun e w' => e = .returned (.int .i64 (V.jq (la, pa) (lb, pb))) /\ Below w.heap.size w w' := by
 obtain ⟨x0, hx0⟩ : ∃ x, la.getD 0 [] = x := ⟨_, rfl⟩
 obtain ⟨x1, hx1⟩ : ∃ x, la.getD 1 [] = x := ⟨_, rfl⟩
 obtain ⟨x2, hx2⟩ : ∃ x, la.getD 2 [] = x := ⟨_, rfl⟩
 obtain ⟨y0, hy0⟩ : ∃ x, lb.getD 0 [] = x := ⟨_, rfl⟩
 obtain ⟨y1, hy1⟩ : ∃ x, lb.getD 1 [] = x := ⟨_, rfl⟩
 obtain ⟨y2, hy2⟩ : ∃ x, lb.getD 2 [] = x := ⟨_, rfl⟩
 have HF : Hid (V.jq (la, pa) (lb, pb) = V.cor (V.orI [V.numbers x0 y0, V.numbers x1 y1, V.numbers x2 y2]) (V.zdd pa pb)) := zvq (by
   unfold V.jq; simp only [hx0, hx1, hx2, hy0, hy1, hy2])
 have hb0 : Below w.heap.size w (w.alloc (.cells #[] 175)) := (zvt _ w).alloc (zvs _) _
 have hm0 := hm.below hb0
 have HP := zvq hp
 have HQ := zvq hq
 have HB0 := zvq hb0
 have HX0 := zvq hx0
 have HX1 := zvq hx1
 have HX2 := zvq hx2
 have HY0 := zvq hy0
 have HY1 := zvq hy1
 have HY2 := zvq hy2
 clear hp hq hb0 hx0 hx1 hx2 hy0 hy1 hy2
 go_enter Tryz.func209, Tryz.ntmps209
 go_wp2_with fail
 refine (zbd s _ hm0 hs).mono ?_
 rintro e w1 h
 obtain ⟨a, cap, rfl, hsa, hb1⟩ := zlv h HP.out HX0.out HX1.out HX2.out
 have hB1 := HB0.out.trans (hb1.mono HB0.out.size)
 have HB1 := zvq hB1
 have hm1 := hm.below hB1
 have HSA := zvq hsa
 clear h hb1 hsa hB1
 go_wp2_with fail
 have hbc : Below w1.heap.size w1 (w1.alloc (.cells #[.string ⟨x0.toArray⟩, .string ⟨x1.toArray⟩, .string ⟨x2.toArray⟩, .slice a pa.length cap] 228)) := (zvt _ _).alloc (zvs _) _
 refine (zbd t _ (hm1.below hbc) ht).mono ?_
 rintro e w2 h
 obtain ⟨a2, cap2, rfl, hsb, hb2⟩ := zlv h HQ.out HY0.out HY1.out HY2.out
 have hc2 : ∀ i, w2.cell? ⟨w1.heap.size, i, none⟩ = #[Value.string ⟨x0.toArray⟩, .string ⟨x1.toArray⟩, .string ⟨x2.toArray⟩, .slice a pa.length cap][i]? := je hb2 (by simp) (fun i => by rw [ze, if_pos rfl])
 have hB2 := hbc.trans (hb2.mono hbc.size)
 have hz2 : w1.heap.size < w2.heap.size := Nat.lt_of_lt_of_le (by simp) hb2.size
 have HSA2 := zvq (HSA.out.below hB2)
 have HSB2 := zvq hsb
 have HB2 := zvr HB1 hB2
 clear h hb2 hsb hbc hB2 HSA
 go_wp2_with fail
 obtain ⟨W3, hW3⟩ : ∃ W3, W3 = w2.alloc (.cells #[.string ⟨y0.toArray⟩, .string ⟨y1.toArray⟩, .string ⟨y2.toArray⟩, .slice a2 pb.length cap2] 228) := ⟨_, rfl⟩
 rw [← hW3]
 have hb3 : Below w2.heap.size w2 W3 := by rw [hW3]; exact (zvt _ _).alloc (zvs _) _
 have e : ∀ i, W3.cell? ⟨w1.heap.size, i, none⟩ = #[Value.string ⟨x0.toArray⟩, .string ⟨x1.toArray⟩, .string ⟨x2.toArray⟩, .slice a pa.length cap][i]? := je hb3 hz2 hc2
 have g : ∀ i, W3.cell? ⟨w2.heap.size, i, none⟩ = #[Value.string ⟨y0.toArray⟩, .string ⟨y1.toArray⟩, .string ⟨y2.toArray⟩, .slice a2 pb.length cap2][i]? := fun i => by rw [hW3, ze, if_pos rfl]
 have e0 := e 0
 have e1 := e 1
 have e2 := e 2
 have e3 := e 3
 have g0 := g 0
 have g1 := g 1
 have g2 := g 2
 have g3 := g 3
 simp at e0 e1 e2 e3 g0 g1 g2 g3
 have HSA3 := zvq (HSA2.out.below hb3)
 have HSB3 := zvq (HSB2.out.below hb3)
 have HB3 := zvr HB2 hb3
 have hz3 : w2.heap.size < W3.heap.size := by rw [hW3]; simp
 have hz4 : w1.heap.size < W3.heap.size := by omega
 clear hW3 hb3 e g hc2 hm0 hm1 HSA2 HSB2 HB1 HB2 HB0
 go_region_held3 (fun W' => (W'.cell? ⟨w1.heap.size, 0, none⟩ = some (.string ⟨x0.toArray⟩) /\ W'.cell? ⟨w1.heap.size, 1, none⟩ = some (.string ⟨x1.toArray⟩) /\ W'.cell? ⟨w1.heap.size, 2, none⟩ = some (.string ⟨x2.toArray⟩) /\
     W'.cell? ⟨w2.heap.size, 0, none⟩ = some (.string ⟨y0.toArray⟩) /\ W'.cell? ⟨w2.heap.size, 1, none⟩ = some (.string ⟨y1.toArray⟩) /\ W'.cell? ⟨w2.heap.size, 2, none⟩ = some (.string ⟨y2.toArray⟩)))
  (first
    | go_keep
    | (go_split_ands
       refine ⟨?_, ?_, ?_, ?_, ?_, ?_⟩ <;> (refine zei hbq ?_; first | assumption | (simp only [World.cell?_drew]; assumption))))
  (first
    | (go_at_call 213; refine (zah _ _ _).mono ?_; rintro e wq ⟨rfl, hbq⟩)
    | (go_at_call 59; refine (zoy _ [V.numbers x0 y0, V.numbers x1 y1, V.numbers x2 y2] _ (by simp) (zk5 _ _ _ _ _)).mono ?_; rintro e wq ⟨rfl, rfl⟩))
 rename_i wa hba wb hbb hS
 have hbx : Below W3.heap.size W3 wq := ((zvt W3.heap.size W3).drew).trans (Below.trans (show Below W3.heap.size W3.drew wa from hba) ((hbb.trans (hbq.mono hbb.size)).mono hba.size))
 obtain ⟨W4, hW4⟩ : ∃ W4, W4 = wq.alloc (.cells #[.int .i64 (V.numbers x0 y0), .int .i64 (V.numbers x1 y1), .int .i64 (V.numbers x2 y2)] 3) := ⟨_, rfl⟩
 rw [← hW4]
 have hb4 : Below W3.heap.size W3 W4 := hbx.trans (by rw [hW4]; exact ((zvt wq.heap.size wq).alloc (zvs _) _).mono hbx.size)
 clear hba hbb hbq hbx hW4 hS
 have k3 := zei hb4 e3
 have j3 := zei hb4 g3
 have HSA4 := zvq (HSA3.out.below hb4)
 have HSB4 := zvq (HSB3.out.below hb4)
 have HB4 := zvr HB3 hb4
 clear e0 e1 e2 e3 g0 g1 g2 g3 hb4 HSA3 HSB3 HB3 hz2 hz3 hz4
 by_cases h0 : V.orI [V.numbers x0 y0, V.numbers x1 y1, V.numbers x2 y2] = 0
 ·have HF2 : Hid (V.jq (la, pa) (lb, pb) = V.zdd pa pb) := zvq (by rw [HF.out, h0]; rfl)
  rw [h0]
  clear h0
  have hP : Hid (V.zdd pa pb = if pa.isEmpty || pb.isEmpty then Lib.compareInt pb.length pa.length else V.ji V.ki pa pb) := rfl
  by_cases hpa : pa.length = 0
  ·have HF3 : Hid (V.jq (la, pa) (lb, pb) = Lib.compareInt pb.length pa.length) := zvq (by
     rw [HF2.out, hP.out, if_pos]; rw [List.eq_nil_of_length_eq_zero hpa]; rfl)
   have hbo : ((pa.length : Int) == 0) = true := by rw [hpa]; rfl
   clear hpa
   exact z0j
  ·have hbo : ((pa.length : Int) == 0) = false := by rw [zvu]; omega
   by_cases hpb : pb.length = 0
   ·have HF3 : Hid (V.jq (la, pa) (lb, pb) = Lib.compareInt pb.length pa.length) := zvq (by
      rw [HF2.out, hP.out, if_pos]; rw [List.eq_nil_of_length_eq_zero hpb]; simp)
    have hbo2 : ((pb.length : Int) == 0) = true := by rw [hpb]; rfl
    clear hpa hpb
    exact z0j
   ·have hbo2 : ((pb.length : Int) == 0) = false := by rw [zvu]; omega
    have HF3 : Hid (V.jq (la, pa) (lb, pb) = V.ji V.ki pa pb) := zvq (by
      rw [HF2.out, hP.out, if_neg]
      cases pa <;> cases pb <;> simp at hpa hpb ⊢)
    clear hpa hpb
    go_wp2_with fail
    refine (zdh _ _ pa pb 215 #[] V.ki _ HSA4.out HSB4.out ?_ ?_ ?_ ?_ (enters_of Tryz.func215 (by kernel_rfl) rfl) (fun x y W hx hy => zll x y W hx hy)).mono ?_
    ·have := za1 HP.out; rw [zf] at this; omega
    ·have := za1 HQ.out; rw [zf] at this; omega
    ·intro x hx; have := (za1 HP.out).2 x hx; rw [zf] at this; omega
    ·intro x hx; have := (za1 HQ.out).2 x hx; rw [zf] at this; omega
    rintro e wz ⟨rfl, hbz⟩
    have HB5 := zvr HB4 hbz
    clear hbz
    go_wp2
    go_ret
    exact ⟨zn HF3.out.symm, HB5.out⟩
 ·have HF2 : Hid (V.jq (la, pa) (lb, pb) = V.orI [V.numbers x0 y0, V.numbers x1 y1, V.numbers x2 y2]) := zvq (by rw [HF.out, V.kh h0])
  have hb : (V.orI [V.numbers x0 y0, V.numbers x1 y1, V.numbers x2 y2] != 0) = true := by simpa using h0
  generalize V.orI [V.numbers x0 y0, V.numbers x1 y1, V.numbers x2 y2] = c at *
  clear h0
  go_wp2
  go_ret
  exact ⟨zn HF2.out.symm, HB4.out⟩
open Go.RowKit
theorem zj9 {s : ByteArray} {k : Nat} : (s.extract 0 k).data.toList = s.data.toList.take k := by
 rw [Lib.extract_data]; simp
theorem zxp {P : Prop} (h : P := by
 go_region
 all_goals
  go_wp2
  go_ret2
  exact ⟨by rw [HF.out.1, HF.out.2]; rfl, by first | exact zvt _ _ | exact (zvt _ _).drew⟩) : P := h
theorem zzf {P : Prop} (h : P := by
 go_round
 case rel => exact ⟨k + 1, by omega, by go_num, by rw [HT.out, HP.out, HE.out]; show (true && (V.digB s[k].toNat == false)) = true; rw [HD.out]; rfl⟩
 case measure => simp [intOf]; omega) : P := h
theorem zzg {P : Prop} (h : P := by
 go_round
 case rel => exact ⟨k + 1, by omega, by go_num, by rw [HT.out, HP.out, HE.out]; show (true && (V.digB s[k].toNat == true)) = true; rw [HD.out]; rfl⟩
 case measure => simp [intOf]; omega) : P := h
theorem z1g {P : Prop} (h : P := by
 refine zvq ⟨jj ?_, jj ?_⟩
 ·rw [zj9, this.1]; simp [V.zu]
 ·rw [Lib.extract_to_end, this.2]; simp [V.zu]) : P := h
theorem zgn (s : ByteArray) (d : Bool) (w : World) (hs : s.size ≤ maxLen) :
  Calls Tryz.prog 243 #[.string s, .bool d] w fun e w' => e = .returned (.tuple #[.string ⟨(V.zu s.data.toList d).1.toArray⟩, .string ⟨(V.zu s.data.toList d).2.toArray⟩]) /\ Below w.heap.size w w' := by
 unfold maxLen at hs
 go_enter Tryz.func243, Tryz.ntmps243
 go_wp2
 go_loop [6] (fun i => ∃ k : Nat, k ≤ s.size /\ i = .int .i64 k /\ (s.data.toList.take k).all (fun c => V.dig c == d) = true) (fun i => s.size - (intOf i).toNat)
 case atStart => exact ⟨0, Nat.zero_le _, rfl, rfl⟩
 case round =>
  obtain ⟨k, hk, rfl, hp⟩ := hrel
  have HP := zvq hp
  clear hp
  have fin : (k = s.size ∨ ∃ h : k < s.size, (V.digB s[k].toNat == d) = false) -> Hid (s.extract 0 k = ⟨(V.zu s.data.toList d).1.toArray⟩ /\ s.extract k s.size = ⟨(V.zu s.data.toList d).2.toArray⟩) := fun h => by
   have := V.zti s.data.toList (fun c => V.dig c == d) k (by rw [zf]; exact hk) HP.out (by
     rcases h with h | ⟨h, h2⟩
     · left; rw [zf]; exact h
     · right
       have e : s.data.toList[k]'(by rw [zf]; exact h) = s[k] := by simp; rfl
       exact ⟨by rw [zf]; exact h, by rw [e]; exact h2⟩)
   exact z1g
  have FIN := zvq fin
  clear fin
  by_cases hlt : k < s.size
  ·have hl : k < s.data.toList.length := by rw [zf]; exact hlt
   have HT := zvq (V.zcs (p := fun c => V.dig c == d) hl)
   have HE : Hid (s.data.toList[k] = s[k]) := zvq (by simp; rfl)
   rcases hD : V.digB s[k].toNat with _ | _ <;> cases d
   all_goals
    have HD := zvq hD
    clear hD
    go_wp2_with fail
    refine (zaa _ _).mono ?_
    rintro e w' ⟨rfl, rfl⟩
    simp only [HD.out]
    go_wp2
   ·exact zzf
   ·have HF := FIN.out (.inr ⟨hlt, by rw [HD.out]; rfl⟩)
    exact zxp
   ·have HF := FIN.out (.inr ⟨hlt, by rw [HD.out]; rfl⟩)
    exact zxp
   ·exact zzg
  ·have HF := FIN.out (.inl (by omega))
   go_wp2
   exact zxp
theorem or128 (c : UInt8) : bits .or .u8 (c.toNat : Int) 128 = ((c ||| 128).toNat : Int) := by
 have h : ∀ n : Fin 256, bits .or .u8 ((n.val : Nat) : Int) 128 = (((n.val ||| 128 : Nat)) : Int) := by decide +kernel
 have := h ⟨c.toNat, c.toNat_lt⟩
 rw [this, UInt8.toNat_or]; rfl
theorem ztx {s : ByteArray} {i : Nat} (h : i < s.size) : s.data.toList.getD i 0 = s[i] := by
 have : i < s.data.toList.length := by rw [zf]; exact h
 simp [List.getD, List.getElem?_eq_getElem this]; rfl
theorem z0t {P : Prop} (h : P := by
 go_enter Tryz.func245, Tryz.ntmps245
 go_wp2
 go_ret
 exact ⟨zn HW.out.symm, rfl⟩) : P := h
theorem z1k {P : Prop} (h : P := by
 rw [zvu]; intro e; apply h1; rw [← UInt8.toNat_inj]
 have : s[i].toNat = 126 := by omega
 rw [this]; rfl) : P := h
theorem zk2 (s : ByteArray) (i : Nat) (w : World) (_hs : s.size ≤ maxLen) (_hi : i ≤ maxLen) :
  Calls Tryz.prog 245 #[.string s, .int .i64 i] w fun e w' => e = .returned (.int .u8 (V.wt s.data.toList i)) /\ w = w' := by
 unfold maxLen at _hs _hi
 by_cases hlt : i < s.size
 ·have HG := zvq (ztx hlt)
  by_cases h1 : s[i] = 126
  ·have HW : Hid (V.wt s.data.toList i = 1) := zvq (by unfold V.wt; rw [if_neg (by rw [zf]; omega), HG.out, if_pos h1])
   have hb : ((s[i].toNat : Int) == 126) = true := by rw [h1]; rfl
   clear h1
   exact z0t
  ·have hb : ((s[i].toNat : Int) == 126) = false := by
    exact z1k
   rcases hL : V.letB s[i].toNat with _ | _
   ·have HW : Hid (V.wt s.data.toList i = (s[i] ||| 128).toNat) := zvq (by
      unfold V.wt; rw [if_neg (by rw [zf]; omega), HG.out, if_neg h1, if_neg]
      unfold V.lett; rw [hL]; simp)
    have HL := zvq hL
    clear hL h1
    go_enter Tryz.func245, Tryz.ntmps245
    go_wp2_with fail
    refine (zdc _ _).mono ?_
    rintro e w' ⟨rfl, rfl⟩
    simp only [HL.out]
    go_wp2
    go_ret
    refine ⟨?_, rfl⟩
    rw [HW.out, ← or128]
    rfl
   ·have HW : Hid (V.wt s.data.toList i = s[i].toNat) := zvq (by
      unfold V.wt; rw [if_neg (by rw [zf]; omega), HG.out, if_neg h1, if_pos]
      unfold V.lett; rw [hL])
    have HL := zvq hL
    clear hL h1
    go_enter Tryz.func245, Tryz.ntmps245
    go_wp2_with fail
    refine (zdc _ _).mono ?_
    rintro e w' ⟨rfl, rfl⟩
    simp only [HL.out]
    go_wp2
    go_ret
    exact ⟨zn HW.out.symm, rfl⟩
 ·have HW : Hid (V.wt s.data.toList i = 2) := zvq (by unfold V.wt; rw [if_pos (by rw [zf]; omega)])
  exact z0t
theorem zqx (x : Int) (w : World) :
  Calls Tryz.prog 246 #[.int .u8 x] w fun e w' => e = .returned (.bool false) /\ w = w' := by
 have h : (x != x) = false := by simp
 go_enter Tryz.func246, Tryz.ntmps246
 go_wp2
 go_ret
 exact ⟨zc (by simp), rfl⟩
theorem zqt (x y : Int) (w : World) :
  Calls Tryz.prog 244 #[.int .u8 x, .int .u8 y] w fun e w' => e = .returned (.int .i64 (Lib.compareInt x y)) /\ w = w' := by
 go_enter Tryz.func244, Tryz.ntmps244
 go_wp2_with (go_at_call 246; refine (zqx _ _).mono ?_; rintro e w' ⟨rfl, rfl⟩)
 all_goals go_ret
 all_goals exact ⟨zn (by unfold Lib.compareInt; (repeat' split) <;> omega), rfl⟩
theorem zi5 (c : UInt8) (n : Nat) (h : n < 256) : decide (c = UInt8.ofNat n) = ((c.toNat : Int) == (n : Int)) := by
 rw [Bool.eq_iff_iff]
 simp only [decide_eq_true_eq, beq_iff_eq]
 rw [← UInt8.toNat_inj, UInt8.toNat_ofNat']
 have : n % 2 ^ 8 = n := Nat.mod_eq_of_lt h
 rw [this]; omega
theorem kind3 (c : UInt8) : V.kind V.allow c = (V.letB c.toNat || V.digB c.toNat || ((c.toNat : Int) == 46) || ((c.toNat : Int) == 43) || ((c.toNat : Int) == 126)) := by
 unfold V.kind V.lett V.dig V.allow
 have h1 := zi5 c 46 (by omega)
 have h2 := zi5 c 43 (by omega)
 have h3 := zi5 c 126 (by omega)
 have e : decide (c ∈ [46, 43, 126]) = (decide (c = UInt8.ofNat 46) || decide (c = UInt8.ofNat 43) || decide (c = UInt8.ofNat 126)) := by
  rw [Bool.eq_iff_iff]; simp; rw [or_assoc]
 rw [e, h1, h2, h3]
 simp [Bool.or_assoc]
theorem kind4 (c : UInt8) : V.kind [46, 43, 126, 45] c = (V.kind V.allow c || ((c.toNat : Int) == 45)) := by
 have h1 := zi5 c 45 (by omega)
 have e : ((c.toNat : Int) == 45) = decide (c = UInt8.ofNat 45) := h1.symm
 rw [e]
 unfold V.kind V.allow
 rw [Bool.eq_iff_iff]; simp; constructor
 ·rintro (h | h | h | h | h)
  ·exact .inl (.inl h)
  ·exact .inl (.inr (.inl h))
  ·exact .inl (.inr (.inr (.inl h)))
  ·exact .inl (.inr (.inr (.inr h)))
  ·exact .inr h
 ·rintro ((h | h | h | h) | h)
  ·exact .inl h
  ·exact .inr (.inl h)
  ·exact .inr (.inr (.inl h))
  ·exact .inr (.inr (.inr (.inl h)))
  ·exact .inr (.inr (.inr (.inr h)))
theorem ziq (c : UInt8) (w : World) :
  Calls Tryz.prog 240 #[.int .u8 c.toNat] w fun e w' => e = .returned (.bool (V.kind V.allow c)) /\ w = w' := by
 have HK := zvq (kind3 c)
 generalize hn : (c.toNat : Int) = x at *
 clear hn
 rcases hD : V.digB x with _ | _
 ·have HD := zvq hD
  rcases hL : V.letB x with _ | _
  all_goals
   have HL := zvq hL
   rw [hD, hL] at HK
   clear hD hL
   go_enter Tryz.func240, Tryz.ntmps240
   go_wp2_with fail
   refine (zaa _ _).mono ?_
   rintro e w' ⟨rfl, rfl⟩
   simp only [HD.out]
   go_wp2_with fail
   refine (zdc _ _).mono ?_
   rintro e w' ⟨rfl, rfl⟩
   simp only [HL.out]
   go_wp2
   all_goals
    go_ret
    exact ⟨zc (by rw [HK.out]; simp_all), rfl⟩
 ·have HD := zvq hD
  rw [hD] at HK
  clear hD
  go_enter Tryz.func240, Tryz.ntmps240
  exact z0d
theorem zpj (s : ByteArray) (w : World) (hs : s.size ≤ maxLen) :
  Calls Tryz.prog 219 #[.string s, .func (.func 240) #[] #[]] w fun e w' => e = .returned (.bool (V.only (V.kind V.allow) s.data.toList)) /\ w = w' :=
 zgs s _ #[] (V.kind V.allow) w hs (enters_of Tryz.func240 (by kernel_rfl) rfl) (fun c => ziq c w)
theorem zpt (c : UInt8) (q : Nat) (w : World) (hq : w.cell? ⟨q, 0, none⟩ = some (.func (.func 240) #[] #[])) :
  Calls Tryz.prog 242 #[.int .u8 c.toNat, .pointer (some ⟨q, 0, none⟩)] w fun e w' => e = .returned (.bool (V.kind [46, 43, 126, 45] c)) /\ w = w' := by
 have HK := zvq (kind4 c)
 rcases hA : V.kind V.allow c with _ | _
 all_goals
  have HA := zvq hA
  rw [hA] at HK
  clear hA
  go_enter Tryz.func242, Tryz.ntmps242
  go_wp2_with fail
  refine (ziq _ _).mono ?_
  rintro e w' ⟨rfl, rfl⟩
  simp only [HA.out]
  go_wp2
  go_ret
  exact ⟨zc (by rw [HK.out]; simp), rfl⟩
theorem zfe (s : ByteArray) (q : Nat) (w : World) (hs : s.size ≤ maxLen) (hq : w.cell? ⟨q, 0, none⟩ = some (.func (.func 240) #[] #[])) :
  Calls Tryz.prog 219 #[.string s, .func (.func 242) #[] #[.pointer (some ⟨q, 0, none⟩)]] w fun e w' => e = .returned (.bool (V.only (V.kind [46, 43, 126, 45]) s.data.toList)) /\ w = w' :=
 zgs s _ #[.pointer (some ⟨q, 0, none⟩)] (V.kind [46, 43, 126, 45]) w hs (enters_of Tryz.func242 (by kernel_rfl) rfl) (fun c => zpt c q w hq)
end Go.Proofs.YtiloljoancdcbaaGreatDoor
