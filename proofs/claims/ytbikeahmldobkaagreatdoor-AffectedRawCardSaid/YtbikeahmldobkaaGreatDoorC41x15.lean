/-
  Lemmas for the law.
-/
import Derived.Test.YtbikeahmldobkaaGreatDoorC41x08
import Derived.Test.YtbikeahmldobkaaGreatDoorC41x12
import Derived.Test.YtbikeahmldobkaaGreatDoorC41x04
import Derived.Test.YtbikeahmldobkaaGreatDoorC41x01
import Derived.Deep.RegionHeld3
set_option linter.all false
set_option maxRecDepth 100000
set_option maxHeartbeats 3200000
namespace Go.Proofs.YtbikeahmldobkaaGreatDoor
open Go.RowKit
theorem yj {f : V.Bs -> V.Bs -> Int} : ∀ (k : Nat) (l1 l2 : List V.Bs), k ≤ l1.length -> k ≤ l2.length -> (∀ j, j < k -> f (l1.getD j []) (l2.getD j []) = 0) -> V.qm f l1 l2 = V.qm f (l1.drop k) (l2.drop k)
 | 0, _, _, _, _, _ => rfl
 | k + 1, [], _, h, _, _ => by simp at h
 | k + 1, _ :: _, [], _, h, _ => by simp at h
 | k + 1, a :: l1, b :: l2, h1, h2, h => by
  have h0 : f a b = 0 := h 0 (by omega)
  rw [V.qm, h0]
  exact yj k l1 l2 (by simpa using h1) (by simpa using h2) (fun j hj => h (j + 1) (by omega))
theorem zdu {f : V.Bs -> V.Bs -> Int} (k : Nat) (l1 l2 : List V.Bs) (h1 : k < l1.length) (h2 : k < l2.length) (h : ∀ j, j < k -> f (l1.getD j []) (l2.getD j []) = 0) (h0 : f (l1.getD k []) (l2.getD k []) ≠ 0) :
  V.qm f l1 l2 = f (l1.getD k []) (l2.getD k []) := by
 rw [yj k l1 l2 (by omega) (by omega) h, List.drop_eq_getElem_cons h1, List.drop_eq_getElem_cons h2]
 have e1 : l1.getD k [] = l1[k] := by simp [List.getD, List.getElem?_eq_getElem h1]
 have e2 : l2.getD k [] = l2[k] := by simp [List.getD, List.getElem?_eq_getElem h2]
 rw [e1, e2] at h0 ⊢
 rw [V.qm, V.jb h0]
theorem zca {f : V.Bs -> V.Bs -> Int} (k : Nat) (l1 l2 : List V.Bs) (h1 : k < l1.length) (h2 : l2.length = k) (h : ∀ j, j < k -> f (l1.getD j []) (l2.getD j []) = 0) : V.qm f l1 l2 = 1 := by
 rw [yj k l1 l2 (by omega) (by omega) h, List.drop_eq_getElem_cons h1, List.drop_of_length_le (l := l2) (by omega)]; rfl
theorem zbq {f : V.Bs -> V.Bs -> Int} (k : Nat) (l1 l2 : List V.Bs) (h1 : l1.length = k) (h2 : k ≤ l2.length) (h : ∀ j, j < k -> f (l1.getD j []) (l2.getD j []) = 0) : V.qm f l1 l2 = if k < l2.length then -1 else 0 := by
 rw [yj k l1 l2 (by omega) (by omega) h, List.drop_of_length_le (by omega)]
 by_cases hlt : k < l2.length
 ·rw [List.drop_eq_getElem_cons hlt, if_pos hlt]; rfl
 ·rw [List.drop_of_length_le (by omega), if_neg hlt]; rfl
theorem wu (v1 v2 : Value) (l1 l2 : List V.Bs) (K : Nat) (cap : Array Value) (f : V.Bs -> V.Bs -> Int) (w : World) (h1 : Strs w v1 l1) (h2 : Strs w v2 l2)
  (n1 : l1.length ≤ 2000) (_n2 : l2.length ≤ 2000) (m1 : ∀ x ∈ l1, x.length ≤ 1000) (m2 : ∀ x ∈ l2, x.length ≤ 1000)
  (eg : ∀ args w, (callFunc K args).run Tryz.prog w = .ok (.enter K args) w)
  (hK : ∀ (a b : V.Bs) W, a.length ≤ 1000 -> b.length ≤ 1000 -> Calls Tryz.prog K (#[.string ⟨a.toArray⟩, .string ⟨b.toArray⟩] ++ cap) W fun e w' => e = .returned (.int .i64 (f a b)) /\ Below W.heap.size W w') :
  Calls Tryz.prog 230 #[v1, v2, .func (.func K) #[] cap] w fun e w' => e = .returned (.int .i64 (V.qm f l1 l2)) /\ Below w.heap.size w w' := by
 obtain ⟨a1, c1, rfl, hc1⟩ := h1
 obtain ⟨a2, c2, rfl, hc2⟩ := h2
 have HK := zpa hK
 have HC1 := zpa hc1
 have HC2 := zpa hc2
 have M1 := zpa m1
 have M2 := zpa m2
 clear hK hc1 hc2 m1 m2
 go_enter Tryz.func230, Tryz.ntmps230
 go_wp2
 go_loopw [13] (fun i wr => ∃ k : Nat, k ≤ l1.length /\ k ≤ l2.length /\ i = .int .i64 k /\ (∀ j, j < k -> f (l1.getD j []) (l2.getD j []) = 0) /\ Below w.heap.size w wr) (fun i _ => l1.length - (intOf i).toNat)
 case atStart => exact ⟨0, Nat.zero_le _, Nat.zero_le _, rfl, fun j hj => by omega, zpd _ _⟩
 case round =>
  obtain ⟨k, hk1, hk2, rfl, hz, hB⟩ := hrel
  have HZ := zpa hz
  have HB := zpa hB
  clear hz hB
  by_cases hlt1 : k < l1.length
  ·obtain ⟨b1, o1, ha1, hb1, hcell1⟩ := HC1.out k hlt1
   have hx1 := (HB.out.cell (p := ⟨b1, o1 + k, none⟩) hb1).trans hcell1
   rw [← qw hlt1] at hx1
   by_cases hlt2 : k < l2.length
   ·obtain ⟨b2, o2, ha2, hb2, hcell2⟩ := HC2.out k hlt2
    have hx2 := (HB.out.cell (p := ⟨b2, o2 + k, none⟩) hb2).trans hcell2
    rw [← qw hlt2] at hx2
    have s1 := M1.out _ (List.getElem_mem hlt1)
    have s2 := M2.out _ (List.getElem_mem hlt2)
    rw [← qw hlt1] at s1
    rw [← qw hlt2] at s2
    have HIT := zpa (zdu k l1 l2 hlt1 hlt2 HZ.out)
    have NEXT : Hid (f (l1.getD k []) (l2.getD k []) = 0 -> ∀ j, j < k + 1 -> f (l1.getD j []) (l2.getD j []) = 0) := zpa (fun h0 j hj => by
      by_cases e : j = k
      · subst e; exact h0
      · exact HZ.out j (by omega))
    subst ha1
    subst ha2
    clear hcell1 hcell2
    generalize l1.getD k [] = x at *
    generalize l2.getD k [] = y at *
    go_wp2_with fail
    refine (HK.out x y _ s1 s2).mono ?_
    rintro e w1 ⟨rfl, hb⟩
    have HB1 := zpb HB hb
    clear hb
    by_cases h0 : f x y = 0
    ·have HN := zpa (NEXT.out h0)
     rw [h0]
     clear h0
     go_wp2
     go_roundw
     case rel => exact ⟨k + 1, by omega, by omega, by go_num, HN.out, HB1.out⟩
     case measure => simp [intOf]; omega
    ·have HN := zpa (HIT.out h0)
     have hb : (f x y != 0) = true := by simpa using h0
     generalize f x y = c at *
     clear h0
     go_wp2
     go_ret
     exact ⟨zn HN.out.symm, HB1.out⟩
   ·have HN := zpa (zca k l1 l2 hlt1 (by omega) HZ.out)
    subst ha1
    clear hcell1
    go_wp2
    go_ret
    exact ⟨zn HN.out.symm, HB.out⟩
  ·have HN := zpa (zbq k l1 l2 (by omega) hk2 HZ.out)
   by_cases hlt2 : k < l2.length
   ·rw [if_pos hlt2] at HN
    go_wp2
    go_ret
    exact ⟨zn HN.out.symm, HB.out⟩
   ·rw [if_neg hlt2] at HN
    go_wp2
    go_ret
    exact ⟨zn HN.out.symm, HB.out⟩
theorem zfx (a b : V.Bs) (W : World) (ha : a.length ≤ 1000) (hb : b.length ≤ 1000) : Calls Tryz.prog 231 (#[.string ⟨a.toArray⟩, .string ⟨b.toArray⟩] ++ #[]) W fun e w' => e = .returned (.int .i64 (V.jc a b)) /\ Below W.heap.size W w' := by
 have h := zez ⟨a.toArray⟩ ⟨b.toArray⟩ W (by show a.length ≤ _; unfold maxLen; omega) (by show b.length ≤ _; unfold maxLen; omega)
 simp only  at h
 exact h
theorem zfm (w : World) (a b c : Int) (t : TypeId) : ∀ j, j < [a, b, c].length -> (w.alloc (.cells #[.int .i64 a, .int .i64 b, .int .i64 c] t)).cell? ⟨w.heap.size, j, none⟩ = some (.int .i64 ([a, b, c].getD j 0)) := by
 intro j hj
 rw [World.cell?_alloc_new]
 have : j = 0 ∨ j = 1 ∨ j = 2 := by simp at hj; omega
 rcases this with rfl | rfl | rfl <;> rfl
theorem yi {s : V.Bs} {l pre : List V.Bs} (h : V.zl s = some (l, pre)) : pre.length ≤ s.length + 1 /\ ∀ x ∈ pre, x.length ≤ s.length := by
 unfold V.zl at h
 split at h
 ·cases h
 ·split at h
  ·simp only [Option.some.injEq, Prod.mk.injEq] at h
   obtain ⟨_, h⟩ := h
   have h1 := km 43 s
   have h2 := km 45 (V.cut1 43 s).1
   have h3 := qy 46 (V.cut1 45 (V.cut1 43 s).1).2.1
   split at h
   ·subst h
    exact ⟨by omega, fun x hx => by have := ji 46 _ x hx; omega⟩
   ·subst h; simp
  ·cases h
theorem za2 {W W' : World} {b o : Nat} {v : Value} (hb : Below W.heap.size W W') (h : W.cell? ⟨b, o, none⟩ = some v) : W'.cell? ⟨b, o, none⟩ = some v :=
 (hb.cell (p := ⟨b, o, none⟩) (World.block_lt_of_cell? _ _ h)).trans h
theorem zf6 {r : Option (List V.Bs × List V.Bs)} {l pre : List V.Bs} {x0 x1 x2 : V.Bs} {w : World} {e : Ending} {w' : World} (h : zei r w e w') (hr : r = some (l, pre)) (h0 : l.getD 0 [] = x0) (h1 : l.getD 1 [] = x1) (h2 : l.getD 2 [] = x2) :
  ∃ a cap, e = .returned (.tuple #[.agg #[.string ⟨x0.toArray⟩, .string ⟨x1.toArray⟩, .string ⟨x2.toArray⟩, .slice a pre.length cap], .bool true]) /\ Strs w' (.slice a pre.length cap) pre /\ Below w.heap.size w w' := by
 subst h0 h1 h2
 obtain ⟨pv, rfl, hpv, hb⟩ := zcb h hr
 have hpv' := hpv
 obtain ⟨a, cap, rfl, hc⟩ := hpv
 exact ⟨a, cap, rfl, hpv', hb⟩
theorem zrr {P : Prop} (h : P := by
 go_wp2_with fail
 refine (Tryz.cmp_Compare_int _ _ _).mono ?_
 rintro e wz ⟨rfl, rfl⟩
 go_wp2
 go_ret
 exact ⟨zn HF3.out.symm, HB4.out⟩) : P := h
theorem zev (s t : ByteArray) (la pa lb pb : List V.Bs) (w : World) (hm : zm w) (hs : s.size ≤ 1000) (ht : t.size ≤ 1000)
  (hp : V.zl s.data.toList = some (la, pa)) (hq : V.zl t.data.toList = some (lb, pb)) :
  Calls Tryz.prog 225 #[.agg #[], .string s, .string t] w fun e w' => e = .returned (.int .i64 (V.qp (la, pa) (lb, pb))) /\ Below w.heap.size w w' := by
 obtain ⟨x0, hx0⟩ : ∃ x, la.getD 0 [] = x := ⟨_, rfl⟩
 obtain ⟨x1, hx1⟩ : ∃ x, la.getD 1 [] = x := ⟨_, rfl⟩
 obtain ⟨x2, hx2⟩ : ∃ x, la.getD 2 [] = x := ⟨_, rfl⟩
 obtain ⟨y0, hy0⟩ : ∃ x, lb.getD 0 [] = x := ⟨_, rfl⟩
 obtain ⟨y1, hy1⟩ : ∃ x, lb.getD 1 [] = x := ⟨_, rfl⟩
 obtain ⟨y2, hy2⟩ : ∃ x, lb.getD 2 [] = x := ⟨_, rfl⟩
 have HF : Hid (V.qp (la, pa) (lb, pb) = V.cor (V.orI [V.numbers x0 y0, V.numbers x1 y1, V.numbers x2 y2]) (V.wl pa pb)) := zpa (by
   unfold V.qp; simp only [hx0, hx1, hx2, hy0, hy1, hy2])
 have hb0 : Below w.heap.size w (w.alloc (.cells #[] 203)) := (zpd _ w).alloc (zpc _) _
 have hm0 := hm.below hb0
 have HP := zpa hp
 have HQ := zpa hq
 have HB0 := zpa hb0
 have HX0 := zpa hx0
 have HX1 := zpa hx1
 have HX2 := zpa hx2
 have HY0 := zpa hy0
 have HY1 := zpa hy1
 have HY2 := zpa hy2
 clear hp hq hb0 hx0 hx1 hx2 hy0 hy1 hy2
 go_enter Tryz.func225, Tryz.ntmps225
 go_wp2_with fail
 refine (yq s _ hm0 hs).mono ?_
 rintro e w1 h
 obtain ⟨a, cap, rfl, hsa, hb1⟩ := zf6 h HP.out HX0.out HX1.out HX2.out
 have hB1 := HB0.out.trans (hb1.mono HB0.out.size)
 have HB1 := zpa hB1
 have hm1 := hm.below hB1
 have HSA := zpa hsa
 clear h hb1 hsa hB1
 go_wp2_with fail
 have hbc : Below w1.heap.size w1 (w1.alloc (.cells #[.string ⟨x0.toArray⟩, .string ⟨x1.toArray⟩, .string ⟨x2.toArray⟩, .slice a pa.length cap] 260)) := (zpd _ _).alloc (zpc _) _
 refine (yq t _ (hm1.below hbc) ht).mono ?_
 rintro e w2 h
 obtain ⟨a2, cap2, rfl, hsb, hb2⟩ := zf6 h HQ.out HY0.out HY1.out HY2.out
 have hc2 : ∀ i, w2.cell? ⟨w1.heap.size, i, none⟩ = #[Value.string ⟨x0.toArray⟩, .string ⟨x1.toArray⟩, .string ⟨x2.toArray⟩, .slice a pa.length cap][i]? := qk hb2 (by simp) (fun i => by rw [zj, if_pos rfl])
 have hB2 := hbc.trans (hb2.mono hbc.size)
 have hz2 : w1.heap.size < w2.heap.size := Nat.lt_of_lt_of_le (by simp) hb2.size
 have HSA2 := zpa (HSA.out.below hB2)
 have HSB2 := zpa hsb
 have HB2 := zpb HB1 hB2
 clear h hb2 hsb hbc hB2 HSA
 go_wp2_with fail
 obtain ⟨W3, hW3⟩ : ∃ W3, W3 = w2.alloc (.cells #[.string ⟨y0.toArray⟩, .string ⟨y1.toArray⟩, .string ⟨y2.toArray⟩, .slice a2 pb.length cap2] 260) := ⟨_, rfl⟩
 rw [← hW3]
 have hb3 : Below w2.heap.size w2 W3 := by rw [hW3]; exact (zpd _ _).alloc (zpc _) _
 have e : ∀ i, W3.cell? ⟨w1.heap.size, i, none⟩ = #[Value.string ⟨x0.toArray⟩, .string ⟨x1.toArray⟩, .string ⟨x2.toArray⟩, .slice a pa.length cap][i]? := qk hb3 hz2 hc2
 have g : ∀ i, W3.cell? ⟨w2.heap.size, i, none⟩ = #[Value.string ⟨y0.toArray⟩, .string ⟨y1.toArray⟩, .string ⟨y2.toArray⟩, .slice a2 pb.length cap2][i]? := fun i => by rw [hW3, zj, if_pos rfl]
 have e0 := e 0
 have e1 := e 1
 have e2 := e 2
 have e3 := e 3
 have g0 := g 0
 have g1 := g 1
 have g2 := g 2
 have g3 := g 3
 simp at e0 e1 e2 e3 g0 g1 g2 g3
 have HSA3 := zpa (HSA2.out.below hb3)
 have HSB3 := zpa (HSB2.out.below hb3)
 have HB3 := zpb HB2 hb3
 have hz3 : w2.heap.size < W3.heap.size := by rw [hW3]; simp
 have hz4 : w1.heap.size < W3.heap.size := by omega
 clear hW3 hb3 e g hc2 hm0 hm1 HSA2 HSB2 HB1 HB2 HB0
 go_region_held3 (fun W' => (W'.cell? ⟨w1.heap.size, 0, none⟩ = some (.string ⟨x0.toArray⟩) /\ W'.cell? ⟨w1.heap.size, 1, none⟩ = some (.string ⟨x1.toArray⟩) /\ W'.cell? ⟨w1.heap.size, 2, none⟩ = some (.string ⟨x2.toArray⟩) /\
     W'.cell? ⟨w2.heap.size, 0, none⟩ = some (.string ⟨y0.toArray⟩) /\ W'.cell? ⟨w2.heap.size, 1, none⟩ = some (.string ⟨y1.toArray⟩) /\ W'.cell? ⟨w2.heap.size, 2, none⟩ = some (.string ⟨y2.toArray⟩)))
  (first
    | go_keep
    | (go_split_ands
       refine ⟨?_, ?_, ?_, ?_, ?_, ?_⟩ <;> (refine za2 hbq ?_; first | assumption | (simp only [World.cell?_drew]; assumption))))
  (first
    | (go_at_call 229; refine (xw _ _ _).mono ?_; rintro e wq ⟨rfl, hbq⟩)
    | (go_at_call 152; refine (zi0 _ [V.numbers x0 y0, V.numbers x1 y1, V.numbers x2 y2] _ (by simp) (zfm _ _ _ _ _)).mono ?_; rintro e wq ⟨rfl, rfl⟩))
 rename_i wa hba wb hbb hS
 have hbx : Below W3.heap.size W3 wq := ((zpd W3.heap.size W3).drew).trans (Below.trans (show Below W3.heap.size W3.drew wa from hba) ((hbb.trans (hbq.mono hbb.size)).mono hba.size))
 obtain ⟨W4, hW4⟩ : ∃ W4, W4 = wq.alloc (.cells #[.int .i64 (V.numbers x0 y0), .int .i64 (V.numbers x1 y1), .int .i64 (V.numbers x2 y2)] 3) := ⟨_, rfl⟩
 rw [← hW4]
 have hb4 : Below W3.heap.size W3 W4 := hbx.trans (by rw [hW4]; exact ((zpd wq.heap.size wq).alloc (zpc _) _).mono hbx.size)
 clear hba hbb hbq hbx hW4 hS
 have k3 := za2 hb4 e3
 have j3 := za2 hb4 g3
 have HSA4 := zpa (HSA3.out.below hb4)
 have HSB4 := zpa (HSB3.out.below hb4)
 have HB4 := zpb HB3 hb4
 clear e0 e1 e2 e3 g0 g1 g2 g3 hb4 HSA3 HSB3 HB3 hz2 hz3 hz4
 by_cases h0 : V.orI [V.numbers x0 y0, V.numbers x1 y1, V.numbers x2 y2] = 0
 ·have HF2 : Hid (V.qp (la, pa) (lb, pb) = V.wl pa pb) := zpa (by rw [HF.out, h0]; rfl)
  rw [h0]
  clear h0
  have hP : Hid (V.wl pa pb = if pa.isEmpty || pb.isEmpty then Lib.compareInt pb.length pa.length else V.qm V.jc pa pb) := rfl
  by_cases hpa : pa.length = 0
  ·have HF3 : Hid (V.qp (la, pa) (lb, pb) = Lib.compareInt pb.length pa.length) := zpa (by
     rw [HF2.out, hP.out, if_pos]; rw [List.eq_nil_of_length_eq_zero hpa]; rfl)
   have hbo : ((pa.length : Int) == 0) = true := by rw [hpa]; rfl
   clear hpa
   exact zrr
  ·have hbo : ((pa.length : Int) == 0) = false := by rw [zpe]; omega
   by_cases hpb : pb.length = 0
   ·have HF3 : Hid (V.qp (la, pa) (lb, pb) = Lib.compareInt pb.length pa.length) := zpa (by
      rw [HF2.out, hP.out, if_pos]; rw [List.eq_nil_of_length_eq_zero hpb]; simp)
    have hbo2 : ((pb.length : Int) == 0) = true := by rw [hpb]; rfl
    clear hpa hpb
    exact zrr
   ·have hbo2 : ((pb.length : Int) == 0) = false := by rw [zpe]; omega
    have HF3 : Hid (V.qp (la, pa) (lb, pb) = V.qm V.jc pa pb) := zpa (by
      rw [HF2.out, hP.out, if_neg]
      cases pa <;> cases pb <;> simp at hpa hpb ⊢)
    clear hpa hpb
    go_wp2_with fail
    refine (wu _ _ pa pb 231 #[] V.jc _ HSA4.out HSB4.out ?_ ?_ ?_ ?_ (enters_of Tryz.func231 (by kernel_rfl) rfl) (fun x y W hx hy => zfx x y W hx hy)).mono ?_
    ·have := yi HP.out; rw [zi] at this; omega
    ·have := yi HQ.out; rw [zi] at this; omega
    ·intro x hx; have := (yi HP.out).2 x hx; rw [zi] at this; omega
    ·intro x hx; have := (yi HQ.out).2 x hx; rw [zi] at this; omega
    rintro e wz ⟨rfl, hbz⟩
    have HB5 := zpb HB4 hbz
    clear hbz
    go_wp2
    go_ret
    exact ⟨zn HF3.out.symm, HB5.out⟩
 ·have HF2 : Hid (V.qp (la, pa) (lb, pb) = V.orI [V.numbers x0 y0, V.numbers x1 y1, V.numbers x2 y2]) := zpa (by rw [HF.out, V.jb h0])
  have hb : (V.orI [V.numbers x0 y0, V.numbers x1 y1, V.numbers x2 y2] != 0) = true := by simpa using h0
  generalize V.orI [V.numbers x0 y0, V.numbers x1 y1, V.numbers x2 y2] = c at *
  clear h0
  go_wp2
  go_ret
  exact ⟨zn HF2.out.symm, HB4.out⟩
open Go.RowKit
theorem ze4 {s : ByteArray} {k : Nat} : (s.extract 0 k).data.toList = s.data.toList.take k := by
 rw [Lib.extract_data]; simp
theorem zpy {P : Prop} (h : P := by
 go_region
 all_goals
  go_wp2
  go_ret2
  exact ⟨by rw [HF.out.1, HF.out.2]; rfl, by first | exact zpd _ _ | exact (zpd _ _).drew⟩) : P := h
theorem zq0 {P : Prop} (h : P := by
 go_round
 case rel => exact ⟨k + 1, by omega, by go_num, by rw [HT.out, HP.out, HE.out]; show (true && (V.digB s[k].toNat == false)) = true; rw [HD.out]; rfl⟩
 case measure => simp [intOf]; omega) : P := h
theorem zq1 {P : Prop} (h : P := by
 go_round
 case rel => exact ⟨k + 1, by omega, by go_num, by rw [HT.out, HP.out, HE.out]; show (true && (V.digB s[k].toNat == true)) = true; rw [HD.out]; rfl⟩
 case measure => simp [intOf]; omega) : P := h
theorem zsi {P : Prop} (h : P := by
 refine zpa ⟨ki ?_, ki ?_⟩
 ·rw [ze4, this.1]; simp [V.zt]
 ·rw [Lib.extract_to_end, this.2]; simp [V.zt]) : P := h
theorem zcn (s : ByteArray) (d : Bool) (w : World) (hs : s.size ≤ maxLen) :
  Calls Tryz.prog 259 #[.string s, .bool d] w fun e w' => e = .returned (.tuple #[.string ⟨(V.zt s.data.toList d).1.toArray⟩, .string ⟨(V.zt s.data.toList d).2.toArray⟩]) /\ Below w.heap.size w w' := by
 unfold maxLen at hs
 go_enter Tryz.func259, Tryz.ntmps259
 go_wp2
 go_loop [6] (fun i => ∃ k : Nat, k ≤ s.size /\ i = .int .i64 k /\ (s.data.toList.take k).all (fun c => V.dig c == d) = true) (fun i => s.size - (intOf i).toNat)
 case atStart => exact ⟨0, Nat.zero_le _, rfl, rfl⟩
 case round =>
  obtain ⟨k, hk, rfl, hp⟩ := hrel
  have HP := zpa hp
  clear hp
  have fin : (k = s.size ∨ ∃ h : k < s.size, (V.digB s[k].toNat == d) = false) -> Hid (s.extract 0 k = ⟨(V.zt s.data.toList d).1.toArray⟩ /\ s.extract k s.size = ⟨(V.zt s.data.toList d).2.toArray⟩) := fun h => by
   have := V.znb s.data.toList (fun c => V.dig c == d) k (by rw [zi]; exact hk) HP.out (by
     rcases h with h | ⟨h, h2⟩
     · left; rw [zi]; exact h
     · right
       have e : s.data.toList[k]'(by rw [zi]; exact h) = s[k] := by simp; rfl
       exact ⟨by rw [zi]; exact h, by rw [e]; exact h2⟩)
   exact zsi
  have FIN := zpa fin
  clear fin
  by_cases hlt : k < s.size
  ·have hl : k < s.data.toList.length := by rw [zi]; exact hlt
   have HT := zpa (V.vb (p := fun c => V.dig c == d) hl)
   have HE : Hid (s.data.toList[k] = s[k]) := zpa (by simp; rfl)
   rcases hD : V.digB s[k].toNat with _ | _ <;> cases d
   all_goals
    have HD := zpa hD
    clear hD
    go_wp2_with fail
    refine (xp _ _).mono ?_
    rintro e w' ⟨rfl, rfl⟩
    simp only [HD.out]
    go_wp2
   ·exact zq0
   ·have HF := FIN.out (.inr ⟨hlt, by rw [HD.out]; rfl⟩)
    exact zpy
   ·have HF := FIN.out (.inr ⟨hlt, by rw [HD.out]; rfl⟩)
    exact zpy
   ·exact zq1
  ·have HF := FIN.out (.inl (by omega))
   go_wp2
   exact zpy
theorem or128 (c : UInt8) : bits .or .u8 (c.toNat : Int) 128 = ((c ||| 128).toNat : Int) := by
 have h : ∀ n : Fin 256, bits .or .u8 ((n.val : Nat) : Int) 128 = (((n.val ||| 128 : Nat)) : Int) := by decide +kernel
 have := h ⟨c.toNat, c.toNat_lt⟩
 rw [this, UInt8.toNat_or]; rfl
theorem znl {s : ByteArray} {i : Nat} (h : i < s.size) : s.data.toList.getD i 0 = s[i] := by
 have : i < s.data.toList.length := by rw [zi]; exact h
 simp [List.getD, List.getElem?_eq_getElem this]; rfl
theorem zry {P : Prop} (h : P := by
 go_enter Tryz.func261, Tryz.ntmps261
 go_wp2
 go_ret
 exact ⟨zn HW.out.symm, rfl⟩) : P := h
theorem zsl {P : Prop} (h : P := by
 rw [zpe]; intro e; apply h1; rw [← UInt8.toNat_inj]
 have : s[i].toNat = 126 := by omega
 rw [this]; rfl) : P := h
theorem zfi (s : ByteArray) (i : Nat) (w : World) (_hs : s.size ≤ maxLen) (_hi : i ≤ maxLen) :
  Calls Tryz.prog 261 #[.string s, .int .i64 i] w fun e w' => e = .returned (.int .u8 (V.wt s.data.toList i)) /\ w = w' := by
 unfold maxLen at _hs _hi
 by_cases hlt : i < s.size
 ·have HG := zpa (znl hlt)
  by_cases h1 : s[i] = 126
  ·have HW : Hid (V.wt s.data.toList i = 1) := zpa (by unfold V.wt; rw [if_neg (by rw [zi]; omega), HG.out, if_pos h1])
   have hb : ((s[i].toNat : Int) == 126) = true := by rw [h1]; rfl
   clear h1
   exact zry
  ·have hb : ((s[i].toNat : Int) == 126) = false := by
    exact zsl
   rcases hL : V.letB s[i].toNat with _ | _
   ·have HW : Hid (V.wt s.data.toList i = (s[i] ||| 128).toNat) := zpa (by
      unfold V.wt; rw [if_neg (by rw [zi]; omega), HG.out, if_neg h1, if_neg]
      unfold V.lett; rw [hL]; simp)
    have HL := zpa hL
    clear hL h1
    go_enter Tryz.func261, Tryz.ntmps261
    go_wp2_with fail
    refine (we _ _).mono ?_
    rintro e w' ⟨rfl, rfl⟩
    simp only [HL.out]
    go_wp2
    go_ret
    refine ⟨?_, rfl⟩
    rw [HW.out, ← or128]
    rfl
   ·have HW : Hid (V.wt s.data.toList i = s[i].toNat) := zpa (by
      unfold V.wt; rw [if_neg (by rw [zi]; omega), HG.out, if_neg h1, if_pos]
      unfold V.lett; rw [hL])
    have HL := zpa hL
    clear hL h1
    go_enter Tryz.func261, Tryz.ntmps261
    go_wp2_with fail
    refine (we _ _).mono ?_
    rintro e w' ⟨rfl, rfl⟩
    simp only [HL.out]
    go_wp2
    go_ret
    exact ⟨zn HW.out.symm, rfl⟩
 ·have HW : Hid (V.wt s.data.toList i = 2) := zpa (by unfold V.wt; rw [if_pos (by rw [zi]; omega)])
  exact zry
theorem zks (x : Int) (w : World) :
  Calls Tryz.prog 262 #[.int .u8 x] w fun e w' => e = .returned (.bool false) /\ w = w' := by
 have h : (x != x) = false := by simp
 go_enter Tryz.func262, Tryz.ntmps262
 go_wp2
 go_ret
 exact ⟨zf (by simp), rfl⟩
theorem zkk (x y : Int) (w : World) :
  Calls Tryz.prog 260 #[.int .u8 x, .int .u8 y] w fun e w' => e = .returned (.int .i64 (Lib.compareInt x y)) /\ w = w' := by
 go_enter Tryz.func260, Tryz.ntmps260
 go_wp2_with (go_at_call 262; refine (zks _ _).mono ?_; rintro e w' ⟨rfl, rfl⟩)
 all_goals go_ret
 all_goals exact ⟨zn (by unfold Lib.compareInt; (repeat' split) <;> omega), rfl⟩
end Go.Proofs.YtbikeahmldobkaaGreatDoor
