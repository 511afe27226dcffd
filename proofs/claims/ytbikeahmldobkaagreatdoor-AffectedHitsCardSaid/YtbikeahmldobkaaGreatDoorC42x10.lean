/-
  Lemmas for the law.
-/
import Derived.Test.YtbikeahmldobkaaGreatDoorC42x09
import Derived.Test.YtbikeahmldobkaaGreatDoorC42x02
import Derived.Test.YtbikeahmldobkaaGreatDoorC42x07
import Derived.Test.YtbikeahmldobkaaGreatDoorC42x01
import Derived.Deep.RegionHeld3
set_option linter.all false
set_option maxRecDepth 100000
set_option maxHeartbeats 3200000
namespace Go.Proofs.YtbikeahmldobkaaGreatDoor
open Go.RowKit
theorem zzu {P : Prop} (h : P := by
 intro j hj
 rw [World.cell?_alloc_new]
 have : j = 0 ∨ j = 1 := by simp at hj; omega
 rcases this with rfl | rfl <;> rfl) : P := h
theorem vx (s t : ByteArray) (w : World) :
  Calls Tryz.prog 229 #[.string s, .string t] w fun e w' => e = .returned (.int .i64 (V.numbers s.data.toList t.data.toList)) /\ Below w.heap.size w w' := by
 have HF : Hid (V.numbers s.data.toList t.data.toList = V.orI [Lib.compareInt (V.value s.data.toList).length (V.value t.data.toList).length, Lib.compareBytes (V.value s.data.toList) (V.value t.data.toList)]) := zv2 (by
   unfold V.numbers V.orI V.orI V.orI V.cor; split <;> simp)
 go_enter Tryz.func229, Tryz.ntmps229
 go_wp2_with fail
 refine (zgt s _).mono ?_
 rintro e w' ⟨rfl, rfl⟩
 go_wp2_with fail
 refine (zgt t _).mono ?_
 rintro e w' ⟨rfl, rfl⟩
 generalize V.value s.data.toList = x at *
 generalize V.value t.data.toList = y at *
 go_wp2_with fail
 refine (Tryz.cmp_Compare_int _ _ _).mono ?_
 rintro e w' ⟨rfl, rfl⟩
 go_wp2_with fail
 refine (Tryz.strings_Compare _ _ _).mono ?_
 rintro e w' ⟨rfl, rfl⟩
 go_wp2_with fail
 generalize Lib.compareInt _ _ = p at *
 generalize Lib.compareBytes _ _ = q at *
 refine (znm _ [p, q] _ (by simp) ?_).mono ?_
 ·exact zzu
 rintro e w' ⟨rfl, rfl⟩
 go_wp2
 go_ret
 exact ⟨zv HF.out.symm, (zv5 _ _).alloc (zv4 _) _⟩
theorem ziu (s t : ByteArray) (w : World) (hs : s.size ≤ maxLen) (ht : t.size ≤ maxLen) :
  Calls Tryz.prog 231 #[.string s, .string t] w fun e w' => e = .returned (.int .i64 (V.jz s.data.toList t.data.toList)) /\ Below w.heap.size w w' := by
 have HF : Hid (V.jz s.data.toList t.data.toList = if V.digits s.data.toList && V.digits t.data.toList then V.numbers s.data.toList t.data.toList else if V.digits s.data.toList then -1 else if V.digits t.data.toList then 1 else Lib.compareBytes s.data.toList t.data.toList) := rfl
 rcases hx : V.digits s.data.toList with _ | _ <;> rcases hy : V.digits t.data.toList with _ | _
 all_goals
  have HX := zv2 hx
  have HY := zv2 hy
  clear hx hy
  rw [HX.out, HY.out] at HF
  go_enter Tryz.func231, Tryz.ntmps231
  go_wp2_with fail
  refine (ye s _ hs).mono ?_
  rintro e w' ⟨rfl, rfl⟩
  simp only [HX.out]
  go_wp2_with fail
  refine (ye t _ ht).mono ?_
  rintro e w' ⟨rfl, rfl⟩
  simp only [HY.out]
  go_wp2_with fail
 ·refine (Tryz.strings_Compare _ _ _).mono ?_
  rintro e w' ⟨rfl, rfl⟩
  go_wp2
  go_ret
  exact ⟨zv HF.out.symm, zv5 _ _⟩
 ·go_ret
  exact ⟨zv HF.out.symm, zv5 _ _⟩
 ·go_ret
  exact ⟨zv HF.out.symm, zv5 _ _⟩
 ·refine (vx _ _ _).mono ?_
  rintro e w' ⟨rfl, hb⟩
  go_wp2
  go_ret
  exact ⟨zv HF.out.symm, hb⟩
theorem zaf {f : V.Bs -> V.Bs -> Int} : ∀ (k : Nat) (l1 l2 : List V.Bs), k ≤ l1.length -> k ≤ l2.length -> (∀ j, j < k -> f (l1.getD j []) (l2.getD j []) = 0) -> V.je f l1 l2 = V.je f (l1.drop k) (l2.drop k)
 | 0, _, _, _, _, _ => rfl
 | k + 1, [], _, h, _, _ => by simp at h
 | k + 1, _ :: _, [], _, h, _ => by simp at h
 | k + 1, a :: l1, b :: l2, h1, h2, h => by
  have h0 : f a b = 0 := h 0 (by omega)
  rw [V.je, h0]
  exact zaf k l1 l2 (by simpa using h1) (by simpa using h2) (fun j hj => h (j + 1) (by omega))
theorem zhf {f : V.Bs -> V.Bs -> Int} (k : Nat) (l1 l2 : List V.Bs) (h1 : k < l1.length) (h2 : k < l2.length) (h : ∀ j, j < k -> f (l1.getD j []) (l2.getD j []) = 0) (h0 : f (l1.getD k []) (l2.getD k []) ≠ 0) :
  V.je f l1 l2 = f (l1.getD k []) (l2.getD k []) := by
 rw [zaf k l1 l2 (by omega) (by omega) h, List.drop_eq_getElem_cons h1, List.drop_eq_getElem_cons h2]
 have e1 : l1.getD k [] = l1[k] := by simp [List.getD, List.getElem?_eq_getElem h1]
 have e2 : l2.getD k [] = l2[k] := by simp [List.getD, List.getElem?_eq_getElem h2]
 rw [e1, e2] at h0 ⊢
 rw [V.je, V.jy h0]
theorem zfb {f : V.Bs -> V.Bs -> Int} (k : Nat) (l1 l2 : List V.Bs) (h1 : k < l1.length) (h2 : l2.length = k) (h : ∀ j, j < k -> f (l1.getD j []) (l2.getD j []) = 0) : V.je f l1 l2 = 1 := by
 rw [zaf k l1 l2 (by omega) (by omega) h, List.drop_eq_getElem_cons h1, List.drop_of_length_le (l := l2) (by omega)]; rfl
theorem zep {f : V.Bs -> V.Bs -> Int} (k : Nat) (l1 l2 : List V.Bs) (h1 : l1.length = k) (h2 : k ≤ l2.length) (h : ∀ j, j < k -> f (l1.getD j []) (l2.getD j []) = 0) : V.je f l1 l2 = if k < l2.length then -1 else 0 := by
 rw [zaf k l1 l2 (by omega) (by omega) h, List.drop_of_length_le (by omega)]
 by_cases hlt : k < l2.length
 ·rw [List.drop_eq_getElem_cons hlt, if_pos hlt]; rfl
 ·rw [List.drop_of_length_le (by omega), if_neg hlt]; rfl
theorem zc6 (v1 v2 : Value) (l1 l2 : List V.Bs) (K : Nat) (cap : Array Value) (f : V.Bs -> V.Bs -> Int) (w : World) (h1 : Strs w v1 l1) (h2 : Strs w v2 l2)
  (n1 : l1.length ≤ 2000) (_n2 : l2.length ≤ 2000) (m1 : ∀ x ∈ l1, x.length ≤ 1000) (m2 : ∀ x ∈ l2, x.length ≤ 1000)
  (eg : ∀ args w, (callFunc K args).run Tryz.prog w = .ok (.enter K args) w)
  (hK : ∀ (a b : V.Bs) W, a.length ≤ 1000 -> b.length ≤ 1000 -> Calls Tryz.prog K (#[.string ⟨a.toArray⟩, .string ⟨b.toArray⟩] ++ cap) W fun e w' => e = .returned (.int .i64 (f a b)) /\ Below W.heap.size W w') :
  Calls Tryz.prog 230 #[v1, v2, .func (.func K) #[] cap] w fun e w' => e = .returned (.int .i64 (V.je f l1 l2)) /\ Below w.heap.size w w' := by
 obtain ⟨a1, c1, rfl, hc1⟩ := h1
 obtain ⟨a2, c2, rfl, g2⟩ := h2
 have HK := zv2 hK
 have g4 := zv2 hc1
 have g5 := zv2 g2
 have M1 := zv2 m1
 have M2 := zv2 m2
 clear hK hc1 g2 m1 m2
 go_enter Tryz.func230, Tryz.ntmps230
 go_wp2
 go_loopw [13] (fun i wr => ∃ k : Nat, k ≤ l1.length /\ k ≤ l2.length /\ i = .int .i64 k /\ (∀ j, j < k -> f (l1.getD j []) (l2.getD j []) = 0) /\ Below w.heap.size w wr) (fun i _ => l1.length - (intOf i).toNat)
 case atStart => exact ⟨0, Nat.zero_le _, Nat.zero_le _, rfl, fun j hj => by omega, zv5 _ _⟩
 case round =>
  obtain ⟨k, h3, hk2, rfl, hz, hB⟩ := hrel
  have HZ := zv2 hz
  have HB := zv2 hB
  clear hz hB
  by_cases hlt1 : k < l1.length
  ·obtain ⟨b1, o1, g3, hb1, g0⟩ := g4.out k hlt1
   have g6 := (HB.out.cell (p := ⟨b1, o1 + k, none⟩) hb1).trans g0
   rw [← jw hlt1] at g6
   by_cases hlt2 : k < l2.length
   ·obtain ⟨b2, o2, g7, hb2, g1⟩ := g5.out k hlt2
    have g8 := (HB.out.cell (p := ⟨b2, o2 + k, none⟩) hb2).trans g1
    rw [← jw hlt2] at g8
    have s1 := M1.out _ (List.getElem_mem hlt1)
    have s2 := M2.out _ (List.getElem_mem hlt2)
    rw [← jw hlt1] at s1
    rw [← jw hlt2] at s2
    have g9 := zv2 (zhf k l1 l2 hlt1 hlt2 HZ.out)
    have NEXT : Hid (f (l1.getD k []) (l2.getD k []) = 0 -> ∀ j, j < k + 1 -> f (l1.getD j []) (l2.getD j []) = 0) := zv2 (fun h0 j hj => by
      by_cases e : j = k
      · subst e; exact h0
      · exact HZ.out j (by omega))
    subst g3
    subst g7
    clear g0 g1
    generalize l1.getD k [] = x at *
    generalize l2.getD k [] = y at *
    go_wp2_with fail
    refine (HK.out x y _ s1 s2).mono ?_
    rintro e w1 ⟨rfl, hb⟩
    have HB1 := zv3 HB hb
    clear hb
    by_cases h0 : f x y = 0
    ·have HN := zv2 (NEXT.out h0)
     rw [h0]
     clear h0
     go_wp2
     go_roundw
     case rel => exact ⟨k + 1, by omega, by omega, by go_num, HN.out, HB1.out⟩
     case measure => simp [intOf]; omega
    ·have HN := zv2 (g9.out h0)
     have hb : (f x y != 0) = true := by simpa using h0
     generalize f x y = c at *
     clear h0
     go_wp2
     go_ret
     exact ⟨zv HN.out.symm, HB1.out⟩
   ·have HN := zv2 (zfb k l1 l2 hlt1 (by omega) HZ.out)
    subst g3
    clear g0
    go_wp2
    go_ret
    exact ⟨zv HN.out.symm, HB.out⟩
  ·have HN := zv2 (zep k l1 l2 (by omega) hk2 HZ.out)
   by_cases hlt2 : k < l2.length
   ·rw [if_pos hlt2] at HN
    go_wp2
    go_ret
    exact ⟨zv HN.out.symm, HB.out⟩
   ·rw [if_neg hlt2] at HN
    go_wp2
    go_ret
    exact ⟨zv HN.out.symm, HB.out⟩
open Go.RowKit
theorem zj3 (a b : V.Bs) (W : World) (ha : a.length ≤ 1000) (hb : b.length ≤ 1000) : Calls Tryz.prog 231 (#[.string ⟨a.toArray⟩, .string ⟨b.toArray⟩] ++ #[]) W fun e w' => e = .returned (.int .i64 (V.jz a b)) /\ Below W.heap.size W w' := by
 have h := ziu ⟨a.toArray⟩ ⟨b.toArray⟩ W (by show a.length ≤ _; unfold maxLen; omega) (by show b.length ≤ _; unfold maxLen; omega)
 simp only  at h
 exact h
theorem zjm (w : World) (a b c : Int) (t : TypeId) : ∀ j, j < [a, b, c].length -> (w.alloc (.cells #[.int .i64 a, .int .i64 b, .int .i64 c] t)).cell? ⟨w.heap.size, j, none⟩ = some (.int .i64 ([a, b, c].getD j 0)) := by
 intro j hj
 rw [World.cell?_alloc_new]
 have : j = 0 ∨ j = 1 ∨ j = 2 := by simp at hj; omega
 rcases this with rfl | rfl | rfl <;> rfl
theorem zae {s : V.Bs} {l pre : List V.Bs} (h : V.zo s = some (l, pre)) : pre.length ≤ s.length + 1 /\ ∀ x ∈ pre, x.length ≤ s.length := by
 unfold V.zo at h
 split at h
 ·cases h
 ·split at h
  ·simp only [Option.some.injEq, Prod.mk.injEq] at h
   obtain ⟨_, h⟩ := h
   have h1 := yl 43 s
   have h2 := yl 45 (V.cut1 43 s).1
   have h3 := jl 46 (V.cut1 45 (V.cut1 43 s).1).2.1
   split at h
   ·subst h
    exact ⟨by omega, fun x hx => by have := kf 46 _ x hx; omega⟩
   ·subst h; simp
  ·cases h
theorem zd3 {W W' : World} {b o : Nat} {v : Value} (hb : Below W.heap.size W W') (h : W.cell? ⟨b, o, none⟩ = some v) : W'.cell? ⟨b, o, none⟩ = some v :=
 (hb.cell (p := ⟨b, o, none⟩) (World.block_lt_of_cell? _ _ h)).trans h
theorem zke {r : Option (List V.Bs × List V.Bs)} {l pre : List V.Bs} {x0 x1 x2 : V.Bs} {w : World} {e : Ending} {w' : World} (h : zh8 r w e w') (hr : r = some (l, pre)) (h0 : l.getD 0 [] = x0) (h1 : l.getD 1 [] = x1) (h2 : l.getD 2 [] = x2) :
  ∃ a cap, e = .returned (.tuple #[.agg #[.string ⟨x0.toArray⟩, .string ⟨x1.toArray⟩, .string ⟨x2.toArray⟩, .slice a pre.length cap], .bool true]) /\ Strs w' (.slice a pre.length cap) pre /\ Below w.heap.size w w' := by
 subst h0 h1 h2
 obtain ⟨pv, rfl, g0, hb⟩ := zfc h hr
 have g1 := g0
 obtain ⟨a, cap, rfl, hc⟩ := g0
 exact ⟨a, cap, rfl, g1, hb⟩
theorem zy8 {P : Prop} (h : P := by
 go_wp2_with fail
 refine (Tryz.cmp_Compare_int _ _ _).mono ?_
 rintro e wz ⟨rfl, rfl⟩
 go_wp2
 go_ret
 exact ⟨zv HF3.out.symm, HB4.out⟩) : P := h
theorem zin (s t : ByteArray) (la pa lb pb : List V.Bs) (w : World) (hm : zk w) (hs : s.size ≤ 1000) (ht : t.size ≤ 1000)
  (hp : V.zo s.data.toList = some (la, pa)) (hq : V.zo t.data.toList = some (lb, pb)) :
  Calls Tryz.prog 225 #[.agg #[], .string s, .string t] w fun e w' => e = .returned (.int .i64 (V.ji (la, pa) (lb, pb))) /\ Below w.heap.size w w' := by
 obtain ⟨x0, g7⟩ : ∃ x, la.getD 0 [] = x := ⟨_, rfl⟩
 obtain ⟨x1, g8⟩ : ∃ x, la.getD 1 [] = x := ⟨_, rfl⟩
 obtain ⟨x2, g9⟩ : ∃ x, la.getD 2 [] = x := ⟨_, rfl⟩
 obtain ⟨y0, h1⟩ : ∃ x, lb.getD 0 [] = x := ⟨_, rfl⟩
 obtain ⟨y1, h2⟩ : ∃ x, lb.getD 1 [] = x := ⟨_, rfl⟩
 obtain ⟨y2, h3⟩ : ∃ x, lb.getD 2 [] = x := ⟨_, rfl⟩
 have HF : Hid (V.ji (la, pa) (lb, pb) = V.cor (V.orI [V.numbers x0 y0, V.numbers x1 y1, V.numbers x2 y2]) (V.zc2 pa pb)) := zv2 (by
   unfold V.ji; simp only [g7, g8, g9, h1, h2, h3])
 have h4 : Below w.heap.size w (w.alloc (.cells #[] 203)) := (zv5 _ w).alloc (zv4 _) _
 have j5 := hm.below h4
 have HP := zv2 hp
 have HQ := zv2 hq
 have HB0 := zv2 h4
 have HX0 := zv2 g7
 have HX1 := zv2 g8
 have HX2 := zv2 g9
 have k7 := zv2 h1
 have k8 := zv2 h2
 have k9 := zv2 h3
 clear hp hq h4 g7 g8 g9 h1 h2 h3
 go_enter Tryz.func225, Tryz.ntmps225
 go_wp2_with fail
 refine (zap s _ j5 hs).mono ?_
 rintro e w1 h
 obtain ⟨a, cap, rfl, j6, hb1⟩ := zke h HP.out HX0.out HX1.out HX2.out
 have h5 := HB0.out.trans (hb1.mono HB0.out.size)
 have HB1 := zv2 h5
 have j7 := hm.below h5
 have j8 := zv2 j6
 clear h hb1 j6 h5
 go_wp2_with fail
 have g6 : Below w1.heap.size w1 (w1.alloc (.cells #[.string ⟨x0.toArray⟩, .string ⟨x1.toArray⟩, .string ⟨x2.toArray⟩, .slice a pa.length cap] 260)) := (zv5 _ _).alloc (zv4 _) _
 refine (zap t _ (j7.below g6) ht).mono ?_
 rintro e w2 h
 obtain ⟨a2, cap2, rfl, j9, hb2⟩ := zke h HQ.out k7.out k8.out k9.out
 have k0 : ∀ i, w2.cell? ⟨w1.heap.size, i, none⟩ = #[Value.string ⟨x0.toArray⟩, .string ⟨x1.toArray⟩, .string ⟨x2.toArray⟩, .slice a pa.length cap][i]? := jb hb2 (by simp) (fun i => by rw [zh, if_pos rfl])
 have h6 := g6.trans (hb2.mono g6.size)
 have k1 : w1.heap.size < w2.heap.size := Nat.lt_of_lt_of_le (by simp) hb2.size
 have h7 := zv2 (j8.out.below h6)
 have h8 := zv2 j9
 have HB2 := zv3 HB1 h6
 clear h hb2 j9 g6 h6 j8
 go_wp2_with fail
 obtain ⟨W3, g5⟩ : ∃ W3, W3 = w2.alloc (.cells #[.string ⟨y0.toArray⟩, .string ⟨y1.toArray⟩, .string ⟨y2.toArray⟩, .slice a2 pb.length cap2] 260) := ⟨_, rfl⟩
 rw [← g5]
 have hb3 : Below w2.heap.size w2 W3 := by rw [g5]; exact (zv5 _ _).alloc (zv4 _) _
 have e : ∀ i, W3.cell? ⟨w1.heap.size, i, none⟩ = #[Value.string ⟨x0.toArray⟩, .string ⟨x1.toArray⟩, .string ⟨x2.toArray⟩, .slice a pa.length cap][i]? := jb hb3 k1 k0
 have g : ∀ i, W3.cell? ⟨w2.heap.size, i, none⟩ = #[Value.string ⟨y0.toArray⟩, .string ⟨y1.toArray⟩, .string ⟨y2.toArray⟩, .slice a2 pb.length cap2][i]? := fun i => by rw [g5, zh, if_pos rfl]
 have e0 := e 0
 have e1 := e 1
 have e2 := e 2
 have e3 := e 3
 have g0 := g 0
 have g1 := g 1
 have g2 := g 2
 have g3 := g 3
 simp at e0 e1 e2 e3 g0 g1 g2 g3
 have h9 := zv2 (h7.out.below hb3)
 have j0 := zv2 (h8.out.below hb3)
 have HB3 := zv3 HB2 hb3
 have q0 : w2.heap.size < W3.heap.size := by rw [g5]; simp
 have hz4 : w1.heap.size < W3.heap.size := by omega
 clear g5 hb3 e g k0 j5 j7 h7 h8 HB1 HB2 HB0
 go_region_held3 (fun W' => (W'.cell? ⟨w1.heap.size, 0, none⟩ = some (.string ⟨x0.toArray⟩) /\ W'.cell? ⟨w1.heap.size, 1, none⟩ = some (.string ⟨x1.toArray⟩) /\ W'.cell? ⟨w1.heap.size, 2, none⟩ = some (.string ⟨x2.toArray⟩) /\
     W'.cell? ⟨w2.heap.size, 0, none⟩ = some (.string ⟨y0.toArray⟩) /\ W'.cell? ⟨w2.heap.size, 1, none⟩ = some (.string ⟨y1.toArray⟩) /\ W'.cell? ⟨w2.heap.size, 2, none⟩ = some (.string ⟨y2.toArray⟩)))
  (first
    | go_keep
    | (go_split_ands
       refine ⟨?_, ?_, ?_, ?_, ?_, ?_⟩ <;> (refine zd3 j1 ?_; first | assumption | (simp only [World.cell?_drew]; assumption))))
  (first
    | (go_at_call 229; refine (vx _ _ _).mono ?_; rintro e wq ⟨rfl, j1⟩)
    | (go_at_call 152; refine (znm _ [V.numbers x0 y0, V.numbers x1 y1, V.numbers x2 y2] _ (by simp) (zjm _ _ _ _ _)).mono ?_; rintro e wq ⟨rfl, rfl⟩))
 rename_i wa hba wb hbb hS
 have j2 : Below W3.heap.size W3 wq := ((zv5 W3.heap.size W3).drew).trans (Below.trans (show Below W3.heap.size W3.drew wa from hba) ((hbb.trans (j1.mono hbb.size)).mono hba.size))
 obtain ⟨W4, j4⟩ : ∃ W4, W4 = wq.alloc (.cells #[.int .i64 (V.numbers x0 y0), .int .i64 (V.numbers x1 y1), .int .i64 (V.numbers x2 y2)] 3) := ⟨_, rfl⟩
 rw [← j4]
 have g4 : Below W3.heap.size W3 W4 := j2.trans (by rw [j4]; exact ((zv5 wq.heap.size wq).alloc (zv4 _) _).mono j2.size)
 clear hba hbb j1 j2 j4 hS
 have k3 := zd3 g4 e3
 have j3 := zd3 g4 g3
 have k4 := zv2 (h9.out.below g4)
 have k5 := zv2 (j0.out.below g4)
 have HB4 := zv3 HB3 g4
 clear e0 e1 e2 e3 g0 g1 g2 g3 g4 h9 j0 HB3 k1 q0 hz4
 by_cases h0 : V.orI [V.numbers x0 y0, V.numbers x1 y1, V.numbers x2 y2] = 0
 ·have HF2 : Hid (V.ji (la, pa) (lb, pb) = V.zc2 pa pb) := zv2 (by rw [HF.out, h0]; rfl)
  rw [h0]
  clear h0
  have hP : Hid (V.zc2 pa pb = if pa.isEmpty || pb.isEmpty then Lib.compareInt pb.length pa.length else V.je V.jz pa pb) := rfl
  by_cases hpa : pa.length = 0
  ·have HF3 : Hid (V.ji (la, pa) (lb, pb) = Lib.compareInt pb.length pa.length) := zv2 (by
     rw [HF2.out, hP.out, if_pos]; rw [List.eq_nil_of_length_eq_zero hpa]; rfl)
   have hbo : ((pa.length : Int) == 0) = true := by rw [hpa]; rfl
   clear hpa
   exact zy8
  ·have hbo : ((pa.length : Int) == 0) = false := by rw [zv6]; omega
   by_cases hpb : pb.length = 0
   ·have HF3 : Hid (V.ji (la, pa) (lb, pb) = Lib.compareInt pb.length pa.length) := zv2 (by
      rw [HF2.out, hP.out, if_pos]; rw [List.eq_nil_of_length_eq_zero hpb]; simp)
    have k6 : ((pb.length : Int) == 0) = true := by rw [hpb]; rfl
    clear hpa hpb
    exact zy8
   ·have k6 : ((pb.length : Int) == 0) = false := by rw [zv6]; omega
    have HF3 : Hid (V.ji (la, pa) (lb, pb) = V.je V.jz pa pb) := zv2 (by
      rw [HF2.out, hP.out, if_neg]
      cases pa <;> cases pb <;> simp at hpa hpb ⊢)
    clear hpa hpb
    go_wp2_with fail
    refine (zc6 _ _ pa pb 231 #[] V.jz _ k4.out k5.out ?_ ?_ ?_ ?_ (enters_of Tryz.func231 (by kernel_rfl) rfl) (fun x y W hx hy => zj3 x y W hx hy)).mono ?_
    ·have := zae HP.out; rw [zj] at this; omega
    ·have := zae HQ.out; rw [zj] at this; omega
    ·intro x hx; have := (zae HP.out).2 x hx; rw [zj] at this; omega
    ·intro x hx; have := (zae HQ.out).2 x hx; rw [zj] at this; omega
    rintro e wz ⟨rfl, k2⟩
    have HB5 := zv3 HB4 k2
    clear k2
    go_wp2
    go_ret
    exact ⟨zv HF3.out.symm, HB5.out⟩
 ·have HF2 : Hid (V.ji (la, pa) (lb, pb) = V.orI [V.numbers x0 y0, V.numbers x1 y1, V.numbers x2 y2]) := zv2 (by rw [HF.out, V.jy h0])
  have hb : (V.orI [V.numbers x0 y0, V.numbers x1 y1, V.numbers x2 y2] != 0) = true := by simpa using h0
  generalize V.orI [V.numbers x0 y0, V.numbers x1 y1, V.numbers x2 y2] = c at *
  clear h0
  go_wp2
  go_ret
  exact ⟨zv HF2.out.symm, HB4.out⟩
theorem ziz {s : ByteArray} {k : Nat} : (s.extract 0 k).data.toList = s.data.toList.take k := by
 rw [Lib.extract_data]; simp
theorem zww {P : Prop} (h : P := by
 go_region
 all_goals
  go_wp2
  go_ret2
  exact ⟨by rw [HF.out.1, HF.out.2]; rfl, by first | exact zv5 _ _ | exact (zv5 _ _).drew⟩) : P := h
theorem zx6 {P : Prop} (h : P := by
 go_round
 case rel => exact ⟨k + 1, by omega, by go_num, by rw [HT.out, HP.out, HE.out]; show (true && (V.digB s[k].toNat == false)) = true; rw [HD.out]; rfl⟩
 case measure => simp [intOf]; omega) : P := h
theorem zx7 {P : Prop} (h : P := by
 go_round
 case rel => exact ⟨k + 1, by omega, by go_num, by rw [HT.out, HP.out, HE.out]; show (true && (V.digB s[k].toNat == true)) = true; rw [HD.out]; rfl⟩
 case measure => simp [intOf]; omega) : P := h
theorem zz4 {P : Prop} (h : P := by
 refine zv2 ⟨ya ?_, ya ?_⟩
 ·rw [ziz, this.1]; simp [V.qa]
 ·rw [Lib.extract_to_end, this.2]; simp [V.qa]) : P := h
theorem zft (s : ByteArray) (d : Bool) (w : World) (hs : s.size ≤ maxLen) :
  Calls Tryz.prog 259 #[.string s, .bool d] w fun e w' => e = .returned (.tuple #[.string ⟨(V.qa s.data.toList d).1.toArray⟩, .string ⟨(V.qa s.data.toList d).2.toArray⟩]) /\ Below w.heap.size w w' := by
 unfold maxLen at hs
 go_enter Tryz.func259, Tryz.ntmps259
 go_wp2
 go_loop [6] (fun i => ∃ k : Nat, k ≤ s.size /\ i = .int .i64 k /\ (s.data.toList.take k).all (fun c => V.dig c == d) = true) (fun i => s.size - (intOf i).toNat)
 case atStart => exact ⟨0, Nat.zero_le _, rfl, rfl⟩
 case round =>
  obtain ⟨k, hk, rfl, hp⟩ := hrel
  have HP := zv2 hp
  clear hp
  have fin : (k = s.size ∨ ∃ h : k < s.size, (V.digB s[k].toNat == d) = false) -> Hid (s.extract 0 k = ⟨(V.qa s.data.toList d).1.toArray⟩ /\ s.extract k s.size = ⟨(V.qa s.data.toList d).2.toArray⟩) := fun h => by
   have := V.zta s.data.toList (fun c => V.dig c == d) k (by rw [zj]; exact hk) HP.out (by
     rcases h with h | ⟨h, h2⟩
     · left; rw [zj]; exact h
     · right
       have e : s.data.toList[k]'(by rw [zj]; exact h) = s[k] := by simp; rfl
       exact ⟨by rw [zj]; exact h, by rw [e]; exact h2⟩)
   exact zz4
  have FIN := zv2 fin
  clear fin
  by_cases hlt : k < s.size
  ·have hl : k < s.data.toList.length := by rw [zj]; exact hlt
   have HT := zv2 (V.zca (p := fun c => V.dig c == d) hl)
   have HE : Hid (s.data.toList[k] = s[k]) := zv2 (by simp; rfl)
   rcases hD : V.digB s[k].toNat with _ | _ <;> cases d
   all_goals
    have HD := zv2 hD
    clear hD
    go_wp2_with fail
    refine (vm _ _).mono ?_
    rintro e w' ⟨rfl, rfl⟩
    simp only [HD.out]
    go_wp2
   ·exact zx6
   ·have HF := FIN.out (.inr ⟨hlt, by rw [HD.out]; rfl⟩)
    exact zww
   ·have HF := FIN.out (.inr ⟨hlt, by rw [HD.out]; rfl⟩)
    exact zww
   ·exact zx7
  ·have HF := FIN.out (.inl (by omega))
   go_wp2
   exact zww
theorem or128 (c : UInt8) : bits .or .u8 (c.toNat : Int) 128 = ((c ||| 128).toNat : Int) := by
 have h : ∀ n : Fin 256, bits .or .u8 ((n.val : Nat) : Int) 128 = (((n.val ||| 128 : Nat)) : Int) := by decide +kernel
 have := h ⟨c.toNat, c.toNat_lt⟩
 rw [this, UInt8.toNat_or]; rfl
theorem ztn {s : ByteArray} {i : Nat} (h : i < s.size) : s.data.toList.getD i 0 = s[i] := by
 have : i < s.data.toList.length := by rw [zj]; exact h
 simp [List.getD, List.getElem?_eq_getElem this]; rfl
theorem zzg {P : Prop} (h : P := by
 go_enter Tryz.func261, Tryz.ntmps261
 go_wp2
 go_ret
 exact ⟨zv HW.out.symm, rfl⟩) : P := h
theorem zz9 {P : Prop} (h : P := by
 rw [zv6]; intro e; apply h1; rw [← UInt8.toNat_inj]
 have : s[i].toNat = 126 := by omega
 rw [this]; rfl) : P := h
theorem zji (s : ByteArray) (i : Nat) (w : World) (_hs : s.size ≤ maxLen) (_hi : i ≤ maxLen) :
  Calls Tryz.prog 261 #[.string s, .int .i64 i] w fun e w' => e = .returned (.int .u8 (V.wt s.data.toList i)) /\ w = w' := by
 unfold maxLen at _hs _hi
 by_cases hlt : i < s.size
 ·have HG := zv2 (ztn hlt)
  by_cases h1 : s[i] = 126
  ·have HW : Hid (V.wt s.data.toList i = 1) := zv2 (by unfold V.wt; rw [if_neg (by rw [zj]; omega), HG.out, if_pos h1])
   have hb : ((s[i].toNat : Int) == 126) = true := by rw [h1]; rfl
   clear h1
   exact zzg
  ·have hb : ((s[i].toNat : Int) == 126) = false := by
    exact zz9
   rcases hL : V.letB s[i].toNat with _ | _
   ·have HW : Hid (V.wt s.data.toList i = (s[i] ||| 128).toNat) := zv2 (by
      unfold V.wt; rw [if_neg (by rw [zj]; omega), HG.out, if_neg h1, if_neg]
      unfold V.lett; rw [hL]; simp)
    have HL := zv2 hL
    clear hL h1
    go_enter Tryz.func261, Tryz.ntmps261
    go_wp2_with fail
    refine (zcx _ _).mono ?_
    rintro e w' ⟨rfl, rfl⟩
    simp only [HL.out]
    go_wp2
    go_ret
    refine ⟨?_, rfl⟩
    rw [HW.out, ← or128]
    rfl
   ·have HW : Hid (V.wt s.data.toList i = s[i].toNat) := zv2 (by
      unfold V.wt; rw [if_neg (by rw [zj]; omega), HG.out, if_neg h1, if_pos]
      unfold V.lett; rw [hL])
    have HL := zv2 hL
    clear hL h1
    go_enter Tryz.func261, Tryz.ntmps261
    go_wp2_with fail
    refine (zcx _ _).mono ?_
    rintro e w' ⟨rfl, rfl⟩
    simp only [HL.out]
    go_wp2
    go_ret
    exact ⟨zv HW.out.symm, rfl⟩
 ·have HW : Hid (V.wt s.data.toList i = 2) := zv2 (by unfold V.wt; rw [if_pos (by rw [zj]; omega)])
  exact zzg
theorem zp4 (x : Int) (w : World) :
  Calls Tryz.prog 262 #[.int .u8 x] w fun e w' => e = .returned (.bool false) /\ w = w' := by
 have h : (x != x) = false := by simp
 go_enter Tryz.func262, Tryz.ntmps262
 go_wp2
 go_ret
 exact ⟨zf (by simp), rfl⟩
theorem zps (x y : Int) (w : World) :
  Calls Tryz.prog 260 #[.int .u8 x, .int .u8 y] w fun e w' => e = .returned (.int .i64 (Lib.compareInt x y)) /\ w = w' := by
 go_enter Tryz.func260, Tryz.ntmps260
 go_wp2_with (go_at_call 262; refine (zp4 _ _).mono ?_; rintro e w' ⟨rfl, rfl⟩)
 all_goals go_ret
 all_goals exact ⟨zv (by unfold Lib.compareInt; (repeat' split) <;> omega), rfl⟩
open Go.RowKit
theorem zpe (x y : V.Bs) (k : Nat) (hk : k < max x.length y.length) (h : ∀ j, j < k -> Lib.compareInt (V.wt x j) (V.wt y j) = 0) (h0 : Lib.compareInt (V.wt x k) (V.wt y k) ≠ 0) :
  V.wcmp x y = Lib.compareInt (V.wt x k) (V.wt y k) := by
 have e : ∀ j, j < max x.length y.length -> ((List.range (max x.length y.length)).map fun i => Lib.compareInt (V.wt x i) (V.wt y i)).getD j 0 = Lib.compareInt (V.wt x j) (V.wt y j) := fun j hj => by
  simp [List.getD, List.getElem?_range hj]
 unfold V.wcmp
 rw [V.orI_hit _ k (fun j hj => by rw [e j (by omega)]; exact h j hj) (by simpa using hk) (by rw [e k hk]; exact h0), e k hk]
theorem zk9 (x y : V.Bs) (h : ∀ j, j < max x.length y.length -> Lib.compareInt (V.wt x j) (V.wt y j) = 0) : V.wcmp x y = 0 := by
 have e : ∀ j, j < max x.length y.length -> ((List.range (max x.length y.length)).map fun i => Lib.compareInt (V.wt x i) (V.wt y i)).getD j 0 = Lib.compareInt (V.wt x j) (V.wt y j) := fun j hj => by
  simp [List.getD, List.getElem?_range hj]
 unfold V.wcmp
 exact V.orI_zero _ (fun j hj => by have g0 : j < max x.length y.length := by simpa using hj
                                    rw [e j g0]; exact h j g0)
theorem zxh {P : Prop} (h : P := by
 by_cases ha : a.data.toList = []
 ·have hb : b.data.toList ≠ [] := fun e => HNE.out (by rw [ha, e]; rfl)
  have := V.yf _ hb
  rw [hyb] at this
  simp only [hqb, zj] at this
  simp only at l1 l3; omega
 ·have := V.yf _ ha
  rw [hxa] at this
  simp only [hpa, zj] at this
  simp only at l2 l4; omega) : P := h
theorem zxn {P : Prop} (h : P := by
 have HR : Hid (V.qj s.data.toList t.data.toList = V.numbers p q) := zv2 (by
   rw [HSTEP.out, HZ0.out, V.ul, V.jy h0])
 have hb : (V.numbers p q != 0) = true := by simpa using h0
 generalize V.numbers p q = c at *
 clear h0
 go_wp2
 go_ret
 exact ⟨zv HR.out.symm, HB5.out⟩) : P := h
theorem zx0 {P : Prop} (h : P := by
 have HR : Hid (V.qj s.data.toList t.data.toList = 0) := zv2 (by
   rw [Lib.toList_data] at hea heb
   rw [← HT.out, List.isEmpty_iff.1 hea, List.isEmpty_iff.1 heb]; rfl)
 go_wp2
 go_ret
 exact ⟨zv HR.out.symm, HB.out⟩) : P := h
theorem zzz {P : Prop} (h : P := by
 clear h0
 go_wp2
 go_ret
 exact ⟨zv HR.out.symm, HB2.out⟩) : P := h
theorem zud (s t : ByteArray) (w : World) (hs : s.size ≤ maxLen) (ht : t.size ≤ maxLen) :
  Calls Tryz.prog 255 #[.agg #[], .string s, .string t] w fun e w' => e = .returned (.int .i64 (V.qj s.data.toList t.data.toList)) /\ Below w.heap.size w w' := by
 unfold maxLen at hs ht
 go_enter Tryz.func255, Tryz.ntmps255
 go_wp2
 go_loopw [1, 2] (fun v1 v2 wr => ∃ a b : ByteArray, v1 = .string a /\ v2 = .string b /\ a.size ≤ s.size /\ b.size ≤ t.size /\ V.qj a.data.toList b.data.toList = V.qj s.data.toList t.data.toList /\ Below w.heap.size w wr) (fun v1 v2 _ => szOf v1 + szOf v2)
 case atStart => exact ⟨s, t, rfl, rfl, zv4 _, zv4 _, rfl, (zv5 _ _).alloc (zv4 _) _⟩
 case round =>
  obtain ⟨a, b, rfl, rfl, h5, h6, g4, hB⟩ := hrel
  have HT := zv2 g4
  have HB := zv2 hB
  clear g4 hB
  rcases hea : a.toList.isEmpty with _ | _ <;> rcases heb : b.toList.isEmpty with _ | _
  case true.true =>
   exact zx0
  all_goals
   have g1 : ¬ (a.data.toList.isEmpty && b.data.toList.isEmpty) = true := by rw [← Lib.toList_data, ← Lib.toList_data, hea, heb]; simp
   have g0 := V.zdu _ _ g1
   have HNE := zv2 g1
   clear g1
   obtain ⟨x, a1, hxa⟩ : ∃ x a1, V.qa a.data.toList false = (x, a1) := ⟨_, _, rfl⟩
   obtain ⟨y, b1, hyb⟩ : ∃ y b1, V.qa b.data.toList false = (y, b1) := ⟨_, _, rfl⟩
   obtain ⟨p, a2, hpa⟩ : ∃ p a2, V.qa a1 true = (p, a2) := ⟨_, _, rfl⟩
   obtain ⟨q, b2, hqb⟩ : ∃ q b2, V.qa b1 true = (q, b2) := ⟨_, _, rfl⟩
   have l1 := V.ql a.data.toList false
   have l2 := V.ql b.data.toList false
   have l3 := V.ql a1 true
   have l4 := V.ql b1 true
   rw [hxa, zj] at l1
   rw [hyb, zj] at l2
   rw [hpa] at l3
   rw [hqb] at l4
   have l5 : a2.length + b2.length < a.size + b.size := by
    exact zxh
   rw [hxa, hyb] at g0
   simp only [hpa, hqb] at g0
   rw [HT.out] at g0
   have HSTEP := zv2 g0
   have g6 := zv2 hxa
   have g7 := zv2 hyb
   have g8 := zv2 hpa
   have g9 := zv2 hqb
   simp only at l1 l2 l3 l4
   have m1 : x.length ≤ s.size := by omega
   have m2 : y.length ≤ t.size := by omega
   have m3 : a1.length ≤ s.size := by omega
   have m4 : b1.length ≤ t.size := by omega
   have m5 : a2.length ≤ s.size := by omega
   have m6 : b2.length ≤ t.size := by omega
   have L5 := zv2 l5
   clear g0 hxa hyb hpa hqb l1 l2 l3 l4 l5
   go_wp2_with fail
   refine (zft a false _ (by unfold maxLen; omega)).mono ?_
   rintro e w1 ⟨rfl, hb1⟩
   simp only [g6.out]
   go_wp2_with fail
   refine (zft b false _ (by unfold maxLen; omega)).mono ?_
   rintro e w2 ⟨rfl, hb2⟩
   simp only [g7.out]
   have HB2 := zv2 (HB.out.trans ((hb1.trans (hb2.mono hb1.size)).mono HB.out.size))
   clear hb1 hb2
   go_wp2
   go_loop [9] (fun i => ∃ k : Nat, k ≤ max x.length y.length /\ i = .int .i64 k /\ ∀ j, j < k -> Lib.compareInt (V.wt x j) (V.wt y j) = 0) (fun i => max x.length y.length - (intOf i).toNat)
   case atStart => exact ⟨0, Nat.zero_le _, rfl, fun j hj => by omega⟩
   case round =>
    obtain ⟨k, hk, rfl, hz⟩ := hrel
    have HZ := zv2 hz
    clear hz
    by_cases hlt : k < max x.length y.length
    ·have h3 : (k < x.length) ∨ (¬ k < x.length /\ k < y.length) := by omega
     have g2 := zpe x y k hlt HZ.out
     have g5 := zv2 g2
     have h4 := zv2 hlt
     clear g2 hlt
     rcases h3 with h1 | ⟨h1, h2⟩
     all_goals
      go_wp2_with fail
      refine (zji ⟨x.toArray⟩ k _ (by show x.length ≤ _; unfold maxLen; omega) (by unfold maxLen; omega)).mono ?_
      rintro e w' ⟨rfl, rfl⟩
      go_wp2_with fail
      refine (zji ⟨y.toArray⟩ k _ (by show y.length ≤ _; unfold maxLen; omega) (by unfold maxLen; omega)).mono ?_
      rintro e w' ⟨rfl, rfl⟩
      go_wp2_with fail
      refine (zps _ _ _).mono ?_
      rintro e w' ⟨rfl, rfl⟩
      simp only
      by_cases h0 : Lib.compareInt (V.wt x k) (V.wt y k) = 0
      ·have HR : Hid (∀ j, j < k + 1 -> Lib.compareInt (V.wt x j) (V.wt y j) = 0) := zv2 (fun j hj => by
         by_cases e : j = k
         · subst e; exact h0
         · exact HZ.out j (by omega))
       rw [h0]
       have h7 := h4.out
       exact zx4
      ·have HR : Hid (V.qj s.data.toList t.data.toList = Lib.compareInt (V.wt x k) (V.wt y k)) := zv2 (by
         rw [HSTEP.out, g5.out h0, V.jy h0])
       have hb : (Lib.compareInt (V.wt x k) (V.wt y k) != 0) = true := by simpa using h0
       generalize Lib.compareInt (V.wt x k) (V.wt y k) = c at *
       exact zzz
    ·have HZ0 : Hid (V.wcmp x y = 0) := zv2 (zk9 x y (fun j hj => HZ.out j (by omega)))
     have h1 : ¬ k < x.length := by omega
     have h2 : ¬ k < y.length := by omega
     clear hlt
     go_wp2_with fail
     refine (zft ⟨a1.toArray⟩ true _ (by show a1.length ≤ _; unfold maxLen; omega)).mono ?_
     rintro e w3 ⟨rfl, hb3⟩
     simp only [g8.out]
     go_wp2_with fail
     refine (zft ⟨b1.toArray⟩ true _ (by show b1.length ≤ _; unfold maxLen; omega)).mono ?_
     rintro e w4 ⟨rfl, g3⟩
     simp only [g9.out]
     go_wp2_with fail
     refine (vx ⟨p.toArray⟩ ⟨q.toArray⟩ _).mono ?_
     rintro e w5 ⟨rfl, hb5⟩
     simp only
     have HB5 := zv2 (HB2.out.trans ((hb3.trans ((g3.trans (hb5.mono g3.size)).mono hb3.size)).mono HB2.out.size))
     clear hb3 g3 hb5
     by_cases h0 : V.numbers p q = 0
     ·have HR : Hid (V.qj a2 b2 = V.qj s.data.toList t.data.toList) := zv2 (by
        rw [HSTEP.out, HZ0.out, h0]; rfl)
      rw [h0]
      clear h0
      go_wp2
      go_roundw
      case rel => exact ⟨⟨a2.toArray⟩, ⟨b2.toArray⟩, rfl, rfl, m5, m6, by simp only ; exact HR.out, HB5.out⟩
      case measure => exact L5.out
     ·exact zxn
theorem texts_at (x y : V.Bs) (w : World) (hx : x.length ≤ 1000) (hy : y.length ≤ 1000) :
  Calls Tryz.prog 255 #[.agg #[], .string ⟨x.toArray⟩, .string ⟨y.toArray⟩] w fun e w' => e = .returned (.int .i64 (V.qj x y)) /\ Below w.heap.size w w' := by
 have h := zud ⟨x.toArray⟩ ⟨y.toArray⟩ w (by show x.length ≤ _; unfold maxLen; omega) (by show y.length ≤ _; unfold maxLen; omega)
 simp only  at h
 exact h
end Go.Proofs.YtbikeahmldobkaaGreatDoor
