/-
  Lemmas for the law.
-/
import Derived.Test.YtbikeahmldobkaaGreatDoorC42x40
import Derived.Test.YtbikeahmldobkaaGreatDoorC42x17
import Derived.Test.YtbikeahmldobkaaGreatDoorC42x21
set_option linter.all false
set_option maxRecDepth 100000
set_option maxHeartbeats 12800000
namespace Go.Proofs.YtbikeahmldobkaaGreatDoor
open Go.RowKit
theorem zc8.opened {w : World} {N : Nat} {v : Value} {l : List V.Ec} (h : zc8 w N v l) (h0 : 0 < l.length) : ∃ g cap, v = .slice (some ⟨g, 0, none⟩) l.length cap /\ l.length ≤ cap /\ N ≤ g /\ g < w.heap.size := by
 rcases h.2 with ⟨rfl, hn⟩ | ⟨g, cap, cur, rfl, hb, hg, g0, _⟩
 ·omega
 ·exact ⟨g, cap, rfl, g0, hb, (Array.getElem?_eq_some_iff.1 hg).1⟩
structure Cuts (N : Nat) (v : Value) (l : List V.Ec) (w : World) : Prop where
 opened : ∃ g cap, v = .slice (some ⟨g, 0, none⟩) l.length cap /\ l.length ≤ cap
 row : zc8 w N v l
def rcTo (n : Int) (a b : List V.Itv) (j : Nat) : List V.Ec := (if j = 0 then [] else if j = 1 then a else a ++ b).foldl (V.addI n) [V.ebot, V.etop]
theorem rcTo_ok {n : Int} {a b : List V.Itv} (ha : ∀ x ∈ a, V.zr n x = true) (hb : ∀ x ∈ b, V.zr n x = true) (j : Nat) : ∀ y ∈ rcTo n a b j, V.EcOk n y := by
 unfold rcTo
 refine V.zn3 ?_ (V.ends_ok n)
 split
 ·intro x hx; cases hx
 ·split
  ·exact ha
  ·intro x hx
   rcases List.mem_append.1 hx with h | h
   ·exact ha x h
   ·exact hb x h
theorem rcTo_pos (n : Int) (a b : List V.Itv) (j : Nat) : 0 < (rcTo n a b j).length := V.zjo _ _ _ (by simp)
theorem rcTo_len (n : Int) (a b : List V.Itv) (j : Nat) (ha : a.length ≤ 100) (hb : b.length ≤ 100) : (rcTo n a b j).length ≤ 402 := by
 have h := V.zj4 n (if j = 0 then [] else if j = 1 then a else a ++ b) [V.ebot, V.etop]
 have h2 : (if j = 0 then [] else if j = 1 then a else a ++ b).length ≤ a.length + b.length := by
  split
  ·simp
  ·split
   ·omega
   ·simp
 unfold rcTo
 simp only [List.length_cons, List.length_nil] at h
 omega
structure SetOf (n : Int) (a b : List V.Itv) (B : Nat) (w W : World) (j : Nat) (s : List V.Itv) (va : Option Addr) (vc : Nat) : Prop where
 c0 : W.cell? ⟨B, j * 2, none⟩ = some (.int .i64 n)
 c1 : W.cell? ⟨B, j * 2 + 1, none⟩ = some (.slice va s.length vc)
 itvs : Itvs w (.slice va s.length vc) s
 bnd : ∀ x ∈ s, V.zr n x = true
 len : s.length ≤ 100
 next : rcTo n a b (j + 1) = s.foldl (V.addI n) (rcTo n a b j)
theorem set_of {n : Int} {a b : List V.Itv} {B : Nat} {w W : World} {va vb : Option Addr} {ca cb : Nat} (hva : Itvs w (.slice va a.length ca) a) (g0 : Itvs w (.slice vb b.length cb) b) (ha : ∀ x ∈ a, V.zr n x = true) (hb : ∀ x ∈ b, V.zr n x = true) (g1 : a.length ≤ 100) (g2 : b.length ≤ 100)
  (h0 : W.cell? ⟨B, 0, none⟩ = some (.int .i64 n)) (h1 : W.cell? ⟨B, 1, none⟩ = some (.slice va a.length ca)) (h2 : W.cell? ⟨B, 2, none⟩ = some (.int .i64 n)) (h3 : W.cell? ⟨B, 3, none⟩ = some (.slice vb b.length cb)) (j : Nat) (hj : j < 2) : ∃ s va vc, SetOf n a b B w W j s va vc := by
 rcases (by omega : j = 0 ∨ j = 1) with rfl | rfl
 ·exact ⟨a, va, ca, h0, h1, hva, ha, g1, rfl⟩
 ·exact ⟨b, vb, cb, h2, h3, g0, hb, g2, by unfold rcTo; rw [if_neg (by omega), if_neg (by omega), if_neg (by omega), if_pos rfl, List.foldl_append]⟩
structure PInv (h : V.Ec -> V.Ec -> Bool) (C : List V.Ec) (N : Nat) (i : Nat) (D : List V.Itv) (u : Value) (W : World) : Prop where
 row : ItRow W N u D
 fold : V.rrun h none C = D ++ V.rrun h none (C.drop i)
 len : D.length ≤ i
def zcu (h : V.Ec -> V.Ec -> Bool) (C : List V.Ec) (D : List V.Itv) (c : V.Ec) (first i : Nat) : Prop := i = first ∨ (first < i /\ V.rrun h none C = D ++ V.rrun h (some c) (C.drop i))
theorem zcu.step {h : V.Ec -> V.Ec -> Bool} {C : List V.Ec} {D : List V.Itv} {first i : Nat} (hf : first < C.length) (hp : zcu h C D C[first] first i) (h0 : V.rrun h none C = D ++ V.rrun h none (C.drop first)) (hi : i + 1 < C.length) (hh : h C[i] C[i + 1] = true) : zcu h C D C[first] first (i + 1) := by
 rcases hp with rfl | ⟨hlt, e⟩
 ·exact .inr ⟨by omega, by rw [h0, V.zt7 hi hh]⟩
 ·exact .inr ⟨by omega, by rw [e, V.rrun_on hi hh]⟩
theorem zcu.close {h : V.Ec -> V.Ec -> Bool} {C : List V.Ec} {D : List V.Itv} {c : V.Ec} {first i : Nat} (hp : zcu h C D c first i) (hi : i < C.length) (hf : first + 1 < C.length) (hh : h C[first] C[first + 1] = true) (hn : ∀ hj : i + 1 < C.length, h C[i] C[i + 1] = false) : first < i /\ V.rrun h none C = (D ++ [V.btw c C[i]]) ++ V.rrun h none (C.drop i) := by
 rcases hp with rfl | ⟨hlt, e⟩
 ·have := hn hf
  rw [hh] at this
  cases this
 ·exact ⟨hlt, by rw [e, V.zq8 hi hn]; simp⟩
theorem zwb {P : Prop} (h : P := by
 obtain ⟨X, hX⟩ : ∃ X, X = V.btw y p := ⟨_, rfl⟩
 have hbw := fun w' => zem y p w' HYO.out.side HPO.out.side
 rw [← hX] at hbw HCC
 clear hX
 refine wp_region_held_drew (S := (fun W' => W'.cell? ⟨g, i * 3, none⟩ = some (.int .i64 y.e) /\ W'.cell? ⟨g, i * 3 + 1, none⟩ = some (.string ⟨y.v.toArray⟩) /\ W'.cell? ⟨g, i * 3 + 2, none⟩ = some (.int .i64 y.s) /\ W'.cell? ⟨g, i' * 3, none⟩ = some (.int .i64 p.e) /\ W'.cell? ⟨g, i' * 3 + 1, none⟩ = some (.string ⟨p.v.toArray⟩) /\ W'.cell? ⟨g, i' * 3 + 2, none⟩ = some (.int .i64 p.s))) (by kernel_rfl) (by (try dsimp only); (try simp only [World.cell?_drew]); exact ⟨y0, y1, y2, p0, p1, p2⟩) (fun hHeld => ?_)
 refine tk 0 ?_
 refine tk 1 ?_
 refine tk 2 ?_
 refine tk 3 ?_
 refine tk 4 ?_
 refine tk 5 ?_
 refine tk 6 ?_
 refine tk 7 ?_
 refine tk 8 ?_
 refine rd 9 fun K hK => ?_
 go_simp
 refine (hbw _).mono ?_
 rintro e wcb ⟨rfl, hbcb⟩
 unfold itvV
 have hbW : Below WF.heap.size WF wcb := (zv5 WF.heap.size WF).drew.trans (show Below WF.heap.size WF.drew wcb from hbcb)
 try dsimp only
 refine hK.out _ _ ?_ (fun hHeld => ?_)
 ·(try dsimp only); exact ⟨ze hbW y0, ze hbW y1, ze hbW y2, ze hbW p0, ze hbW p1, ze hbW p2⟩
 clear hK K
 try simp only [zvx, zvy, zvz, Act.put, zv0, List.set_cons_succ, List.set_cons_zero]
 refine rd 10 fun K hK => ?_
 go_simp
 have hbN : Below wcb.heap.size wcb (wcb.alloc (.cells #[.string ⟨X.lo.toArray⟩, .int .i64 X.lk, .string ⟨X.hi.toArray⟩, .int .i64 X.hk] 83)) := (zv5 _ wcb).alloc (zv4 _) _
 have hbV := hbW.trans (hbN.mono hbW.size)
 have HB9 := zv3 HBF2 hbV
 have HNW : Hid (∀ j u, (itvE X)[j]? = some u -> (wcb.alloc (.cells #[.string ⟨X.lo.toArray⟩, .int .i64 X.lk, .string ⟨X.hi.toArray⟩, .int .i64 X.hk] 83)).cell? ⟨wcb.heap.size, j, none⟩ = some u) := zv2 (fun j u hu => by rw [World.cell?_alloc_new]; simpa [itvE] using hu)
 refine hK.out _ _ ?_ (fun hHeld => ?_)
 ·(try dsimp only); exact ⟨ze hbV y0, ze hbV y1, ze hbV y2, ze hbV p0, ze hbV p1, ze hbV p2⟩
 clear hK K
 try simp only [zvx, zvy, zvz, Act.put, zv0, List.set_cons_succ, List.set_cons_zero]
 refine rd 11 fun K hK => ?_
 refine ja zkf (by decide) zoy ztb (by decide) rfl _ _ 66 rfl Tryz.underlying66 W1.heap.size ou D rfl (GRow.below HRF.out hbV) wcb.heap.size X rfl HNW.out (by have := HP.out.len; omega) HB9.out.size (fun v3 W3 hr3 hg3 => ?_)
 have hgb3 := GRow.block HRF.out
 refine hK.out _ _ ?_ (fun hHeld => ?_)
 ·(try dsimp only); exact ⟨zl hg3 hgb3 HGL.out (ze hbV y0), zl hg3 hgb3 HGL.out (ze hbV y1), zl hg3 hgb3 HGL.out (ze hbV y2), zl hg3 hgb3 HGL.out (ze hbV p0), zl hg3 hgb3 HGL.out (ze hbV p1), zl hg3 hgb3 HGL.out (ze hbV p2)⟩
 clear hK K
 try simp only [zvx, zvy, zvz, Act.put, zv0, List.set_cons_succ, List.set_cons_zero]
 refine tk 12 ?_
 refine wpAnyH_done (by kernel_rfl) ?_ _
 have HPI : Hid (PInv h C W1.heap.size i' (D ++ [X]) v3 W3) := zv2 ⟨hr3, HCC.out.2, by have := HP.out.len; have := HCC.out.1; simp; omega⟩
 have HB10 := zv2 (HB9.out.trans (zw hg3 hgb3 (zv4 _) HB9.out.size))
 have hlti := HCC.out.1
 clear hr3 hg3 hHeld hbN hbW hbV HNW hbcb y0 y1 y2 p0 p1 p2
 go_wp2
 go_roundw
 case rel => exact ⟨i', D ++ [X], _, by omega, by go_num, rfl, HPI.out, HB10.out⟩
 case measure => simp [intOf]; omega) : P := h
theorem zk6 (o n : Int) (va vb : Value) (a b : List V.Itv) (w : World) (hm : zk w) (hn : V.scheme n = true) (hva : Itvs w va a) (k2 : Itvs w vb b) (k3 : ∀ x ∈ a, V.zr n x = true) (hbb : ∀ x ∈ b, V.zr n x = true) (v7 : a.length ≤ 100) (v8 : b.length ≤ 100) :
  Calls Tryz.prog 191 #[.int .i64 o, setV n va, setV n vb] w fun e w' => ∃ u, e = .returned u /\ Itvs w' u (V.opR n (kj o) a b) /\ (∀ c, u.ownBlock = some c -> w.heap.size ≤ c) /\ Below w.heap.size w w' := by
 obtain ⟨h, hh⟩ : ∃ h : V.Ec -> V.Ec -> Bool, h = fun x y => kj o (V.ju n a x y) (V.ju n b x y) := ⟨_, rfl⟩
 have HH := zv2 hh
 have HF : Hid (V.opR n (kj o) a b = V.rrun h none (rcTo n a b 2)) := zv2 (by rw [hh]; rfl)
 have v9 := zv2 hva
 have y3 := zv2 k2
 have HSC := zv2 hn
 have y4 := zv2 k3
 have HBB := zv2 hbb
 have HM := zv2 hm
 have HOK := zv2 (rcTo_ok (n := n) k3 hbb)
 have q0 := zv2 (rcTo_pos n a b)
 have q1 := zv2 (fun j => rcTo_len n a b j v7 v8)
 obtain ⟨va, ca, rfl⟩ := hva.slice
 obtain ⟨vb, cb, rfl⟩ := k2.slice
 obtain ⟨W0, hW0⟩ : ∃ W0, W0 = (((w.alloc (.cells #[.int .i64 n, .slice va a.length ca] 68)).alloc (.cells #[.int .i64 n, .slice vb b.length cb] 68)).alloc (.cells #[.int .i64 (-1), .string ⟨#[]⟩, .int .i64 0, .int .i64 1, .string ⟨#[]⟩, .int .i64 0] 168)).alloc (.cells #[.int .i64 n, .slice va a.length ca, .int .i64 n, .slice vb b.length cb] 68) := ⟨_, rfl⟩
 have HB0 : Hid (Below w.heap.size w W0) := zv2 (by rw [hW0]; exact zbw _ _ _ _ _)
 have q2 : Hid (W0.cell? ⟨w.heap.size, 0, none⟩ = some (.int .i64 n)) := zv2 (by rw [hW0]; simp [zh]; try omega)
 have y5 : Hid (W0.cell? ⟨w.heap.size, 1, none⟩ = some (.slice va a.length ca)) := zv2 (by rw [hW0]; simp [zh]; try omega)
 have q3 : Hid (W0.cell? ⟨w.heap.size + 1, 0, none⟩ = some (.int .i64 n)) := zv2 (by rw [hW0]; simp [zh]; try omega)
 have q4 : Hid (W0.cell? ⟨w.heap.size + 1, 1, none⟩ = some (.slice vb b.length cb)) := zv2 (by rw [hW0]; simp [zh]; try omega)
 have k4 : Hid (∀ j, j < 2 -> ∃ s va vc, SetOf n a b (w.heap.size + 1 + 1 + 1) w W0 j s va vc) := zv2 (fun j hj => set_of hva k2 k3 hbb v7 v8 (by rw [hW0]; simp [zh]) (by rw [hW0]; simp [zh]) (by rw [hW0]; simp [zh]) (by rw [hW0]; simp [zh]) j hj)
 have y6 : Hid (Cuts w.heap.size (.slice (some ⟨w.heap.size + 1 + 1, 0, none⟩) 2 2) (rcTo n a b 0) W0) := zv2 ⟨⟨_, _, rfl, zv4 _⟩, rfl, .inr ⟨w.heap.size + 1 + 1, 2, #[.int .i64 (-1), .string ⟨#[]⟩, .int .i64 0, .int .i64 1, .string ⟨#[]⟩, .int .i64 0], rfl, by omega, by rw [hW0, heap_alloc, if_neg (by simp), heap_alloc, if_pos (by simp)], zv4 _, by unfold maxLen; omega, rfl, rfl⟩⟩
 have h6 : Hid (w.heap.size + 1 + 1 + 1 < W0.heap.size) := zv2 (by rw [hW0]; simp)
 clear hva k2 k3 hbb hm hn hh
 unfold setV
 go_enter Tryz.func191, Tryz.ntmps191
 go_wp2_with fail
 rw [← hW0]
 clear hW0
 go_loopw [7, 21] (fun cv jv wx => ∃ (j : Nat) (g cap : Nat), j ≤ 2 /\ jv = .int .i64 j /\ cv = .slice (some ⟨g, 0, none⟩) (rcTo n a b j).length cap /\ (rcTo n a b j).length ≤ cap /\ zc8 wx w.heap.size cv (rcTo n a b j) /\ Below W0.heap.size W0 wx) (fun _ jv _ => 2 - (intOf jv).toNat)
 case atStart => exact ⟨0, _, _, by omega, rfl, rfl, zv4 _, y6.out.row, zv5 _ _⟩
 case round =>
  obtain ⟨j, g, cap, hj, rfl, rfl, j9, j0, j3⟩ := hrel
  have g8 := zv2 j0
  have HBX := zv2 j3
  have HBF := zv3 HB0 j3
  clear j0 j3
  by_cases y7 : j < 2
  ·obtain ⟨s, sva, svc, j4⟩ := k4.out j y7
   have h8 := zv2 j4
   have l0 := (HBX.out.cell (p := ⟨w.heap.size + 1 + 1 + 1, j * 2, none⟩) h6.out).trans j4.c0
   have l1 := (HBX.out.cell (p := ⟨w.heap.size + 1 + 1 + 1, j * 2 + 1, none⟩) h6.out).trans j4.c1
   have J2 : (0 : Int) ≤ (j : Int) := by omega
   have J3 : (j : Int) < 2 := by omega
   clear j4
   have hbA : Below wr.heap.size wr (wr.alloc (.cells #[.int .i64 n, .slice sva s.length svc] 68)) := (zv5 _ wr).alloc (zv4 _) _
   have G9 := zv3 HBX hbA
   have k5 := zv2 (GRow.below g8.out hbA)
   have m0 : (wr.alloc (.cells #[.int .i64 n, .slice sva s.length svc] 68)).cell? ⟨wr.heap.size, 1, none⟩ = some (.slice sva s.length svc) := by simp [zh]
   have y8 := zv2 m0
   have y9 : wr.heap.size < (wr.alloc (.cells #[.int .i64 n, .slice sva s.length svc] 68)).heap.size := by simp
   clear hbA m0
   go_wp2_with fail
   generalize wr.alloc (.cells #[.int .i64 n, .slice sva s.length svc] 68) = W9 at *
   obtain ⟨X9, q5⟩ : ∃ X, X = wr.heap.size := ⟨_, rfl⟩
   rw [← q5] at y8 y9 ⊢
   have U5 := zv2 q5
   clear l0 l1 q5
   obtain ⟨F, hF⟩ : ∃ F : Nat -> List V.Ec, F = fun k => (s.take k).foldl (V.addI n) (rcTo n a b j) := ⟨_, rfl⟩
   have J4 : Hid (F 0 = rcTo n a b j) := zv2 (by rw [hF]; rfl)
   have HFE : Hid (F s.length = rcTo n a b (j + 1)) := zv2 (by rw [hF, h8.out.next]; simp)
   have J5 : Hid (∀ k (hk : k < s.length), F (k + 1) = V.radd n (V.kr s[k]) (V.radd n (V.eLow s[k]) (F k))) := zv2 (fun k hk => by rw [hF]; exact V.zue _ hk)
   have HFO : Hid (∀ k, ∀ y ∈ F k, V.EcOk n y) := zv2 (fun k => by rw [hF]; exact V.zn3 (fun x hx => h8.out.bnd x (List.mem_of_mem_take hx)) (HOK.out j))
   have J6 : Hid (∀ k, 0 < (F k).length) := zv2 (fun k => by rw [hF]; exact V.zjo _ _ _ (q0.out j))
   have J7 : Hid (∀ k, (F k).length ≤ 602) := zv2 (fun k => by
     have h1 := V.zj4 n (s.take k) (rcTo n a b j)
     have h2 := q1.out j
     have h3 := h8.out.len
     rw [List.length_take] at h1
     rw [hF]
     show ((s.take k).foldl (V.addI n) (rcTo n a b j)).length ≤ 602
     omega)
   have J8 : Hid (∃ g' cap' : Nat, (.slice (some ⟨g, 0, none⟩) (rcTo n a b j).length cap : Value) = .slice (some ⟨g', 0, none⟩) (F 0).length cap' /\ (F 0).length ≤ cap' /\ zc8 W9 w.heap.size (.slice (some ⟨g, 0, none⟩) (rcTo n a b j).length cap) (F 0)) := zv2 (by rw [J4.out]; exact ⟨g, cap, rfl, j9, k5.out⟩)
   have hsl := h8.out.len
   clear hF j9 k5 g8
   go_loopw [7, 10] (fun cv kv wx => ∃ (k g' cap' : Nat), k ≤ s.length /\ kv = .int .i64 k /\ cv = .slice (some ⟨g', 0, none⟩) (F k).length cap' /\ (F k).length ≤ cap' /\ zc8 wx w.heap.size cv (F k) /\ Below W9.heap.size W9 wx) (fun _ kv _ => s.length - (intOf kv).toNat)
   case atStart =>
    obtain ⟨g', cap', e1, e2, e3⟩ := J8.out
    exact ⟨0, g', cap', Nat.zero_le _, rfl, e1, e2, e3, zv5 _ _⟩
   case round =>
    obtain ⟨k, gk, ck, hk, rfl, rfl, z3, j0, hbk⟩ := hrel
    have g8 := zv2 j0
    have HBK := zv2 hbk
    have HBW := zv3 G9 hbk
    have q6 := zv2 (HB0.out.trans (HBW.out.mono HB0.out.size))
    have m1 := (hbk.cell (p := ⟨X9, 1, none⟩) y9).trans y8.out
    clear j0 hbk
    by_cases hlt : k < s.length
    ·obtain ⟨b', off, rfl, J9, hx⟩ := h8.out.itvs.at k hlt
     obtain ⟨h0, h1, h2, h3⟩ := hx.below J9 q6.out
     have a0 := (HBW.out.cell (p := ⟨w.heap.size, 0, none⟩) (by have := h6.out; simp; omega)).trans q2.out
     have Q0 : (0 : Int) ≤ (k : Int) := by omega
     have Q1 : (k : Int) < (s.length : Int) := by omega
     have q7 : Hid (V.zr n s[k] = true) := zv2 (h8.out.bnd _ (List.getElem_mem hlt))
     have HST := zv2 (J5.out k hlt)
     have Q2 := zv2 (HM.out.below q6.out)
     have Q3 := J6.out k
     have hp2 := J7.out k
     clear hx
     generalize s[k] = x at *
     have z4 := V.zb3 n (V.eLow x) (F k)
     obtain ⟨z4, z5⟩ := z4
     go_wp2_with fail
     refine wp_region_held_drew (S := (fun W' => zk W' /\ W'.cell? ⟨w.heap.size, 0, none⟩ = some (.int .i64 n) /\ W'.cell? ⟨X9, 1, none⟩ = some (.slice (some ⟨b', off, none⟩) s.length svc) /\ W'.cell? ⟨b', off + k * 4, none⟩ = some (.string ⟨x.lo.toArray⟩) /\ W'.cell? ⟨b', off + k * 4 + 1, none⟩ = some (.int .i64 x.lk) /\ W'.cell? ⟨b', off + k * 4 + 2, none⟩ = some (.string ⟨x.hi.toArray⟩) /\ W'.cell? ⟨b', off + k * 4 + 3, none⟩ = some (.int .i64 x.hk))) (by kernel_rfl) (by (try dsimp only); (try simp only [World.cell?_drew]); exact ⟨Q2.out.below (zv5 _ _).drew, a0, m1, h0, h1, h2, h3⟩) (fun hHeld => ?_)
     refine tk 0 ?_
     refine tk 1 ?_
     refine tk 2 ?_
     refine tk 3 ?_
     refine tk 4 ?_
     refine tk 5 ?_
     refine tk 6 ?_
     refine tk 7 ?_
     refine tk 8 ?_
     refine tk 9 ?_
     refine tk 12 ?_
     refine tk 13 ?_
     refine tk 14 ?_
     refine tk 15 ?_
     refine tk 16 ?_
     refine rd 10 fun K hK => ?_
     go_simp
     refine (vg x _).mono ?_
     rintro e wc10 ⟨rfl, g7⟩
     try dsimp only
     refine hK.out _ _ ?_ (fun hHeld => ?_)
     ·(try dsimp only); go_split_ands; exact ⟨zk.below (by assumption) g7, zv8 g7, zv8 g7, zv8 g7, zv8 g7, zv8 g7, zv8 g7⟩
     clear hK K
     try simp only [zvx, zvy, zvz, Act.put, zv0, List.set_cons_succ, List.set_cons_zero]
     refine rd 11 fun K hK => ?_
     go_simp
     refine (zlx n (V.eLow x) gk 0 ck (F k) _ (by first | assumption | exact And.left (by assumption)) HSC.out (V.zai q7.out) (GRow.gsl xu (GRow.below (GRow.below g8.out (zv5 _ _).drew) g7)) (HFO.out k) Q3 z3 (by omega)).mono ?_
     rintro e wc11 ⟨u1, rfl, q8, hbc11⟩
     obtain ⟨g1, cap1, rfl, k6, _, _⟩ := zc8.opened q8 z5
     try dsimp only
     refine hK.out _ _ ?_ (fun hHeld => ?_)
     ·exact zy5
     clear hK K
     try simp only [zvx, zvy, zvz, Act.put, zv0, List.set_cons_succ, List.set_cons_zero]
     refine rd 17 fun K hK => ?_
     go_simp
     refine (vp x _).mono ?_
     rintro e wc17 ⟨rfl, g6⟩
     try dsimp only
     refine hK.out _ _ ?_ (fun hHeld => ?_)
     ·(try dsimp only); go_split_ands; exact ⟨zk.below (by assumption) g6, zv8 g6, zv8 g6, zv8 g6, zv8 g6, zv8 g6, zv8 g6⟩
     clear hK K
     try simp only [zvx, zvy, zvz, Act.put, zv0, List.set_cons_succ, List.set_cons_zero]
     refine rd 18 fun K hK => ?_
     go_simp
     refine (zlx n (V.kr x) g1 0 cap1 (V.radd n (V.eLow x) (F k)) _ (by first | assumption | exact And.left (by assumption)) HSC.out (V.zav q7.out) (GRow.gsl xu (GRow.below q8 g6)) (V.zh6 (V.zai q7.out) (HFO.out k)) z5 k6 (by omega)).mono ?_
     rintro e wc18 ⟨u2, rfl, q9, g9⟩
     obtain ⟨g2, cap2, rfl, k7, _, _⟩ := zc8.opened q9 (V.zb3 n _ _).2
     try dsimp only
     refine hK.out _ _ ?_ (fun hHeld => ?_)
     ·(try dsimp only); go_split_ands; exact ⟨zk.below (by assumption) g9, zv8 g9, zv8 g9, zv8 g9, zv8 g9, zv8 g9, zv8 g9⟩
     clear hK K
     try simp only [zvx, zvy, zvz, Act.put, zv0, List.set_cons_succ, List.set_cons_zero]
     refine tk 19 ?_
     refine wpAnyH_done (by kernel_rfl) ?_ _
     have k0 : Below wr.heap.size wr wc11 := ((zv5 wr.heap.size wr).drew.trans (show Below wr.heap.size wr.drew wc10 from g7)).trans (hbc11.mono (show wr.heap.size ≤ wc10.heap.size from g7.size))
     have z6 : Below wr.heap.size wr wc18 := k0.trans ((g6.trans (g9.mono g6.size)).mono k0.size)
     have v0 : wr.heap.size ≤ wc17.heap.size := Nat.le_trans k0.size g6.size
     have Q4 := zv3 HBK z6
     have Q5 : Hid (zc8 wc18 w.heap.size (.slice (some ⟨g2, 0, none⟩) (F (k + 1)).length cap2) (F (k + 1))) := zv2 (by rw [HST.out]; exact GRow.weaken q9 (Nat.le_trans q6.out.size v0))
     have Q6 : Hid ((F (k + 1)).length ≤ cap2) := zv2 (by rw [HST.out]; exact k7)
     rw [← HST.out]
     clear q8 q9 k7 k6 g7 hbc11 g6 g9 hHeld z6 v0 m1 h0 h1 h2 h3 a0
     go_wp2
     go_roundw
     case rel => exact ⟨k + 1, _, _, by omega, by go_num, rfl, Q6.out, Q5.out, Q4.out⟩
     case measure => simp [intOf]; omega
    ·obtain rfl : k = s.length := by omega
     have Q7 : Hid (∃ (g cap : Nat), (.slice (some ⟨gk, 0, none⟩) (F s.length).length ck : Value) = .slice (some ⟨g, 0, none⟩) (rcTo n a b (j + 1)).length cap /\ (rcTo n a b (j + 1)).length ≤ cap /\ zc8 wr w.heap.size (.slice (some ⟨gk, 0, none⟩) (F s.length).length ck) (rcTo n a b (j + 1))) := zv2 (by rw [← HFE.out]; exact ⟨gk, ck, rfl, z3, g8.out⟩)
     go_wp2
     go_roundw
     case rel =>
      obtain ⟨g2, c2, e1, e2, e3⟩ := Q7.out
      exact ⟨j + 1, g2, c2, by omega, by go_num, e1, e2, e3, HBW.out⟩
     case measure => simp [intOf]; omega
  ·have HF : Hid (V.opR n (kj o) a b = V.rrun h none (rcTo n a b j)) := zv2 (by rw [HF.out, show j = 2 by omega])
   have U6 : ¬ (j : Int) < 2 := by omega
   obtain ⟨C, hC⟩ : ∃ C, C = rcTo n a b j := ⟨_, rfl⟩
   have j1 := zv2 (HOK.out j)
   have v1 := q0.out j
   have J0 := q1.out j
   rw [← hC] at HF g8 j9 j1 v1 J0 ⊢
   clear hC k4 y6 HOK q0 q1 hj
   have z7 := zv2 (HM.out.below HBF.out)
   have z8 := zv2 ((HBX.out.cell (p := ⟨w.heap.size, 0, none⟩) (by have := h6.out; simp; omega)).trans q2.out)
   have z9 := zv2 ((HBX.out.cell (p := ⟨w.heap.size, 1, none⟩) (by have := h6.out; simp; omega)).trans y5.out)
   have HB2 := zv2 ((HBX.out.cell (p := ⟨w.heap.size + 1, 0, none⟩) (by have := h6.out; simp; omega)).trans q3.out)
   have HB3 := zv2 ((HBX.out.cell (p := ⟨w.heap.size + 1, 1, none⟩) (by have := h6.out; simp; omega)).trans q4.out)
   have j6 : Hid (∀ i (hi : i < C.length), wr.cell? ⟨g, i * 3, none⟩ = some (.int .i64 C[i].e) /\ wr.cell? ⟨g, i * 3 + 1, none⟩ = some (.string ⟨C[i].v.toArray⟩) /\ wr.cell? ⟨g, i * 3 + 2, none⟩ = some (.int .i64 C[i].s)) := zv2 (fun i hi => by
     obtain ⟨g', c', e, _, _, hc⟩ := GRow.at xu g8.out i hi
     cases e
     exact zpd hc)
   have HGL : Hid (g < wr.heap.size) := zv2 (by
     obtain ⟨g', c', e, _, hg, _⟩ := GRow.at xu g8.out 0 v1
     cases e
     exact hg)
   have Q8 : Hid (w.heap.size + 1 < wr.heap.size) := zv2 (by have := h6.out; have := HBX.out.size; omega)
   have G0 := zv2 (v9.out.below HBF.out)
   have G1 := zv2 (y3.out.below HBF.out)
   clear g8 HBX h6 q2 y5 q3 q4 HB0 v9 y3 HM
   go_wp2_with fail
   generalize wr = W1 at *
   go_loopw [11, 12] (fun ov iv wx => ∃ (i : Nat) (D : List V.Itv) (u : Value), i ≤ C.length /\ iv = .int .i64 i /\ u = ov /\ PInv h C W1.heap.size i D u wx /\ Below W1.heap.size W1 wx) (fun _ iv _ => C.length - (intOf iv).toNat)
   case atStart => exact ⟨0, [], _, Nat.zero_le _, rfl, rfl, ⟨GRow.nil _ _, rfl, Nat.zero_le _⟩, zv5 _ _⟩
   case round =>
    obtain ⟨i, D, ou, hi, rfl, rfl, hp, j3⟩ := hrel
    have HP := zv2 hp
    have HBX := zv2 j3
    clear hp j3
    obtain ⟨wo, Q9⟩ : ∃ wo : World, wo = wr := ⟨_, rfl⟩
    subst Q9
    by_cases hlt : i + 1 < C.length
    ·have h9 : i < C.length := by omega
     obtain ⟨y0, y1, y2⟩ := j6.out i h9
     obtain ⟨z0, z1, z2⟩ := j6.out (i + 1) hlt
     have y0 := ze HBX.out y0
     have y1 := ze HBX.out y1
     have y2 := ze HBX.out y2
     have z0 := ze HBX.out z0
     have z1 := ze HBX.out z1
     have z2 := ze HBX.out z2
     have a0 := ze HBX.out z8.out
     have a1 := ze HBX.out z9.out
     have b0 := ze HBX.out HB2.out
     have b1 := ze HBX.out HB3.out
     have k8 := zv2 (z7.out.below HBX.out)
     have J2 : (0 : Int) ≤ (i : Int) := by omega
     have J3 : (i : Int) < (C.length : Int) := by omega
     have Q0 : (0 : Int) ≤ (i : Int) + 1 := by omega
     have Q1 : (i : Int) + 1 < (C.length : Int) := by omega
     have U7 : ((i : Int) + 1).toNat = i + 1 := by omega
     have U8 : IntKind.i64.wrap ((i : Int) + 1) = (i : Int) + 1 := by rw [IntKind.wrap_i64]; omega
     have HYO := zv2 (j1.out _ (List.getElem_mem h9))
     have j7 := zv2 (j1.out _ (List.getElem_mem hlt))
     have v2 := zv2 (fun hn => V.zua (h := h) hlt hn)
     obtain ⟨q, hq⟩ : ∃ q, q = h C[i] C[i + 1] := ⟨_, rfl⟩
     have HQ : Hid (q = kj o (V.ju n a C[i] C[i + 1]) (V.ju n b C[i] C[i + 1])) := zv2 (by rw [hq, HH.out])
     have G2 := zv2 hq
     rw [← hq] at v2
     clear hq
     generalize G3 : C[i] = y at *
     generalize G4 : C[i + 1] = z at *
     have U0 := zv2 G4
     clear G4
     have v3 := zv2 G3
     clear G3
     have G5 : Hid (q = h y z) := G2
     go_wp2_with fail
     refine wp_region_held_drew (S := (fun W' => zk W' /\ W'.cell? ⟨w.heap.size, 0, none⟩ = some (.int .i64 n) /\ W'.cell? ⟨w.heap.size, 1, none⟩ = some (.slice va a.length ca) /\ W'.cell? ⟨w.heap.size + 1, 0, none⟩ = some (.int .i64 n) /\ W'.cell? ⟨w.heap.size + 1, 1, none⟩ = some (.slice vb b.length cb) /\ W'.cell? ⟨g, i * 3, none⟩ = some (.int .i64 y.e) /\ W'.cell? ⟨g, i * 3 + 1, none⟩ = some (.string ⟨y.v.toArray⟩) /\ W'.cell? ⟨g, i * 3 + 2, none⟩ = some (.int .i64 y.s) /\ W'.cell? ⟨g, (i + 1) * 3, none⟩ = some (.int .i64 z.e) /\ W'.cell? ⟨g, (i + 1) * 3 + 1, none⟩ = some (.string ⟨z.v.toArray⟩) /\ W'.cell? ⟨g, (i + 1) * 3 + 2, none⟩ = some (.int .i64 z.s))) (by kernel_rfl) (by (try dsimp only); (try simp only [World.cell?_drew]); exact ⟨k8.out.below (zv5 _ _).drew, a0, a1, b0, b1, y0, y1, y2, z0, z1, z2⟩) (fun hHeld => ?_)
     refine tk 0 ?_
     refine tk 1 ?_
     refine tk 2 ?_
     refine tk 3 ?_
     refine tk 4 ?_
     refine tk 5 ?_
     refine tk 6 ?_
     refine tk 7 ?_
     refine tk 8 ?_
     refine tk 9 ?_
     refine tk 10 ?_
     refine tk 12 ?_
     refine tk 13 ?_
     refine tk 14 ?_
     refine tk 15 ?_
     refine tk 16 ?_
     refine tk 17 ?_
     refine tk 18 ?_
     refine tk 19 ?_
     refine tk 20 ?_
     refine tk 21 ?_
     refine rd 11 fun K hK => ?_
     go_simp
     have h5 : Below W1.heap.size W1 wo.drew := HBX.out.drew
     refine (zak n (.slice va a.length ca) a y z _ (by first | assumption | exact And.left (by assumption)) HSC.out (G0.out.below h5) y4.out HYO.out j7.out (by omega)).mono ?_
     rintro e wc11 ⟨rfl, hbc11⟩
     try dsimp only
     refine hK.out _ _ ?_ (fun hHeld => ?_)
     ·(try dsimp only); go_split_ands; exact ⟨zk.below (by assumption) hbc11, zv8 hbc11, zv8 hbc11, zv8 hbc11, zv8 hbc11, zv8 hbc11, zv8 hbc11, zv8 hbc11, zv8 hbc11, zv8 hbc11, zv8 hbc11⟩
     clear hK K
     try simp only [zvx, zvy, zvz, Act.put, zv0, List.set_cons_succ, List.set_cons_zero]
     refine rd 22 fun K hK => ?_
     go_simp
     have j2 := h5.trans (hbc11.mono h5.size)
     have h4 : Below wo.heap.size wo wc11 := (zv5 wo.heap.size wo).drew.trans (show Below wo.heap.size wo.drew wc11 from hbc11)
     refine (zak n (.slice vb b.length cb) b y z _ (by first | assumption | exact And.left (by assumption)) HSC.out (G1.out.below j2) HBB.out HYO.out j7.out (by omega)).mono ?_
     rintro e wc22 ⟨rfl, hbc22⟩
     try dsimp only
     refine hK.out _ _ ?_ (fun hHeld => ?_)
     ·exact zyc
     clear hK K
     try simp only [zvx, zvy, zvz, Act.put, zv0, List.set_cons_succ, List.set_cons_zero]
     refine rd 23 fun K hK => ?_
     go_simp
     refine (zg5 o _ _ _).mono ?_
     rintro e wc23 ⟨rfl, hbc23⟩
     try dsimp only
     rw [← HQ.out]
     refine hK.out _ _ ?_ (fun hHeld => ?_)
     ·exact zyb
     clear hK K
     try simp only [zvx, zvy, zvz, Act.put, zv0, List.set_cons_succ, List.set_cons_zero]
     refine tk 24 ?_
     refine wpAnyH_done (by kernel_rfl) ?_ _
     have g5 : Below wo.heap.size wo wc23 := (h4.trans (hbc22.mono h4.size)).trans (hbc23.mono (Nat.le_trans h4.size hbc22.size))
     have U9 := zv2 g5
     have HBY := zv3 HBX g5
     have g8 := zv2 (GRow.below HP.out.row g5)
     clear g5 h5 j2 h4 hbc11 hbc22 hbc23 hHeld y0 y1 y2 z0 z1 z2 a0 a1 b0 b1
     generalize wc23 = WI at *
     rcases h7 : q with _ | _
     ·have HPI : Hid (PInv h C W1.heap.size (i + 1) D ou WI) := zv2 ⟨g8.out, by rw [HP.out.fold, v2.out h7], by have := HP.out.len; omega⟩
      clear h7
      go_wp2
      go_roundw
      case rel => exact ⟨i + 1, D, ou, by omega, by go_num, rfl, HPI.out, HBY.out⟩
      case measure => simp [intOf]; omega
     ·have U1 : Hid (h C[i] C[i + 1] = true) := zv2 (by rw [v3.out, U0.out, ← G5.out]; exact h7)
      clear h7 v2 HQ G2 G5
      go_wp2_with fail
      simp only [Bool.not_true]
      go_loopw [12] (fun iv wx => ∃ i' : Nat, i ≤ i' /\ i' < C.length /\ iv = .int .i64 i' /\ zcu h C D y i i' /\ Below WI.heap.size WI wx) (fun iv _ => C.length - (intOf iv).toNat)
      case atStart => exact ⟨i, zv4 _, h9, rfl, .inl rfl, zv5 _ _⟩
      case round =>
       obtain ⟨i', V0, v4, rfl, G6, v5⟩ := hrel
       have HPC := zv2 G6
       have G7 := zv2 v5
       have HBX := zv3 HBY v5
       clear G6 v5
       have k8 := zv2 (z7.out.below HBX.out)
       obtain ⟨y0, y1, y2⟩ := j6.out i h9
       rw [v3.out] at y0 y1 y2
       obtain ⟨p0, p1, p2⟩ := j6.out i' v4
       have y0 := ze HBX.out y0
       have y1 := ze HBX.out y1
       have y2 := ze HBX.out y2
       have p0 := ze HBX.out p0
       have p1 := ze HBX.out p1
       have p2 := ze HBX.out p2
       have V1 : (0 : Int) ≤ (i' : Int) := by omega
       have y7 : (i' : Int) < (C.length : Int) := by omega
       have HPO := zv2 (j1.out _ (List.getElem_mem v4))
       have k9 := zv2 (fun hn => HPC.out.close v4 hlt U1.out hn)
       by_cases hlt2 : i' + 1 < C.length
       ·obtain ⟨z0, z1, z2⟩ := j6.out (i' + 1) hlt2
        have z0 := ze HBX.out z0
        have z1 := ze HBX.out z1
        have z2 := ze HBX.out z2
        have a0 := ze HBX.out z8.out
        have a1 := ze HBX.out z9.out
        have b0 := ze HBX.out HB2.out
        have b1 := ze HBX.out HB3.out
        have V2 : (0 : Int) ≤ (i' : Int) + 1 := by omega
        have G8 : (i' : Int) + 1 < (C.length : Int) := by omega
        have V3 : ((i' : Int) + 1).toNat = i' + 1 := by omega
        have U2 : IntKind.i64.wrap ((i' : Int) + 1) = (i' : Int) + 1 := by rw [IntKind.wrap_i64]; omega
        have j7 := zv2 (j1.out _ (List.getElem_mem hlt2))
        have v6 : Hid (C[i]'h9 = y) := v3
        have j8 := zv2 (fun hn => zcu.step (h := h) (D := D) h9 (by rw [v6.out]; exact HPC.out) HP.out.fold hlt2 hn)
        rw [v6.out] at j8
        obtain ⟨q, hq⟩ : ∃ q, q = h C[i'] C[i' + 1] := ⟨_, rfl⟩
        have HQ : Hid (q = kj o (V.ju n a C[i'] C[i' + 1]) (V.ju n b C[i'] C[i' + 1])) := zv2 (by rw [hq, HH.out])
        have k1 : Hid (q = false -> i < i' /\ V.rrun h none C = (D ++ [V.btw y C[i']]) ++ V.rrun h none (C.drop i')) := zv2 (fun hn => k9.out (fun _ => by rw [← hq]; exact hn))
        rw [← hq] at j8
        clear hq k9 v6
        generalize C[i'] = p at *
        generalize C[i' + 1] = z at *
        go_wp2_with fail
        refine wp_region_held_drew (S := (fun W' => zk W' /\ W'.cell? ⟨w.heap.size, 0, none⟩ = some (.int .i64 n) /\ W'.cell? ⟨w.heap.size, 1, none⟩ = some (.slice va a.length ca) /\ W'.cell? ⟨w.heap.size + 1, 0, none⟩ = some (.int .i64 n) /\ W'.cell? ⟨w.heap.size + 1, 1, none⟩ = some (.slice vb b.length cb) /\ W'.cell? ⟨g, i' * 3, none⟩ = some (.int .i64 p.e) /\ W'.cell? ⟨g, i' * 3 + 1, none⟩ = some (.string ⟨p.v.toArray⟩) /\ W'.cell? ⟨g, i' * 3 + 2, none⟩ = some (.int .i64 p.s) /\ W'.cell? ⟨g, (i' + 1) * 3, none⟩ = some (.int .i64 z.e) /\ W'.cell? ⟨g, (i' + 1) * 3 + 1, none⟩ = some (.string ⟨z.v.toArray⟩) /\ W'.cell? ⟨g, (i' + 1) * 3 + 2, none⟩ = some (.int .i64 z.s))) (by kernel_rfl) (by (try dsimp only); (try simp only [World.cell?_drew]); exact ⟨k8.out.below (zv5 _ _).drew, a0, a1, b0, b1, p0, p1, p2, z0, z1, z2⟩) (fun hHeld => ?_)
        refine tk 0 ?_
        refine tk 1 ?_
        refine tk 2 ?_
        refine tk 3 ?_
        refine tk 4 ?_
        refine tk 5 ?_
        refine tk 6 ?_
        refine tk 7 ?_
        refine tk 8 ?_
        refine tk 9 ?_
        refine tk 10 ?_
        refine tk 11 ?_
        refine tk 12 ?_
        refine tk 13 ?_
        refine tk 14 ?_
        refine tk 15 ?_
        refine tk 16 ?_
        refine tk 18 ?_
        refine tk 19 ?_
        refine tk 20 ?_
        refine tk 21 ?_
        refine tk 22 ?_
        refine tk 23 ?_
        refine tk 24 ?_
        refine tk 25 ?_
        refine tk 26 ?_
        refine tk 27 ?_
        refine rd 17 fun K hK => ?_
        go_simp
        have h5 : Below W1.heap.size W1 wr.drew := HBX.out.drew
        refine (zak n (.slice va a.length ca) a p z _ (by first | assumption | exact And.left (by assumption)) HSC.out (G0.out.below h5) y4.out HPO.out j7.out (by omega)).mono ?_
        rintro e wcj17 ⟨rfl, g0⟩
        try dsimp only
        refine hK.out _ _ ?_ (fun hHeld => ?_)
        ·(try dsimp only); go_split_ands; exact ⟨zk.below (by assumption) g0, zv8 g0, zv8 g0, zv8 g0, zv8 g0, zv8 g0, zv8 g0, zv8 g0, zv8 g0, zv8 g0, zv8 g0⟩
        clear hK K
        try simp only [zvx, zvy, zvz, Act.put, zv0, List.set_cons_succ, List.set_cons_zero]
        refine rd 28 fun K hK => ?_
        go_simp
        have j2 := h5.trans (g0.mono h5.size)
        have h4 : Below wr.heap.size wr wcj17 := (zv5 wr.heap.size wr).drew.trans (show Below wr.heap.size wr.drew wcj17 from g0)
        refine (zak n (.slice vb b.length cb) b p z _ (by first | assumption | exact And.left (by assumption)) HSC.out (G1.out.below j2) HBB.out HPO.out j7.out (by omega)).mono ?_
        rintro e wcj28 ⟨rfl, g3⟩
        try dsimp only
        refine hK.out _ _ ?_ (fun hHeld => ?_)
        ·(try dsimp only); go_split_ands; exact ⟨zk.below (by assumption) g3, zv8 g3, zv8 g3, zv8 g3, zv8 g3, zv8 g3, zv8 g3, zv8 g3, zv8 g3, zv8 g3, zv8 g3⟩
        clear hK K
        try simp only [zvx, zvy, zvz, Act.put, zv0, List.set_cons_succ, List.set_cons_zero]
        refine rd 29 fun K hK => ?_
        go_simp
        refine (zg5 o _ _ _).mono ?_
        rintro e wcj29 ⟨rfl, g4⟩
        try dsimp only
        rw [← HQ.out]
        refine hK.out _ _ ?_ (fun hHeld => ?_)
        ·(try dsimp only); go_split_ands; exact ⟨zk.below (by assumption) g4, zv8 g4, zv8 g4, zv8 g4, zv8 g4, zv8 g4, zv8 g4, zv8 g4, zv8 g4, zv8 g4, zv8 g4⟩
        clear hK K
        try simp only [zvx, zvy, zvz, Act.put, zv0, List.set_cons_succ, List.set_cons_zero]
        refine tk 30 ?_
        refine wpAnyH_done (by kernel_rfl) ?_ _
        have g5 : Below wr.heap.size wr wcj29 := (h4.trans (g3.mono h4.size)).trans (g4.mono (Nat.le_trans h4.size g3.size))
        have j5 := zv3 G7 g5
        have J1 := zv3 HBX g5
        have y0 := ze g5 y0
        have y1 := ze g5 y1
        have y2 := ze g5 y2
        have p0 := ze g5 p0
        have p1 := ze g5 p1
        have p2 := ze g5 p2
        clear g5 h5 j2 h4 g0 g3 g4 hHeld z0 z1 z2 a0 a1 b0 b1
        rcases h7 : q with _ | _
        ·have HCC := zv2 (k1.out h7)
         clear h7 k1 j8 HQ
         have HRF := zv2 (GRow.below g8.out j5.out)
         have HBF2 := J1
         go_wp2_with fail
         generalize wcj29 = WF at *
         exact zwb
        ·have U3 := zv2 (j8.out h7)
         clear h7 k1 j8 HQ
         go_wp2
         go_roundw
         case rel => exact ⟨i' + 1, by omega, by omega, by go_num, U3.out, j5.out⟩
         case measure => simp [intOf]; omega
       ·have HCC := zv2 (k9.out (fun hj => absurd hj hlt2))
        have G8 : ¬ (i' : Int) + 1 < (C.length : Int) := by omega
        have V4 : decide ((i' : Int) + 1 < (C.length : Int)) = false := decide_eq_false G8
        have U2 : IntKind.i64.wrap ((i' : Int) + 1) = (i' : Int) + 1 := by rw [IntKind.wrap_i64]; omega
        clear k9
        generalize C[i'] = p at *
        go_wp2_with fail
        refine wp_region_held_drew (S := (fun W' => zk W')) (by kernel_rfl) (by (try dsimp only); exact k8.out.below (zv5 _ _).drew) (fun hHeld => ?_)
        refine tk 0 ?_
        refine tk 1 ?_
        refine tk 2 ?_
        refine tk 3 ?_
        refine tk 4 ?_
        refine tk 5 ?_
        refine tu 6 ?_
        refine tu 7 ?_
        refine tu 8 ?_
        refine tu 9 ?_
        refine tu 10 ?_
        refine tu 11 ?_
        refine tu 12 ?_
        refine tu 13 ?_
        refine tu 14 ?_
        refine tu 15 ?_
        refine tu 16 ?_
        refine tu 17 ?_
        refine tu 18 ?_
        refine tu 19 ?_
        refine tu 20 ?_
        refine tu 21 ?_
        refine tu 22 ?_
        refine tu 23 ?_
        refine tu 24 ?_
        refine tu 25 ?_
        refine tu 26 ?_
        refine tu 27 ?_
        refine tu 28 ?_
        refine tu 29 ?_
        refine tk 30 ?_
        refine wpAnyH_done (by kernel_rfl) ?_ _
        have g5 : Below wr.heap.size wr wr.drew := (zv5 wr.heap.size wr).drew
        have j5 := zv3 G7 g5
        have HBF2 := zv3 HBX g5
        have y0 := ze g5 y0
        have y1 := ze g5 y1
        have y2 := ze g5 y2
        have p0 := ze g5 p0
        have p1 := ze g5 p1
        have p2 := ze g5 p2
        have HRF := zv2 (GRow.below g8.out j5.out)
        clear g5 hHeld
        go_wp2_with fail
        generalize wr.drew = WF at *
        exact zwb
    ·have HR := zv2 (V.rrun_end (h := h) hlt)
     have U4 : Hid (V.opR n (kj o) a b = D) := zv2 (by rw [HF.out, HP.out.fold, HR.out, List.append_nil])
     go_wp2
     go_ret
     exact ⟨_, rfl, by rw [U4.out]; exact ItRow.itvs HP.out.row, (fun c hc => by have := GRow.block HP.out.row c hc; have := Q8.out; omega), HBF.out.trans (HBX.out.mono HBF.out.size)⟩
end Go.Proofs.YtbikeahmldobkaaGreatDoor
