/-
  Lemmas for the law.
-/
import Derived.Test.YtbikeahmldobkaaGreatDoorC51x36
import Derived.Test.YtbikeahmldobkaaGreatDoorC51x18
import Derived.Test.YtbikeahmldobkaaGreatDoorC51x21
set_option linter.all false
set_option maxRecDepth 100000
set_option maxHeartbeats 12800000
namespace Go.Proofs.YtbikeahmldobkaaGreatDoor
open Go.RowKit
theorem zc0.opened {w : World} {N : Nat} {v : Value} {l : List V.Ec} (h : zc0 w N v l) (h0 : 0 < l.length) : ∃ g cap, v = .slice (some ⟨g, 0, none⟩) l.length cap /\ l.length ≤ cap /\ N ≤ g /\ g < w.heap.size := by
 rcases h.2 with ⟨rfl, hn⟩ | ⟨g, cap, cur, rfl, hb, hg, g0, _⟩
 ·omega
 ·exact ⟨g, cap, rfl, g0, hb, (Array.getElem?_eq_some_iff.1 hg).1⟩
structure Cuts (N : Nat) (v : Value) (l : List V.Ec) (w : World) : Prop where
 opened : ∃ g cap, v = .slice (some ⟨g, 0, none⟩) l.length cap /\ l.length ≤ cap
 row : zc0 w N v l
def rcTo (n : Int) (a b : List V.Itv) (j : Nat) : List V.Ec := (if j = 0 then [] else if j = 1 then a else a ++ b).foldl (V.addI n) [V.ebot, V.etop]
theorem rcTo_ok {n : Int} {a b : List V.Itv} (ha : ∀ x ∈ a, V.zt n x = true) (hb : ∀ x ∈ b, V.zt n x = true) (j : Nat) : ∀ y ∈ rcTo n a b j, V.EcOk n y := by
 unfold rcTo
 refine V.znj ?_ (V.ends_ok n)
 split
 ·intro x hx; cases hx
 ·split
  ·exact ha
  ·intro x hx
   rcases List.mem_append.1 hx with h | h
   ·exact ha x h
   ·exact hb x h
theorem rcTo_pos (n : Int) (a b : List V.Itv) (j : Nat) : 0 < (rcTo n a b j).length := V.zjf _ _ _ (by simp)
theorem rcTo_len (n : Int) (a b : List V.Itv) (j : Nat) (ha : a.length ≤ 100) (hb : b.length ≤ 100) : (rcTo n a b j).length ≤ 402 := by
 have h := V.zjt n (if j = 0 then [] else if j = 1 then a else a ++ b) [V.ebot, V.etop]
 have h2 : (if j = 0 then [] else if j = 1 then a else a ++ b).length ≤ a.length + b.length := by
  split
  ·simp
  ·split
   ·omega
   ·simp
 unfold rcTo
 simp only [List.length_cons, List.length_nil] at h
 omega
structure SetOf (n : Int) (a b : List V.Itv) (B : Nat) (w W : World) (j : Nat) (s : List V.Itv) (va : Option Addr) (vc : Nat) : Prop where
 c0 : W.cell? ⟨B, j * 2, none⟩ = some (.int .i64 n)
 c1 : W.cell? ⟨B, j * 2 + 1, none⟩ = some (.slice va s.length vc)
 itvs : Itvs w (.slice va s.length vc) s
 bnd : ∀ x ∈ s, V.zt n x = true
 len : s.length ≤ 100
 next : rcTo n a b (j + 1) = s.foldl (V.addI n) (rcTo n a b j)
theorem set_of {n : Int} {a b : List V.Itv} {B : Nat} {w W : World} {va vb : Option Addr} {ca cb : Nat} (g0 : Itvs w (.slice va a.length ca) a) (g1 : Itvs w (.slice vb b.length cb) b) (ha : ∀ x ∈ a, V.zt n x = true) (hb : ∀ x ∈ b, V.zt n x = true) (g2 : a.length ≤ 100) (g3 : b.length ≤ 100)
  (h0 : W.cell? ⟨B, 0, none⟩ = some (.int .i64 n)) (h1 : W.cell? ⟨B, 1, none⟩ = some (.slice va a.length ca)) (h2 : W.cell? ⟨B, 2, none⟩ = some (.int .i64 n)) (h3 : W.cell? ⟨B, 3, none⟩ = some (.slice vb b.length cb)) (j : Nat) (hj : j < 2) : ∃ s va vc, SetOf n a b B w W j s va vc := by
 rcases (by omega : j = 0 ∨ j = 1) with rfl | rfl
 ·exact ⟨a, va, ca, h0, h1, g0, ha, g2, rfl⟩
 ·exact ⟨b, vb, cb, h2, h3, g1, hb, g3, by unfold rcTo; rw [if_neg (by omega), if_neg (by omega), if_neg (by omega), if_pos rfl, List.foldl_append]⟩
structure PInv (h : V.Ec -> V.Ec -> Bool) (C : List V.Ec) (N : Nat) (i : Nat) (D : List V.Itv) (u : Value) (W : World) : Prop where
 row : ItRow W N u D
 fold : V.rrun h none C = D ++ V.rrun h none (C.drop i)
 len : D.length ≤ i
def zcm (h : V.Ec -> V.Ec -> Bool) (C : List V.Ec) (D : List V.Itv) (c : V.Ec) (first i : Nat) : Prop := i = first ∨ (first < i /\ V.rrun h none C = D ++ V.rrun h (some c) (C.drop i))
theorem zcm.step {h : V.Ec -> V.Ec -> Bool} {C : List V.Ec} {D : List V.Itv} {first i : Nat} (hf : first < C.length) (hp : zcm h C D C[first] first i) (h0 : V.rrun h none C = D ++ V.rrun h none (C.drop first)) (hi : i + 1 < C.length) (hh : h C[i] C[i + 1] = true) : zcm h C D C[first] first (i + 1) := by
 rcases hp with rfl | ⟨hlt, e⟩
 ·exact .inr ⟨by omega, by rw [h0, V.ztl hi hh]⟩
 ·exact .inr ⟨by omega, by rw [e, V.rrun_on hi hh]⟩
theorem zcm.close {h : V.Ec -> V.Ec -> Bool} {C : List V.Ec} {D : List V.Itv} {c : V.Ec} {first i : Nat} (hp : zcm h C D c first i) (hi : i < C.length) (hf : first + 1 < C.length) (hh : h C[first] C[first + 1] = true) (hn : ∀ hj : i + 1 < C.length, h C[i] C[i + 1] = false) : first < i /\ V.rrun h none C = (D ++ [V.btw c C[i]]) ++ V.rrun h none (C.drop i) := by
 rcases hp with rfl | ⟨hlt, e⟩
 ·have := hn hf
  rw [hh] at this
  cases this
 ·exact ⟨hlt, by rw [e, V.zqk hi hn]; simp⟩
theorem zvh {P : Prop} (h : P := by
 obtain ⟨X, hX⟩ : ∃ X, X = V.btw y p := ⟨_, rfl⟩
 have hbw := fun w' => zej y p w' HYO.out.side HPO.out.side
 rw [← hX] at hbw HCC
 clear hX
 refine wp_region_held_drew (S := (fun W' => W'.cell? ⟨g, i * 3, none⟩ = some (.int .i64 y.e) /\ W'.cell? ⟨g, i * 3 + 1, none⟩ = some (.string ⟨y.v.toArray⟩) /\ W'.cell? ⟨g, i * 3 + 2, none⟩ = some (.int .i64 y.s) /\ W'.cell? ⟨g, i' * 3, none⟩ = some (.int .i64 p.e) /\ W'.cell? ⟨g, i' * 3 + 1, none⟩ = some (.string ⟨p.v.toArray⟩) /\ W'.cell? ⟨g, i' * 3 + 2, none⟩ = some (.int .i64 p.s))) (by kernel_rfl) (by (try dsimp only); (try simp only [World.cell?_drew]); exact ⟨y0, y1, y2, p0, p1, p2⟩) (fun hHeld => ?_)
 refine tk 0 ?_
 refine tk 1 ?_
 refine tk 2 ?_
 refine tk 3 ?_
 refine tk 4 ?_
 refine tk 5 ?_
 refine tk 6 ?_
 refine tk 7 ?_
 refine tk 8 ?_
 refine rd 9 fun K hK => ?_
 go_simp
 refine (hbw _).mono ?_
 rintro e wcb ⟨rfl, hbcb⟩
 unfold itvV
 have hbW : Below WF.heap.size WF wcb := (zvb WF.heap.size WF).drew.trans (show Below WF.heap.size WF.drew wcb from hbcb)
 try dsimp only
 refine hK.out _ _ ?_ (fun hHeld => ?_)
 ·(try dsimp only); exact ⟨zb hbW y0, zb hbW y1, zb hbW y2, zb hbW p0, zb hbW p1, zb hbW p2⟩
 clear hK K
 try simp only [zu3, zu4, zu5, Act.put, zu6, List.set_cons_succ, List.set_cons_zero]
 refine rd 10 fun K hK => ?_
 go_simp
 have hbN : Below wcb.heap.size wcb (wcb.alloc (.cells #[.string ⟨X.lo.toArray⟩, .int .i64 X.lk, .string ⟨X.hi.toArray⟩, .int .i64 X.hk] 83)) := (zvb _ wcb).alloc (zva _) _
 have hbV := hbW.trans (hbN.mono hbW.size)
 have HB9 := zu9 HBF2 hbV
 have HNW : Hid (∀ j u, (itvE X)[j]? = some u -> (wcb.alloc (.cells #[.string ⟨X.lo.toArray⟩, .int .i64 X.lk, .string ⟨X.hi.toArray⟩, .int .i64 X.hk] 83)).cell? ⟨wcb.heap.size, j, none⟩ = some u) := zu8 (fun j u hu => by rw [World.cell?_alloc_new]; simpa [itvE] using hu)
 refine hK.out _ _ ?_ (fun hHeld => ?_)
 ·(try dsimp only); exact ⟨zb hbV y0, zb hbV y1, zb hbV y2, zb hbV p0, zb hbV p1, zb hbV p2⟩
 clear hK K
 try simp only [zu3, zu4, zu5, Act.put, zu6, List.set_cons_succ, List.set_cons_zero]
 refine rd 11 fun K hK => ?_
 refine jr zj6 (by decide) zoh zsp (by decide) rfl _ _ 66 rfl Tryz.underlying66 W1.heap.size ou D rfl (GRow.below HRF.out hbV) wcb.heap.size X rfl HNW.out (by have := HP.out.len; omega) HB9.out.size (fun v3 W3 hr3 hg3 => ?_)
 have hgb3 := GRow.block HRF.out
 refine hK.out _ _ ?_ (fun hHeld => ?_)
 ·(try dsimp only); exact ⟨zk hg3 hgb3 HGL.out (zb hbV y0), zk hg3 hgb3 HGL.out (zb hbV y1), zk hg3 hgb3 HGL.out (zb hbV y2), zk hg3 hgb3 HGL.out (zb hbV p0), zk hg3 hgb3 HGL.out (zb hbV p1), zk hg3 hgb3 HGL.out (zb hbV p2)⟩
 clear hK K
 try simp only [zu3, zu4, zu5, Act.put, zu6, List.set_cons_succ, List.set_cons_zero]
 refine tk 12 ?_
 refine wpAnyH_done (by kernel_rfl) ?_ _
 have HPI : Hid (PInv h C W1.heap.size i' (D ++ [X]) v3 W3) := zu8 ⟨hr3, HCC.out.2, by have := HP.out.len; have := HCC.out.1; simp; omega⟩
 have HB10 := zu8 (HB9.out.trans (zy hg3 hgb3 (zva _) HB9.out.size))
 have hlti := HCC.out.1
 clear hr3 hg3 hHeld hbN hbW hbV HNW hbcb y0 y1 y2 p0 p1 p2
 go_wp2
 go_roundw
 case rel => exact ⟨i', D ++ [X], _, by omega, by go_num, rfl, HPI.out, HB10.out⟩
 case measure => simp [intOf]; omega) : P := h
theorem zkt (o n : Int) (va vb : Value) (a b : List V.Itv) (w : World) (hm : zj w) (hn : V.scheme n = true) (k2 : Itvs w va a) (k3 : Itvs w vb b) (k4 : ∀ x ∈ a, V.zt n x = true) (hbb : ∀ x ∈ b, V.zt n x = true) (v9 : a.length ≤ 100) (y3 : b.length ≤ 100) :
  Calls Tryz.prog 191 #[.int .i64 o, setV n va, setV n vb] w fun e w' => ∃ u, e = .returned u /\ Itvs w' u (V.opR n (ke o) a b) /\ (∀ c, u.ownBlock = some c -> w.heap.size ≤ c) /\ Below w.heap.size w w' := by
 obtain ⟨h, hh⟩ : ∃ h : V.Ec -> V.Ec -> Bool, h = fun x y => ke o (V.jl n a x y) (V.jl n b x y) := ⟨_, rfl⟩
 have HH := zu8 hh
 have HF : Hid (V.opR n (ke o) a b = V.rrun h none (rcTo n a b 2)) := zu8 (by rw [hh]; rfl)
 have y4 := zu8 k2
 have y5 := zu8 k3
 have HSC := zu8 hn
 have y6 := zu8 k4
 have y7 := zu8 hbb
 have HM := zu8 hm
 have HOK := zu8 (rcTo_ok (n := n) k4 hbb)
 have q1 := zu8 (rcTo_pos n a b)
 have q2 := zu8 (fun j => rcTo_len n a b j v9 y3)
 obtain ⟨va, ca, rfl⟩ := k2.slice
 obtain ⟨vb, cb, rfl⟩ := k3.slice
 obtain ⟨W0, hW0⟩ : ∃ W0, W0 = (((w.alloc (.cells #[.int .i64 n, .slice va a.length ca] 68)).alloc (.cells #[.int .i64 n, .slice vb b.length cb] 68)).alloc (.cells #[.int .i64 (-1), .string ⟨#[]⟩, .int .i64 0, .int .i64 1, .string ⟨#[]⟩, .int .i64 0] 168)).alloc (.cells #[.int .i64 n, .slice va a.length ca, .int .i64 n, .slice vb b.length cb] 68) := ⟨_, rfl⟩
 have HB0 : Hid (Below w.heap.size w W0) := zu8 (by rw [hW0]; exact zbk _ _ _ _ _)
 have q3 : Hid (W0.cell? ⟨w.heap.size, 0, none⟩ = some (.int .i64 n)) := zu8 (by rw [hW0]; simp [zg]; try omega)
 have y8 : Hid (W0.cell? ⟨w.heap.size, 1, none⟩ = some (.slice va a.length ca)) := zu8 (by rw [hW0]; simp [zg]; try omega)
 have q4 : Hid (W0.cell? ⟨w.heap.size + 1, 0, none⟩ = some (.int .i64 n)) := zu8 (by rw [hW0]; simp [zg]; try omega)
 have q5 : Hid (W0.cell? ⟨w.heap.size + 1, 1, none⟩ = some (.slice vb b.length cb)) := zu8 (by rw [hW0]; simp [zg]; try omega)
 have k5 : Hid (∀ j, j < 2 -> ∃ s va vc, SetOf n a b (w.heap.size + 1 + 1 + 1) w W0 j s va vc) := zu8 (fun j hj => set_of k2 k3 k4 hbb v9 y3 (by rw [hW0]; simp [zg]) (by rw [hW0]; simp [zg]) (by rw [hW0]; simp [zg]) (by rw [hW0]; simp [zg]) j hj)
 have y9 : Hid (Cuts w.heap.size (.slice (some ⟨w.heap.size + 1 + 1, 0, none⟩) 2 2) (rcTo n a b 0) W0) := zu8 ⟨⟨_, _, rfl, zva _⟩, rfl, .inr ⟨w.heap.size + 1 + 1, 2, #[.int .i64 (-1), .string ⟨#[]⟩, .int .i64 0, .int .i64 1, .string ⟨#[]⟩, .int .i64 0], rfl, by omega, by rw [hW0, heap_alloc, if_neg (by simp), heap_alloc, if_pos (by simp)], zva _, by unfold maxLen; omega, rfl, rfl⟩⟩
 have h6 : Hid (w.heap.size + 1 + 1 + 1 < W0.heap.size) := zu8 (by rw [hW0]; simp)
 clear k2 k3 k4 hbb hm hn hh
 unfold setV
 go_enter Tryz.func191, Tryz.ntmps191
 go_wp2_with fail
 rw [← hW0]
 clear hW0
 go_loopw [7, 21] (fun cv jv wx => ∃ (j : Nat) (g cap : Nat), j ≤ 2 /\ jv = .int .i64 j /\ cv = .slice (some ⟨g, 0, none⟩) (rcTo n a b j).length cap /\ (rcTo n a b j).length ≤ cap /\ zc0 wx w.heap.size cv (rcTo n a b j) /\ Below W0.heap.size W0 wx) (fun _ jv _ => 2 - (intOf jv).toNat)
 case atStart => exact ⟨0, _, _, by omega, rfl, rfl, zva _, y9.out.row, zvb _ _⟩
 case round =>
  obtain ⟨j, g, cap, hj, rfl, rfl, j9, j0, j3⟩ := hrel
  have g8 := zu8 j0
  have HBX := zu8 j3
  have HBF := zu9 HB0 j3
  clear j0 j3
  by_cases z3 : j < 2
  ·obtain ⟨s, sva, svc, j4⟩ := k5.out j z3
   have h8 := zu8 j4
   have l0 := (HBX.out.cell (p := ⟨w.heap.size + 1 + 1 + 1, j * 2, none⟩) h6.out).trans j4.c0
   have l1 := (HBX.out.cell (p := ⟨w.heap.size + 1 + 1 + 1, j * 2 + 1, none⟩) h6.out).trans j4.c1
   have J5 : (0 : Int) ≤ (j : Int) := by omega
   have J6 : (j : Int) < 2 := by omega
   clear j4
   have hbA : Below wr.heap.size wr (wr.alloc (.cells #[.int .i64 n, .slice sva s.length svc] 68)) := (zvb _ wr).alloc (zva _) _
   have J2 := zu9 HBX hbA
   have k6 := zu8 (GRow.below g8.out hbA)
   have m0 : (wr.alloc (.cells #[.int .i64 n, .slice sva s.length svc] 68)).cell? ⟨wr.heap.size, 1, none⟩ = some (.slice sva s.length svc) := by simp [zg]
   have z4 := zu8 m0
   have z5 : wr.heap.size < (wr.alloc (.cells #[.int .i64 n, .slice sva s.length svc] 68)).heap.size := by simp
   clear hbA m0
   go_wp2_with fail
   generalize wr.alloc (.cells #[.int .i64 n, .slice sva s.length svc] 68) = W9 at *
   obtain ⟨X9, q6⟩ : ∃ X, X = wr.heap.size := ⟨_, rfl⟩
   rw [← q6] at z4 z5 ⊢
   have U9 := zu8 q6
   clear l0 l1 q6
   obtain ⟨F, hF⟩ : ∃ F : Nat -> List V.Ec, F = fun k => (s.take k).foldl (V.addI n) (rcTo n a b j) := ⟨_, rfl⟩
   have J7 : Hid (F 0 = rcTo n a b j) := zu8 (by rw [hF]; rfl)
   have HFE : Hid (F s.length = rcTo n a b (j + 1)) := zu8 (by rw [hF, h8.out.next]; simp)
   have J8 : Hid (∀ k (hk : k < s.length), F (k + 1) = V.radd n (V.km s[k]) (V.radd n (V.eLow s[k]) (F k))) := zu8 (fun k hk => by rw [hF]; exact V.zts _ hk)
   have HFO : Hid (∀ k, ∀ y ∈ F k, V.EcOk n y) := zu8 (fun k => by rw [hF]; exact V.znj (fun x hx => h8.out.bnd x (List.mem_of_mem_take hx)) (HOK.out j))
   have J9 : Hid (∀ k, 0 < (F k).length) := zu8 (fun k => by rw [hF]; exact V.zjf _ _ _ (q1.out j))
   have Q0 : Hid (∀ k, (F k).length ≤ 602) := zu8 (fun k => by
     have h1 := V.zjt n (s.take k) (rcTo n a b j)
     have h2 := q2.out j
     have h3 := h8.out.len
     rw [List.length_take] at h1
     rw [hF]
     show ((s.take k).foldl (V.addI n) (rcTo n a b j)).length ≤ 602
     omega)
   have Q1 : Hid (∃ g' cap' : Nat, (.slice (some ⟨g, 0, none⟩) (rcTo n a b j).length cap : Value) = .slice (some ⟨g', 0, none⟩) (F 0).length cap' /\ (F 0).length ≤ cap' /\ zc0 W9 w.heap.size (.slice (some ⟨g, 0, none⟩) (rcTo n a b j).length cap) (F 0)) := zu8 (by rw [J7.out]; exact ⟨g, cap, rfl, j9, k6.out⟩)
   have V0 := h8.out.len
   clear hF j9 k6 g8
   go_loopw [7, 10] (fun cv kv wx => ∃ (k g' cap' : Nat), k ≤ s.length /\ kv = .int .i64 k /\ cv = .slice (some ⟨g', 0, none⟩) (F k).length cap' /\ (F k).length ≤ cap' /\ zc0 wx w.heap.size cv (F k) /\ Below W9.heap.size W9 wx) (fun _ kv _ => s.length - (intOf kv).toNat)
   case atStart =>
    obtain ⟨g', cap', e1, e2, e3⟩ := Q1.out
    exact ⟨0, g', cap', Nat.zero_le _, rfl, e1, e2, e3, zvb _ _⟩
   case round =>
    obtain ⟨k, gk, ck, hk, rfl, rfl, z6, j0, hbk⟩ := hrel
    have g8 := zu8 j0
    have Q2 := zu8 hbk
    have q7 := zu9 J2 hbk
    have q8 := zu8 (HB0.out.trans (q7.out.mono HB0.out.size))
    have m1 := (hbk.cell (p := ⟨X9, 1, none⟩) z5).trans z4.out
    clear j0 hbk
    by_cases hlt : k < s.length
    ·obtain ⟨b', off, rfl, Q3, hx⟩ := h8.out.itvs.at k hlt
     obtain ⟨h0, h1, h2, h3⟩ := hx.below Q3 q8.out
     have a0 := (q7.out.cell (p := ⟨w.heap.size, 0, none⟩) (by have := h6.out; simp; omega)).trans q3.out
     have Q4 : (0 : Int) ≤ (k : Int) := by omega
     have Q5 : (k : Int) < (s.length : Int) := by omega
     have q9 : Hid (V.zt n s[k] = true) := zu8 (h8.out.bnd _ (List.getElem_mem hlt))
     have HST := zu8 (J8.out k hlt)
     have Q6 := zu8 (HM.out.below q8.out)
     have Q7 := J9.out k
     have hp2 := Q0.out k
     clear hx
     generalize s[k] = x at *
     have z7 := V.zbq n (V.eLow x) (F k)
     obtain ⟨z7, z8⟩ := z7
     go_wp2_with fail
     refine wp_region_held_drew (S := (fun W' => zj W' /\ W'.cell? ⟨w.heap.size, 0, none⟩ = some (.int .i64 n) /\ W'.cell? ⟨X9, 1, none⟩ = some (.slice (some ⟨b', off, none⟩) s.length svc) /\ W'.cell? ⟨b', off + k * 4, none⟩ = some (.string ⟨x.lo.toArray⟩) /\ W'.cell? ⟨b', off + k * 4 + 1, none⟩ = some (.int .i64 x.lk) /\ W'.cell? ⟨b', off + k * 4 + 2, none⟩ = some (.string ⟨x.hi.toArray⟩) /\ W'.cell? ⟨b', off + k * 4 + 3, none⟩ = some (.int .i64 x.hk))) (by kernel_rfl) (by (try dsimp only); (try simp only [World.cell?_drew]); exact ⟨Q6.out.below (zvb _ _).drew, a0, m1, h0, h1, h2, h3⟩) (fun hHeld => ?_)
     refine tk 0 ?_
     refine tk 1 ?_
     refine tk 2 ?_
     refine tk 3 ?_
     refine tk 4 ?_
     refine tk 5 ?_
     refine tk 6 ?_
     refine tk 7 ?_
     refine tk 8 ?_
     refine tk 9 ?_
     refine tk 12 ?_
     refine tk 13 ?_
     refine tk 14 ?_
     refine tk 15 ?_
     refine tk 16 ?_
     refine rd 10 fun K hK => ?_
     go_simp
     refine (uu x _).mono ?_
     rintro e wc10 ⟨rfl, g7⟩
     try dsimp only
     refine hK.out _ _ ?_ (fun hHeld => ?_)
     ·(try dsimp only); go_split_ands; exact ⟨zj.below (by assumption) g7, zve g7, zve g7, zve g7, zve g7, zve g7, zve g7⟩
     clear hK K
     try simp only [zu3, zu4, zu5, Act.put, zu6, List.set_cons_succ, List.set_cons_zero]
     refine rd 11 fun K hK => ?_
     go_simp
     refine (zll n (V.eLow x) gk 0 ck (F k) _ (by first | assumption | exact And.left (by assumption)) HSC.out (V.zaa q9.out) (GRow.gsl xh (GRow.below (GRow.below g8.out (zvb _ _).drew) g7)) (HFO.out k) Q7 z6 (by omega)).mono ?_
     rintro e wc11 ⟨u1, rfl, v0, hbc11⟩
     obtain ⟨g1, cap1, rfl, k7, _, _⟩ := zc0.opened v0 z8
     try dsimp only
     refine hK.out _ _ ?_ (fun hHeld => ?_)
     ·exact zxz
     clear hK K
     try simp only [zu3, zu4, zu5, Act.put, zu6, List.set_cons_succ, List.set_cons_zero]
     refine rd 17 fun K hK => ?_
     go_simp
     refine (vi x _).mono ?_
     rintro e wc17 ⟨rfl, g6⟩
     try dsimp only
     refine hK.out _ _ ?_ (fun hHeld => ?_)
     ·(try dsimp only); go_split_ands; exact ⟨zj.below (by assumption) g6, zve g6, zve g6, zve g6, zve g6, zve g6, zve g6⟩
     clear hK K
     try simp only [zu3, zu4, zu5, Act.put, zu6, List.set_cons_succ, List.set_cons_zero]
     refine rd 18 fun K hK => ?_
     go_simp
     refine (zll n (V.km x) g1 0 cap1 (V.radd n (V.eLow x) (F k)) _ (by first | assumption | exact And.left (by assumption)) HSC.out (V.zam q9.out) (GRow.gsl xh (GRow.below v0 g6)) (V.zhz (V.zaa q9.out) (HFO.out k)) z8 k7 (by omega)).mono ?_
     rintro e wc18 ⟨u2, rfl, v1, g9⟩
     obtain ⟨g2, cap2, rfl, k8, _, _⟩ := zc0.opened v1 (V.zbq n _ _).2
     try dsimp only
     refine hK.out _ _ ?_ (fun hHeld => ?_)
     ·(try dsimp only); go_split_ands; exact ⟨zj.below (by assumption) g9, zve g9, zve g9, zve g9, zve g9, zve g9, zve g9⟩
     clear hK K
     try simp only [zu3, zu4, zu5, Act.put, zu6, List.set_cons_succ, List.set_cons_zero]
     refine tk 19 ?_
     refine wpAnyH_done (by kernel_rfl) ?_ _
     have k0 : Below wr.heap.size wr wc11 := ((zvb wr.heap.size wr).drew.trans (show Below wr.heap.size wr.drew wc10 from g7)).trans (hbc11.mono (show wr.heap.size ≤ wc10.heap.size from g7.size))
     have z9 : Below wr.heap.size wr wc18 := k0.trans ((g6.trans (g9.mono g6.size)).mono k0.size)
     have v2 : wr.heap.size ≤ wc17.heap.size := Nat.le_trans k0.size g6.size
     have Q8 := zu9 Q2 z9
     have Q9 : Hid (zc0 wc18 w.heap.size (.slice (some ⟨g2, 0, none⟩) (F (k + 1)).length cap2) (F (k + 1))) := zu8 (by rw [HST.out]; exact GRow.weaken v1 (Nat.le_trans q8.out.size v2))
     have U0 : Hid ((F (k + 1)).length ≤ cap2) := zu8 (by rw [HST.out]; exact k8)
     rw [← HST.out]
     clear v0 v1 k8 k7 g7 hbc11 g6 g9 hHeld z9 v2 m1 h0 h1 h2 h3 a0
     go_wp2
     go_roundw
     case rel => exact ⟨k + 1, _, _, by omega, by go_num, rfl, U0.out, Q9.out, Q8.out⟩
     case measure => simp [intOf]; omega
    ·obtain rfl : k = s.length := by omega
     have U1 : Hid (∃ (g cap : Nat), (.slice (some ⟨gk, 0, none⟩) (F s.length).length ck : Value) = .slice (some ⟨g, 0, none⟩) (rcTo n a b (j + 1)).length cap /\ (rcTo n a b (j + 1)).length ≤ cap /\ zc0 wr w.heap.size (.slice (some ⟨gk, 0, none⟩) (F s.length).length ck) (rcTo n a b (j + 1))) := zu8 (by rw [← HFE.out]; exact ⟨gk, ck, rfl, z6, g8.out⟩)
     go_wp2
     go_roundw
     case rel =>
      obtain ⟨g2, c2, e1, e2, e3⟩ := U1.out
      exact ⟨j + 1, g2, c2, by omega, by go_num, e1, e2, e3, q7.out⟩
     case measure => simp [intOf]; omega
  ·have HF : Hid (V.opR n (ke o) a b = V.rrun h none (rcTo n a b j)) := zu8 (by rw [HF.out, show j = 2 by omega])
   have V1 : ¬ (j : Int) < 2 := by omega
   obtain ⟨C, hC⟩ : ∃ C, C = rcTo n a b j := ⟨_, rfl⟩
   have j1 := zu8 (HOK.out j)
   have v3 := q1.out j
   have J3 := q2.out j
   rw [← hC] at HF g8 j9 j1 v3 J3 ⊢
   clear hC k5 y9 HOK q1 q2 hj
   have G0 := zu8 (HM.out.below HBF.out)
   have G1 := zu8 ((HBX.out.cell (p := ⟨w.heap.size, 0, none⟩) (by have := h6.out; simp; omega)).trans q3.out)
   have G2 := zu8 ((HBX.out.cell (p := ⟨w.heap.size, 1, none⟩) (by have := h6.out; simp; omega)).trans y8.out)
   have HB2 := zu8 ((HBX.out.cell (p := ⟨w.heap.size + 1, 0, none⟩) (by have := h6.out; simp; omega)).trans q4.out)
   have HB3 := zu8 ((HBX.out.cell (p := ⟨w.heap.size + 1, 1, none⟩) (by have := h6.out; simp; omega)).trans q5.out)
   have j6 : Hid (∀ i (hi : i < C.length), wr.cell? ⟨g, i * 3, none⟩ = some (.int .i64 C[i].e) /\ wr.cell? ⟨g, i * 3 + 1, none⟩ = some (.string ⟨C[i].v.toArray⟩) /\ wr.cell? ⟨g, i * 3 + 2, none⟩ = some (.int .i64 C[i].s)) := zu8 (fun i hi => by
     obtain ⟨g', c', e, _, _, hc⟩ := GRow.at xh g8.out i hi
     cases e
     exact zow hc)
   have HGL : Hid (g < wr.heap.size) := zu8 (by
     obtain ⟨g', c', e, _, hg, _⟩ := GRow.at xh g8.out 0 v3
     cases e
     exact hg)
   have U2 : Hid (w.heap.size + 1 < wr.heap.size) := zu8 (by have := h6.out; have := HBX.out.size; omega)
   have G3 := zu8 (y4.out.below HBF.out)
   have G4 := zu8 (y5.out.below HBF.out)
   clear g8 HBX h6 q3 y8 q4 q5 HB0 y4 y5 HM
   go_wp2_with fail
   generalize wr = W1 at *
   go_loopw [11, 12] (fun ov iv wx => ∃ (i : Nat) (D : List V.Itv) (u : Value), i ≤ C.length /\ iv = .int .i64 i /\ u = ov /\ PInv h C W1.heap.size i D u wx /\ Below W1.heap.size W1 wx) (fun _ iv _ => C.length - (intOf iv).toNat)
   case atStart => exact ⟨0, [], _, Nat.zero_le _, rfl, rfl, ⟨GRow.nil _ _, rfl, Nat.zero_le _⟩, zvb _ _⟩
   case round =>
    obtain ⟨i, D, ou, hi, rfl, rfl, hp, j3⟩ := hrel
    have HP := zu8 hp
    have HBX := zu8 j3
    clear hp j3
    obtain ⟨wo, U3⟩ : ∃ wo : World, wo = wr := ⟨_, rfl⟩
    subst U3
    by_cases hlt : i + 1 < C.length
    ·have h9 : i < C.length := by omega
     obtain ⟨y0, y1, y2⟩ := j6.out i h9
     obtain ⟨z0, z1, z2⟩ := j6.out (i + 1) hlt
     have y0 := zb HBX.out y0
     have y1 := zb HBX.out y1
     have y2 := zb HBX.out y2
     have z0 := zb HBX.out z0
     have z1 := zb HBX.out z1
     have z2 := zb HBX.out z2
     have a0 := zb HBX.out G1.out
     have a1 := zb HBX.out G2.out
     have b0 := zb HBX.out HB2.out
     have b1 := zb HBX.out HB3.out
     have k9 := zu8 (G0.out.below HBX.out)
     have J5 : (0 : Int) ≤ (i : Int) := by omega
     have J6 : (i : Int) < (C.length : Int) := by omega
     have Q4 : (0 : Int) ≤ (i : Int) + 1 := by omega
     have Q5 : (i : Int) + 1 < (C.length : Int) := by omega
     have V2 : ((i : Int) + 1).toNat = i + 1 := by omega
     have V3 : IntKind.i64.wrap ((i : Int) + 1) = (i : Int) + 1 := by rw [IntKind.wrap_i64]; omega
     have HYO := zu8 (j1.out _ (List.getElem_mem h9))
     have j7 := zu8 (j1.out _ (List.getElem_mem hlt))
     have v4 := zu8 (fun hn => V.zto (h := h) hlt hn)
     obtain ⟨q, hq⟩ : ∃ q, q = h C[i] C[i + 1] := ⟨_, rfl⟩
     have HQ : Hid (q = ke o (V.jl n a C[i] C[i + 1]) (V.jl n b C[i] C[i + 1])) := zu8 (by rw [hq, HH.out])
     have G5 := zu8 hq
     rw [← hq] at v4
     clear hq
     generalize G6 : C[i] = y at *
     generalize G7 : C[i + 1] = z at *
     have U4 := zu8 G7
     clear G7
     have v5 := zu8 G6
     clear G6
     have G8 : Hid (q = h y z) := G5
     go_wp2_with fail
     refine wp_region_held_drew (S := (fun W' => zj W' /\ W'.cell? ⟨w.heap.size, 0, none⟩ = some (.int .i64 n) /\ W'.cell? ⟨w.heap.size, 1, none⟩ = some (.slice va a.length ca) /\ W'.cell? ⟨w.heap.size + 1, 0, none⟩ = some (.int .i64 n) /\ W'.cell? ⟨w.heap.size + 1, 1, none⟩ = some (.slice vb b.length cb) /\ W'.cell? ⟨g, i * 3, none⟩ = some (.int .i64 y.e) /\ W'.cell? ⟨g, i * 3 + 1, none⟩ = some (.string ⟨y.v.toArray⟩) /\ W'.cell? ⟨g, i * 3 + 2, none⟩ = some (.int .i64 y.s) /\ W'.cell? ⟨g, (i + 1) * 3, none⟩ = some (.int .i64 z.e) /\ W'.cell? ⟨g, (i + 1) * 3 + 1, none⟩ = some (.string ⟨z.v.toArray⟩) /\ W'.cell? ⟨g, (i + 1) * 3 + 2, none⟩ = some (.int .i64 z.s))) (by kernel_rfl) (by (try dsimp only); (try simp only [World.cell?_drew]); exact ⟨k9.out.below (zvb _ _).drew, a0, a1, b0, b1, y0, y1, y2, z0, z1, z2⟩) (fun hHeld => ?_)
     refine tk 0 ?_
     refine tk 1 ?_
     refine tk 2 ?_
     refine tk 3 ?_
     refine tk 4 ?_
     refine tk 5 ?_
     refine tk 6 ?_
     refine tk 7 ?_
     refine tk 8 ?_
     refine tk 9 ?_
     refine tk 10 ?_
     refine tk 12 ?_
     refine tk 13 ?_
     refine tk 14 ?_
     refine tk 15 ?_
     refine tk 16 ?_
     refine tk 17 ?_
     refine tk 18 ?_
     refine tk 19 ?_
     refine tk 20 ?_
     refine tk 21 ?_
     refine rd 11 fun K hK => ?_
     go_simp
     have h5 : Below W1.heap.size W1 wo.drew := HBX.out.drew
     refine (zac n (.slice va a.length ca) a y z _ (by first | assumption | exact And.left (by assumption)) HSC.out (G3.out.below h5) y6.out HYO.out j7.out (by omega)).mono ?_
     rintro e wc11 ⟨rfl, hbc11⟩
     try dsimp only
     refine hK.out _ _ ?_ (fun hHeld => ?_)
     ·(try dsimp only); go_split_ands; exact ⟨zj.below (by assumption) hbc11, zve hbc11, zve hbc11, zve hbc11, zve hbc11, zve hbc11, zve hbc11, zve hbc11, zve hbc11, zve hbc11, zve hbc11⟩
     clear hK K
     try simp only [zu3, zu4, zu5, Act.put, zu6, List.set_cons_succ, List.set_cons_zero]
     refine rd 22 fun K hK => ?_
     go_simp
     have j2 := h5.trans (hbc11.mono h5.size)
     have h4 : Below wo.heap.size wo wc11 := (zvb wo.heap.size wo).drew.trans (show Below wo.heap.size wo.drew wc11 from hbc11)
     refine (zac n (.slice vb b.length cb) b y z _ (by first | assumption | exact And.left (by assumption)) HSC.out (G4.out.below j2) y7.out HYO.out j7.out (by omega)).mono ?_
     rintro e wc22 ⟨rfl, hbc22⟩
     try dsimp only
     refine hK.out _ _ ?_ (fun hHeld => ?_)
     ·exact zw9
     clear hK K
     try simp only [zu3, zu4, zu5, Act.put, zu6, List.set_cons_succ, List.set_cons_zero]
     refine rd 23 fun K hK => ?_
     go_simp
     refine (zg1 o _ _ _).mono ?_
     rintro e wc23 ⟨rfl, hbc23⟩
     try dsimp only
     rw [← HQ.out]
     refine hK.out _ _ ?_ (fun hHeld => ?_)
     ·exact zw8
     clear hK K
     try simp only [zu3, zu4, zu5, Act.put, zu6, List.set_cons_succ, List.set_cons_zero]
     refine tk 24 ?_
     refine wpAnyH_done (by kernel_rfl) ?_ _
     have g5 : Below wo.heap.size wo wc23 := (h4.trans (hbc22.mono h4.size)).trans (hbc23.mono (Nat.le_trans h4.size hbc22.size))
     have V4 := zu8 g5
     have HBY := zu9 HBX g5
     have g8 := zu8 (GRow.below HP.out.row g5)
     clear g5 h5 j2 h4 hbc11 hbc22 hbc23 hHeld y0 y1 y2 z0 z1 z2 a0 a1 b0 b1
     generalize wc23 = WI at *
     rcases h7 : q with _ | _
     ·have HPI : Hid (PInv h C W1.heap.size (i + 1) D ou WI) := zu8 ⟨g8.out, by rw [HP.out.fold, v4.out h7], by have := HP.out.len; omega⟩
      clear h7
      go_wp2
      go_roundw
      case rel => exact ⟨i + 1, D, ou, by omega, by go_num, rfl, HPI.out, HBY.out⟩
      case measure => simp [intOf]; omega
     ·have U5 : Hid (h C[i] C[i + 1] = true) := zu8 (by rw [v5.out, U4.out, ← G8.out]; exact h7)
      clear h7 v4 HQ G5 G8
      go_wp2_with fail
      simp only [Bool.not_true]
      go_loopw [12] (fun iv wx => ∃ i' : Nat, i ≤ i' /\ i' < C.length /\ iv = .int .i64 i' /\ zcm h C D y i i' /\ Below WI.heap.size WI wx) (fun iv _ => C.length - (intOf iv).toNat)
      case atStart => exact ⟨i, zva _, h9, rfl, .inl rfl, zvb _ _⟩
      case round =>
       obtain ⟨i', V5, v6, rfl, G9, v7⟩ := hrel
       have HPC := zu8 G9
       have J0 := zu8 v7
       have HBX := zu9 HBY v7
       clear G9 v7
       have k9 := zu8 (G0.out.below HBX.out)
       obtain ⟨y0, y1, y2⟩ := j6.out i h9
       rw [v5.out] at y0 y1 y2
       obtain ⟨p0, p1, p2⟩ := j6.out i' v6
       have y0 := zb HBX.out y0
       have y1 := zb HBX.out y1
       have y2 := zb HBX.out y2
       have p0 := zb HBX.out p0
       have p1 := zb HBX.out p1
       have p2 := zb HBX.out p2
       have V6 : (0 : Int) ≤ (i' : Int) := by omega
       have z3 : (i' : Int) < (C.length : Int) := by omega
       have HPO := zu8 (j1.out _ (List.getElem_mem v6))
       have q0 := zu8 (fun hn => HPC.out.close v6 hlt U5.out hn)
       by_cases hlt2 : i' + 1 < C.length
       ·obtain ⟨z0, z1, z2⟩ := j6.out (i' + 1) hlt2
        have z0 := zb HBX.out z0
        have z1 := zb HBX.out z1
        have z2 := zb HBX.out z2
        have a0 := zb HBX.out G1.out
        have a1 := zb HBX.out G2.out
        have b0 := zb HBX.out HB2.out
        have b1 := zb HBX.out HB3.out
        have V7 : (0 : Int) ≤ (i' : Int) + 1 := by omega
        have J1 : (i' : Int) + 1 < (C.length : Int) := by omega
        have V8 : ((i' : Int) + 1).toNat = i' + 1 := by omega
        have U6 : IntKind.i64.wrap ((i' : Int) + 1) = (i' : Int) + 1 := by rw [IntKind.wrap_i64]; omega
        have j7 := zu8 (j1.out _ (List.getElem_mem hlt2))
        have v8 : Hid (C[i]'h9 = y) := v5
        have j8 := zu8 (fun hn => zcm.step (h := h) (D := D) h9 (by rw [v8.out]; exact HPC.out) HP.out.fold hlt2 hn)
        rw [v8.out] at j8
        obtain ⟨q, hq⟩ : ∃ q, q = h C[i'] C[i' + 1] := ⟨_, rfl⟩
        have HQ : Hid (q = ke o (V.jl n a C[i'] C[i' + 1]) (V.jl n b C[i'] C[i' + 1])) := zu8 (by rw [hq, HH.out])
        have k1 : Hid (q = false -> i < i' /\ V.rrun h none C = (D ++ [V.btw y C[i']]) ++ V.rrun h none (C.drop i')) := zu8 (fun hn => q0.out (fun _ => by rw [← hq]; exact hn))
        rw [← hq] at j8
        clear hq q0 v8
        generalize C[i'] = p at *
        generalize C[i' + 1] = z at *
        go_wp2_with fail
        refine wp_region_held_drew (S := (fun W' => zj W' /\ W'.cell? ⟨w.heap.size, 0, none⟩ = some (.int .i64 n) /\ W'.cell? ⟨w.heap.size, 1, none⟩ = some (.slice va a.length ca) /\ W'.cell? ⟨w.heap.size + 1, 0, none⟩ = some (.int .i64 n) /\ W'.cell? ⟨w.heap.size + 1, 1, none⟩ = some (.slice vb b.length cb) /\ W'.cell? ⟨g, i' * 3, none⟩ = some (.int .i64 p.e) /\ W'.cell? ⟨g, i' * 3 + 1, none⟩ = some (.string ⟨p.v.toArray⟩) /\ W'.cell? ⟨g, i' * 3 + 2, none⟩ = some (.int .i64 p.s) /\ W'.cell? ⟨g, (i' + 1) * 3, none⟩ = some (.int .i64 z.e) /\ W'.cell? ⟨g, (i' + 1) * 3 + 1, none⟩ = some (.string ⟨z.v.toArray⟩) /\ W'.cell? ⟨g, (i' + 1) * 3 + 2, none⟩ = some (.int .i64 z.s))) (by kernel_rfl) (by (try dsimp only); (try simp only [World.cell?_drew]); exact ⟨k9.out.below (zvb _ _).drew, a0, a1, b0, b1, p0, p1, p2, z0, z1, z2⟩) (fun hHeld => ?_)
        refine tk 0 ?_
        refine tk 1 ?_
        refine tk 2 ?_
        refine tk 3 ?_
        refine tk 4 ?_
        refine tk 5 ?_
        refine tk 6 ?_
        refine tk 7 ?_
        refine tk 8 ?_
        refine tk 9 ?_
        refine tk 10 ?_
        refine tk 11 ?_
        refine tk 12 ?_
        refine tk 13 ?_
        refine tk 14 ?_
        refine tk 15 ?_
        refine tk 16 ?_
        refine tk 18 ?_
        refine tk 19 ?_
        refine tk 20 ?_
        refine tk 21 ?_
        refine tk 22 ?_
        refine tk 23 ?_
        refine tk 24 ?_
        refine tk 25 ?_
        refine tk 26 ?_
        refine tk 27 ?_
        refine rd 17 fun K hK => ?_
        go_simp
        have h5 : Below W1.heap.size W1 wr.drew := HBX.out.drew
        refine (zac n (.slice va a.length ca) a p z _ (by first | assumption | exact And.left (by assumption)) HSC.out (G3.out.below h5) y6.out HPO.out j7.out (by omega)).mono ?_
        rintro e wcj17 ⟨rfl, g0⟩
        try dsimp only
        refine hK.out _ _ ?_ (fun hHeld => ?_)
        ·(try dsimp only); go_split_ands; exact ⟨zj.below (by assumption) g0, zve g0, zve g0, zve g0, zve g0, zve g0, zve g0, zve g0, zve g0, zve g0, zve g0⟩
        clear hK K
        try simp only [zu3, zu4, zu5, Act.put, zu6, List.set_cons_succ, List.set_cons_zero]
        refine rd 28 fun K hK => ?_
        go_simp
        have j2 := h5.trans (g0.mono h5.size)
        have h4 : Below wr.heap.size wr wcj17 := (zvb wr.heap.size wr).drew.trans (show Below wr.heap.size wr.drew wcj17 from g0)
        refine (zac n (.slice vb b.length cb) b p z _ (by first | assumption | exact And.left (by assumption)) HSC.out (G4.out.below j2) y7.out HPO.out j7.out (by omega)).mono ?_
        rintro e wcj28 ⟨rfl, g3⟩
        try dsimp only
        refine hK.out _ _ ?_ (fun hHeld => ?_)
        ·(try dsimp only); go_split_ands; exact ⟨zj.below (by assumption) g3, zve g3, zve g3, zve g3, zve g3, zve g3, zve g3, zve g3, zve g3, zve g3, zve g3⟩
        clear hK K
        try simp only [zu3, zu4, zu5, Act.put, zu6, List.set_cons_succ, List.set_cons_zero]
        refine rd 29 fun K hK => ?_
        go_simp
        refine (zg1 o _ _ _).mono ?_
        rintro e wcj29 ⟨rfl, g4⟩
        try dsimp only
        rw [← HQ.out]
        refine hK.out _ _ ?_ (fun hHeld => ?_)
        ·(try dsimp only); go_split_ands; exact ⟨zj.below (by assumption) g4, zve g4, zve g4, zve g4, zve g4, zve g4, zve g4, zve g4, zve g4, zve g4, zve g4⟩
        clear hK K
        try simp only [zu3, zu4, zu5, Act.put, zu6, List.set_cons_succ, List.set_cons_zero]
        refine tk 30 ?_
        refine wpAnyH_done (by kernel_rfl) ?_ _
        have g5 : Below wr.heap.size wr wcj29 := (h4.trans (g3.mono h4.size)).trans (g4.mono (Nat.le_trans h4.size g3.size))
        have j5 := zu9 J0 g5
        have J4 := zu9 HBX g5
        have y0 := zb g5 y0
        have y1 := zb g5 y1
        have y2 := zb g5 y2
        have p0 := zb g5 p0
        have p1 := zb g5 p1
        have p2 := zb g5 p2
        clear g5 h5 j2 h4 g0 g3 g4 hHeld z0 z1 z2 a0 a1 b0 b1
        rcases h7 : q with _ | _
        ·have HCC := zu8 (k1.out h7)
         clear h7 k1 j8 HQ
         have HRF := zu8 (GRow.below g8.out j5.out)
         have HBF2 := J4
         go_wp2_with fail
         generalize wcj29 = WF at *
         exact zvh
        ·have U7 := zu8 (j8.out h7)
         clear h7 k1 j8 HQ
         go_wp2
         go_roundw
         case rel => exact ⟨i' + 1, by omega, by omega, by go_num, U7.out, j5.out⟩
         case measure => simp [intOf]; omega
       ·have HCC := zu8 (q0.out (fun hj => absurd hj hlt2))
        have J1 : ¬ (i' : Int) + 1 < (C.length : Int) := by omega
        have V9 : decide ((i' : Int) + 1 < (C.length : Int)) = false := decide_eq_false J1
        have U6 : IntKind.i64.wrap ((i' : Int) + 1) = (i' : Int) + 1 := by rw [IntKind.wrap_i64]; omega
        clear q0
        generalize C[i'] = p at *
        go_wp2_with fail
        refine wp_region_held_drew (S := (fun W' => zj W')) (by kernel_rfl) (by (try dsimp only); exact k9.out.below (zvb _ _).drew) (fun hHeld => ?_)
        refine tk 0 ?_
        refine tk 1 ?_
        refine tk 2 ?_
        refine tk 3 ?_
        refine tk 4 ?_
        refine tk 5 ?_
        refine tu 6 ?_
        refine tu 7 ?_
        refine tu 8 ?_
        refine tu 9 ?_
        refine tu 10 ?_
        refine tu 11 ?_
        refine tu 12 ?_
        refine tu 13 ?_
        refine tu 14 ?_
        refine tu 15 ?_
        refine tu 16 ?_
        refine tu 17 ?_
        refine tu 18 ?_
        refine tu 19 ?_
        refine tu 20 ?_
        refine tu 21 ?_
        refine tu 22 ?_
        refine tu 23 ?_
        refine tu 24 ?_
        refine tu 25 ?_
        refine tu 26 ?_
        refine tu 27 ?_
        refine tu 28 ?_
        refine tu 29 ?_
        refine tk 30 ?_
        refine wpAnyH_done (by kernel_rfl) ?_ _
        have g5 : Below wr.heap.size wr wr.drew := (zvb wr.heap.size wr).drew
        have j5 := zu9 J0 g5
        have HBF2 := zu9 HBX g5
        have y0 := zb g5 y0
        have y1 := zb g5 y1
        have y2 := zb g5 y2
        have p0 := zb g5 p0
        have p1 := zb g5 p1
        have p2 := zb g5 p2
        have HRF := zu8 (GRow.below g8.out j5.out)
        clear g5 hHeld
        go_wp2_with fail
        generalize wr.drew = WF at *
        exact zvh
    ·have HR := zu8 (V.rrun_end (h := h) hlt)
     have U8 : Hid (V.opR n (ke o) a b = D) := zu8 (by rw [HF.out, HP.out.fold, HR.out, List.append_nil])
     go_wp2
     go_ret
     exact ⟨_, rfl, by rw [U8.out]; exact ItRow.itvs HP.out.row, (fun c hc => by have := GRow.block HP.out.row c hc; have := U2.out; omega), HBF.out.trans (HBX.out.mono HBF.out.size)⟩
end Go.Proofs.YtbikeahmldobkaaGreatDoor
