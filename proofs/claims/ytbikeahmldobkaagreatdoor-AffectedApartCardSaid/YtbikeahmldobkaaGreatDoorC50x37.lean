/-
  Lemmas for the law.
-/
import Derived.Test.YtbikeahmldobkaaGreatDoorC50x36
import Derived.Test.YtbikeahmldobkaaGreatDoorC50x16
import Derived.Test.YtbikeahmldobkaaGreatDoorC50x19
set_option linter.all false
set_option maxRecDepth 100000
set_option maxHeartbeats 12800000
namespace Go.Proofs.YtbikeahmldobkaaGreatDoor
open Go.RowKit
theorem zdr.opened {w : World} {N : Nat} {v : Value} {l : List V.Ec} (h : zdr w N v l) (h0 : 0 < l.length) : ∃ g cap, v = .slice (some ⟨g, 0, none⟩) l.length cap /\ l.length ≤ cap /\ N ≤ g /\ g < w.heap.size := by
 rcases h.2 with ⟨rfl, hn⟩ | ⟨g, cap, cur, rfl, hb, hg, g0, _⟩
 ·omega
 ·exact ⟨g, cap, rfl, g0, hb, (Array.getElem?_eq_some_iff.1 hg).1⟩
structure Cuts (N : Nat) (v : Value) (l : List V.Ec) (w : World) : Prop where
 opened : ∃ g cap, v = .slice (some ⟨g, 0, none⟩) l.length cap /\ l.length ≤ cap
 row : zdr w N v l
def rcTo (n : Int) (a b : List V.Itv) (j : Nat) : List V.Ec := (if j = 0 then [] else if j = 1 then a else a ++ b).foldl (V.addI n) [V.ebot, V.etop]
theorem rcTo_ok {n : Int} {a b : List V.Itv} (ha : ∀ x ∈ a, V.zr n x = true) (hb : ∀ x ∈ b, V.zr n x = true) (j : Nat) : ∀ y ∈ rcTo n a b j, V.EcOk n y := by
 unfold rcTo
 refine V.zod ?_ (V.ends_ok n)
 split
 ·intro x hx; cases hx
 ·split
  ·exact ha
  ·intro x hx
   rcases List.mem_append.1 hx with h | h
   ·exact ha x h
   ·exact hb x h
theorem rcTo_pos (n : Int) (a b : List V.Itv) (j : Nat) : 0 < (rcTo n a b j).length := V.zj8 _ _ _ (by simp)
theorem rcTo_len (n : Int) (a b : List V.Itv) (j : Nat) (ha : a.length ≤ 100) (hb : b.length ≤ 100) : (rcTo n a b j).length ≤ 402 := by
 have h := V.zkm n (if j = 0 then [] else if j = 1 then a else a ++ b) [V.ebot, V.etop]
 have h2 : (if j = 0 then [] else if j = 1 then a else a ++ b).length ≤ a.length + b.length := by
  split
  ·simp
  ·split
   ·omega
   ·simp
 unfold rcTo
 simp only [List.length_cons, List.length_nil] at h
 omega
structure SetOf (n : Int) (a b : List V.Itv) (B : Nat) (w W : World) (j : Nat) (s : List V.Itv) (va : Option Addr) (vc : Nat) : Prop where
 c0 : W.cell? ⟨B, j * 2, none⟩ = some (.int .i64 n)
 c1 : W.cell? ⟨B, j * 2 + 1, none⟩ = some (.slice va s.length vc)
 itvs : Itvs w (.slice va s.length vc) s
 bnd : ∀ x ∈ s, V.zr n x = true
 len : s.length ≤ 100
 next : rcTo n a b (j + 1) = s.foldl (V.addI n) (rcTo n a b j)
theorem set_of {n : Int} {a b : List V.Itv} {B : Nat} {w W : World} {va vb : Option Addr} {ca cb : Nat} (hva : Itvs w (.slice va a.length ca) a) (g0 : Itvs w (.slice vb b.length cb) b) (ha : ∀ x ∈ a, V.zr n x = true) (hb : ∀ x ∈ b, V.zr n x = true) (g1 : a.length ≤ 100) (g2 : b.length ≤ 100)
  (h0 : W.cell? ⟨B, 0, none⟩ = some (.int .i64 n)) (h1 : W.cell? ⟨B, 1, none⟩ = some (.slice va a.length ca)) (h2 : W.cell? ⟨B, 2, none⟩ = some (.int .i64 n)) (h3 : W.cell? ⟨B, 3, none⟩ = some (.slice vb b.length cb)) (j : Nat) (hj : j < 2) : ∃ s va vc, SetOf n a b B w W j s va vc := by
 rcases (by omega : j = 0 ∨ j = 1) with rfl | rfl
 ·exact ⟨a, va, ca, h0, h1, hva, ha, g1, rfl⟩
 ·exact ⟨b, vb, cb, h2, h3, g0, hb, g2, by unfold rcTo; rw [if_neg (by omega), if_neg (by omega), if_neg (by omega), if_pos rfl, List.foldl_append]⟩
structure PInv (h : V.Ec -> V.Ec -> Bool) (C : List V.Ec) (N : Nat) (i : Nat) (D : List V.Itv) (u : Value) (W : World) : Prop where
 row : ItRow W N u D
 fold : V.rrun h none C = D ++ V.rrun h none (C.drop i)
 len : D.length ≤ i
def zdc (h : V.Ec -> V.Ec -> Bool) (C : List V.Ec) (D : List V.Itv) (c : V.Ec) (first i : Nat) : Prop := i = first ∨ (first < i /\ V.rrun h none C = D ++ V.rrun h (some c) (C.drop i))
theorem zdc.step {h : V.Ec -> V.Ec -> Bool} {C : List V.Ec} {D : List V.Itv} {first i : Nat} (hf : first < C.length) (hp : zdc h C D C[first] first i) (h0 : V.rrun h none C = D ++ V.rrun h none (C.drop first)) (hi : i + 1 < C.length) (hh : h C[i] C[i + 1] = true) : zdc h C D C[first] first (i + 1) := by
 rcases hp with rfl | ⟨hlt, e⟩
 ·exact .inr ⟨by omega, by rw [h0, V.zuo hi hh]⟩
 ·exact .inr ⟨by omega, by rw [e, V.rrun_on hi hh]⟩
theorem zdc.close {h : V.Ec -> V.Ec -> Bool} {C : List V.Ec} {D : List V.Itv} {c : V.Ec} {first i : Nat} (hp : zdc h C D c first i) (hi : i < C.length) (hf : first + 1 < C.length) (hh : h C[first] C[first + 1] = true) (hn : ∀ hj : i + 1 < C.length, h C[i] C[i + 1] = false) : first < i /\ V.rrun h none C = (D ++ [V.btw c C[i]]) ++ V.rrun h none (C.drop i) := by
 rcases hp with rfl | ⟨hlt, e⟩
 ·have := hn hf
  rw [hh] at this
  cases this
 ·exact ⟨hlt, by rw [e, V.zri hi hn]; simp⟩
theorem zwp {P : Prop} (h : P := by
 obtain ⟨X, hX⟩ : ∃ X, X = V.btw y p := ⟨_, rfl⟩
 have hbw := fun w' => ze8 y p w' HYO.out.side HPO.out.side
 rw [← hX] at hbw HCC
 clear hX
 refine wp_region_held_drew (S := (fun W' => W'.cell? ⟨g, i * 3, none⟩ = some (.int .i64 y.e) /\ W'.cell? ⟨g, i * 3 + 1, none⟩ = some (.string ⟨y.v.toArray⟩) /\ W'.cell? ⟨g, i * 3 + 2, none⟩ = some (.int .i64 y.s) /\ W'.cell? ⟨g, i' * 3, none⟩ = some (.int .i64 p.e) /\ W'.cell? ⟨g, i' * 3 + 1, none⟩ = some (.string ⟨p.v.toArray⟩) /\ W'.cell? ⟨g, i' * 3 + 2, none⟩ = some (.int .i64 p.s))) (by kernel_rfl) (by (try dsimp only); (try simp only [World.cell?_drew]); exact ⟨y0, y1, y2, p0, p1, p2⟩) (fun hHeld => ?_)
 refine tk 0 ?_
 refine tk 1 ?_
 refine tk 2 ?_
 refine tk 3 ?_
 refine tk 4 ?_
 refine tk 5 ?_
 refine tk 6 ?_
 refine tk 7 ?_
 refine tk 8 ?_
 refine rd 9 fun K hK => ?_
 go_simp
 refine (hbw _).mono ?_
 rintro e wcb ⟨rfl, hbcb⟩
 unfold itvV
 have hbW : Below WF.heap.size WF wcb := (zwj WF.heap.size WF).drew.trans (show Below WF.heap.size WF.drew wcb from hbcb)
 try dsimp only
 refine hK.out _ _ ?_ (fun hHeld => ?_)
 ·(try dsimp only); exact ⟨ze hbW y0, ze hbW y1, ze hbW y2, ze hbW p0, ze hbW p1, ze hbW p2⟩
 clear hK K
 try simp only [zwb, zwc, zwd, Act.put, zwe, List.set_cons_succ, List.set_cons_zero]
 refine rd 10 fun K hK => ?_
 go_simp
 have hbN : Below wcb.heap.size wcb (wcb.alloc (.cells #[.string ⟨X.lo.toArray⟩, .int .i64 X.lk, .string ⟨X.hi.toArray⟩, .int .i64 X.hk] 83)) := (zwj _ wcb).alloc (zwi _) _
 have hbV := hbW.trans (hbN.mono hbW.size)
 have HB9 := zwh HBF2 hbV
 have HNW : Hid (∀ j u, (itvE X)[j]? = some u -> (wcb.alloc (.cells #[.string ⟨X.lo.toArray⟩, .int .i64 X.lk, .string ⟨X.hi.toArray⟩, .int .i64 X.hk] 83)).cell? ⟨wcb.heap.size, j, none⟩ = some u) := zwg (fun j u hu => by rw [World.cell?_alloc_new]; simpa [itvE] using hu)
 refine hK.out _ _ ?_ (fun hHeld => ?_)
 ·(try dsimp only); exact ⟨ze hbV y0, ze hbV y1, ze hbV y2, ze hbV p0, ze hbV p1, ze hbV p2⟩
 clear hK K
 try simp only [zwb, zwc, zwd, Act.put, zwe, List.set_cons_succ, List.set_cons_zero]
 refine rd 11 fun K hK => ?_
 refine ja zky (by decide) zpb ztp (by decide) rfl _ _ 66 rfl Tryz.underlying66 W1.heap.size ou D rfl (GRow.below HRF.out hbV) wcb.heap.size X rfl HNW.out (by have := HP.out.len; omega) HB9.out.size (fun v3 W3 hr3 hg3 => ?_)
 have hgb3 := GRow.block HRF.out
 refine hK.out _ _ ?_ (fun hHeld => ?_)
 ·(try dsimp only); exact ⟨zl hg3 hgb3 HGL.out (ze hbV y0), zl hg3 hgb3 HGL.out (ze hbV y1), zl hg3 hgb3 HGL.out (ze hbV y2), zl hg3 hgb3 HGL.out (ze hbV p0), zl hg3 hgb3 HGL.out (ze hbV p1), zl hg3 hgb3 HGL.out (ze hbV p2)⟩
 clear hK K
 try simp only [zwb, zwc, zwd, Act.put, zwe, List.set_cons_succ, List.set_cons_zero]
 refine tk 12 ?_
 refine wpAnyH_done (by kernel_rfl) ?_ _
 have HPI : Hid (PInv h C W1.heap.size i' (D ++ [X]) v3 W3) := zwg ⟨hr3, HCC.out.2, by have := HP.out.len; have := HCC.out.1; simp; omega⟩
 have HB10 := zwg (HB9.out.trans (zx hg3 hgb3 (zwi _) HB9.out.size))
 have hlti := HCC.out.1
 clear hr3 hg3 hHeld hbN hbW hbV HNW hbcb y0 y1 y2 p0 p1 p2
 go_wp2
 go_roundw
 case rel => exact ⟨i', D ++ [X], _, by omega, by go_num, rfl, HPI.out, HB10.out⟩
 case measure => simp [intOf]; omega) : P := h
theorem zll (o n : Int) (va vb : Value) (a b : List V.Itv) (w : World) (hm : zj w) (hn : V.scheme n = true) (hva : Itvs w va a) (k2 : Itvs w vb b) (k3 : ∀ x ∈ a, V.zr n x = true) (hbb : ∀ x ∈ b, V.zr n x = true) (v5 : a.length ≤ 100) (v6 : b.length ≤ 100) :
  Calls Tryz.prog 191 #[.int .i64 o, setV n va, setV n vb] w fun e w' => ∃ u, e = .returned u /\ Itvs w' u (V.opR n (kq o) a b) /\ (∀ c, u.ownBlock = some c -> w.heap.size ≤ c) /\ Below w.heap.size w w' := by
 obtain ⟨h, hh⟩ : ∃ h : V.Ec -> V.Ec -> Bool, h = fun x y => kq o (V.ju n a x y) (V.ju n b x y) := ⟨_, rfl⟩
 have HH := zwg hh
 have HF : Hid (V.opR n (kq o) a b = V.rrun h none (rcTo n a b 2)) := zwg (by rw [hh]; rfl)
 have v7 := zwg hva
 have v8 := zwg k2
 have HSC := zwg hn
 have v9 := zwg k3
 have HBB := zwg hbb
 have HM := zwg hm
 have HOK := zwg (rcTo_ok (n := n) k3 hbb)
 have q0 := zwg (rcTo_pos n a b)
 have q1 := zwg (fun j => rcTo_len n a b j v5 v6)
 obtain ⟨va, ca, rfl⟩ := hva.slice
 obtain ⟨vb, cb, rfl⟩ := k2.slice
 obtain ⟨W0, hW0⟩ : ∃ W0, W0 = (((w.alloc (.cells #[.int .i64 n, .slice va a.length ca] 68)).alloc (.cells #[.int .i64 n, .slice vb b.length cb] 68)).alloc (.cells #[.int .i64 (-1), .string ⟨#[]⟩, .int .i64 0, .int .i64 1, .string ⟨#[]⟩, .int .i64 0] 168)).alloc (.cells #[.int .i64 n, .slice va a.length ca, .int .i64 n, .slice vb b.length cb] 68) := ⟨_, rfl⟩
 have HB0 : Hid (Below w.heap.size w W0) := zwg (by rw [hW0]; exact zb8 _ _ _ _ _)
 have q2 : Hid (W0.cell? ⟨w.heap.size, 0, none⟩ = some (.int .i64 n)) := zwg (by rw [hW0]; simp [zh]; try omega)
 have y3 : Hid (W0.cell? ⟨w.heap.size, 1, none⟩ = some (.slice va a.length ca)) := zwg (by rw [hW0]; simp [zh]; try omega)
 have q3 : Hid (W0.cell? ⟨w.heap.size + 1, 0, none⟩ = some (.int .i64 n)) := zwg (by rw [hW0]; simp [zh]; try omega)
 have q4 : Hid (W0.cell? ⟨w.heap.size + 1, 1, none⟩ = some (.slice vb b.length cb)) := zwg (by rw [hW0]; simp [zh]; try omega)
 have k4 : Hid (∀ j, j < 2 -> ∃ s va vc, SetOf n a b (w.heap.size + 1 + 1 + 1) w W0 j s va vc) := zwg (fun j hj => set_of hva k2 k3 hbb v5 v6 (by rw [hW0]; simp [zh]) (by rw [hW0]; simp [zh]) (by rw [hW0]; simp [zh]) (by rw [hW0]; simp [zh]) j hj)
 have y4 : Hid (Cuts w.heap.size (.slice (some ⟨w.heap.size + 1 + 1, 0, none⟩) 2 2) (rcTo n a b 0) W0) := zwg ⟨⟨_, _, rfl, zwi _⟩, rfl, .inr ⟨w.heap.size + 1 + 1, 2, #[.int .i64 (-1), .string ⟨#[]⟩, .int .i64 0, .int .i64 1, .string ⟨#[]⟩, .int .i64 0], rfl, by omega, by rw [hW0, heap_alloc, if_neg (by simp), heap_alloc, if_pos (by simp)], zwi _, by unfold maxLen; omega, rfl, rfl⟩⟩
 have h6 : Hid (w.heap.size + 1 + 1 + 1 < W0.heap.size) := zwg (by rw [hW0]; simp)
 clear hva k2 k3 hbb hm hn hh
 unfold setV
 go_enter Tryz.func191, Tryz.ntmps191
 go_wp2_with fail
 rw [← hW0]
 clear hW0
 go_loopw [7, 21] (fun cv jv wx => ∃ (j : Nat) (g cap : Nat), j ≤ 2 /\ jv = .int .i64 j /\ cv = .slice (some ⟨g, 0, none⟩) (rcTo n a b j).length cap /\ (rcTo n a b j).length ≤ cap /\ zdr wx w.heap.size cv (rcTo n a b j) /\ Below W0.heap.size W0 wx) (fun _ jv _ => 2 - (intOf jv).toNat)
 case atStart => exact ⟨0, _, _, by omega, rfl, rfl, zwi _, y4.out.row, zwj _ _⟩
 case round =>
  obtain ⟨j, g, cap, hj, rfl, rfl, j9, j0, j3⟩ := hrel
  have g8 := zwg j0
  have HBX := zwg j3
  have HBF := zwh HB0 j3
  clear j0 j3
  by_cases y5 : j < 2
  ·obtain ⟨s, sva, svc, j4⟩ := k4.out j y5
   have h8 := zwg j4
   have l0 := (HBX.out.cell (p := ⟨w.heap.size + 1 + 1 + 1, j * 2, none⟩) h6.out).trans j4.c0
   have l1 := (HBX.out.cell (p := ⟨w.heap.size + 1 + 1 + 1, j * 2 + 1, none⟩) h6.out).trans j4.c1
   have G8 : (0 : Int) ≤ (j : Int) := by omega
   have G9 : (j : Int) < 2 := by omega
   clear j4
   have hbA : Below wr.heap.size wr (wr.alloc (.cells #[.int .i64 n, .slice sva s.length svc] 68)) := (zwj _ wr).alloc (zwi _) _
   have G5 := zwh HBX hbA
   have k5 := zwg (GRow.below g8.out hbA)
   have m0 : (wr.alloc (.cells #[.int .i64 n, .slice sva s.length svc] 68)).cell? ⟨wr.heap.size, 1, none⟩ = some (.slice sva s.length svc) := by simp [zh]
   have y6 := zwg m0
   have y7 : wr.heap.size < (wr.alloc (.cells #[.int .i64 n, .slice sva s.length svc] 68)).heap.size := by simp
   clear hbA m0
   go_wp2_with fail
   generalize wr.alloc (.cells #[.int .i64 n, .slice sva s.length svc] 68) = W9 at *
   obtain ⟨X9, q5⟩ : ∃ X, X = wr.heap.size := ⟨_, rfl⟩
   rw [← q5] at y6 y7 ⊢
   have Q8 := zwg q5
   clear l0 l1 q5
   obtain ⟨F, hF⟩ : ∃ F : Nat -> List V.Ec, F = fun k => (s.take k).foldl (V.addI n) (rcTo n a b j) := ⟨_, rfl⟩
   have J0 : Hid (F 0 = rcTo n a b j) := zwg (by rw [hF]; rfl)
   have HFE : Hid (F s.length = rcTo n a b (j + 1)) := zwg (by rw [hF, h8.out.next]; simp)
   have HFS : Hid (∀ k (hk : k < s.length), F (k + 1) = V.radd n (V.ky s[k]) (V.radd n (V.eLow s[k]) (F k))) := zwg (fun k hk => by rw [hF]; exact V.zuw _ hk)
   have HFO : Hid (∀ k, ∀ y ∈ F k, V.EcOk n y) := zwg (fun k => by rw [hF]; exact V.zod (fun x hx => h8.out.bnd x (List.mem_of_mem_take hx)) (HOK.out j))
   have J1 : Hid (∀ k, 0 < (F k).length) := zwg (fun k => by rw [hF]; exact V.zj8 _ _ _ (q0.out j))
   have J2 : Hid (∀ k, (F k).length ≤ 602) := zwg (fun k => by
     have h1 := V.zkm n (s.take k) (rcTo n a b j)
     have h2 := q1.out j
     have h3 := h8.out.len
     rw [List.length_take] at h1
     rw [hF]
     show ((s.take k).foldl (V.addI n) (rcTo n a b j)).length ≤ 602
     omega)
   have J3 : Hid (∃ g' cap' : Nat, (.slice (some ⟨g, 0, none⟩) (rcTo n a b j).length cap : Value) = .slice (some ⟨g', 0, none⟩) (F 0).length cap' /\ (F 0).length ≤ cap' /\ zdr W9 w.heap.size (.slice (some ⟨g, 0, none⟩) (rcTo n a b j).length cap) (F 0)) := zwg (by rw [J0.out]; exact ⟨g, cap, rfl, j9, k5.out⟩)
   have hsl := h8.out.len
   clear hF j9 k5 g8
   go_loopw [7, 10] (fun cv kv wx => ∃ (k g' cap' : Nat), k ≤ s.length /\ kv = .int .i64 k /\ cv = .slice (some ⟨g', 0, none⟩) (F k).length cap' /\ (F k).length ≤ cap' /\ zdr wx w.heap.size cv (F k) /\ Below W9.heap.size W9 wx) (fun _ kv _ => s.length - (intOf kv).toNat)
   case atStart =>
    obtain ⟨g', cap', e1, e2, e3⟩ := J3.out
    exact ⟨0, g', cap', Nat.zero_le _, rfl, e1, e2, e3, zwj _ _⟩
   case round =>
    obtain ⟨k, gk, ck, hk, rfl, rfl, y8, j0, hbk⟩ := hrel
    have g8 := zwg j0
    have HBK := zwg hbk
    have HBW := zwh G5 hbk
    have q6 := zwg (HB0.out.trans (HBW.out.mono HB0.out.size))
    have m1 := (hbk.cell (p := ⟨X9, 1, none⟩) y7).trans y6.out
    clear j0 hbk
    by_cases hlt : k < s.length
    ·obtain ⟨b', off, rfl, J4, hx⟩ := h8.out.itvs.at k hlt
     obtain ⟨h0, h1, h2, h3⟩ := hx.below J4 q6.out
     have a0 := (HBW.out.cell (p := ⟨w.heap.size, 0, none⟩) (by have := h6.out; simp; omega)).trans q2.out
     have J5 : (0 : Int) ≤ (k : Int) := by omega
     have J6 : (k : Int) < (s.length : Int) := by omega
     have q7 : Hid (V.zr n s[k] = true) := zwg (h8.out.bnd _ (List.getElem_mem hlt))
     have HST := zwg (HFS.out k hlt)
     have J7 := zwg (HM.out.below q6.out)
     have J8 := J1.out k
     have hp2 := J2.out k
     clear hx
     generalize s[k] = x at *
     have y9 := V.zcg n (V.eLow x) (F k)
     obtain ⟨y9, z3⟩ := y9
     go_wp2_with fail
     refine wp_region_held_drew (S := (fun W' => zj W' /\ W'.cell? ⟨w.heap.size, 0, none⟩ = some (.int .i64 n) /\ W'.cell? ⟨X9, 1, none⟩ = some (.slice (some ⟨b', off, none⟩) s.length svc) /\ W'.cell? ⟨b', off + k * 4, none⟩ = some (.string ⟨x.lo.toArray⟩) /\ W'.cell? ⟨b', off + k * 4 + 1, none⟩ = some (.int .i64 x.lk) /\ W'.cell? ⟨b', off + k * 4 + 2, none⟩ = some (.string ⟨x.hi.toArray⟩) /\ W'.cell? ⟨b', off + k * 4 + 3, none⟩ = some (.int .i64 x.hk))) (by kernel_rfl) (by (try dsimp only); (try simp only [World.cell?_drew]); exact ⟨J7.out.below (zwj _ _).drew, a0, m1, h0, h1, h2, h3⟩) (fun hHeld => ?_)
     refine tk 0 ?_
     refine tk 1 ?_
     refine tk 2 ?_
     refine tk 3 ?_
     refine tk 4 ?_
     refine tk 5 ?_
     refine tk 6 ?_
     refine tk 7 ?_
     refine tk 8 ?_
     refine tk 9 ?_
     refine tk 12 ?_
     refine tk 13 ?_
     refine tk 14 ?_
     refine tk 15 ?_
     refine tk 16 ?_
     refine rd 10 fun K hK => ?_
     go_simp
     refine (vu x _).mono ?_
     rintro e wc10 ⟨rfl, g7⟩
     try dsimp only
     refine hK.out _ _ ?_ (fun hHeld => ?_)
     ·(try dsimp only); go_split_ands; exact ⟨zj.below (by assumption) g7, zwm g7, zwm g7, zwm g7, zwm g7, zwm g7, zwm g7⟩
     clear hK K
     try simp only [zwb, zwc, zwd, Act.put, zwe, List.set_cons_succ, List.set_cons_zero]
     refine rd 11 fun K hK => ?_
     go_simp
     refine (zma n (V.eLow x) gk 0 ck (F k) _ (by first | assumption | exact And.left (by assumption)) HSC.out (V.zar q7.out) (GRow.gsl xy (GRow.below (GRow.below g8.out (zwj _ _).drew) g7)) (HFO.out k) J8 y8 (by omega)).mono ?_
     rintro e wc11 ⟨u1, rfl, q8, hbc11⟩
     obtain ⟨g1, cap1, rfl, k6, _, _⟩ := zdr.opened q8 z3
     try dsimp only
     refine hK.out _ _ ?_ (fun hHeld => ?_)
     ·exact zzr
     clear hK K
     try simp only [zwb, zwc, zwd, Act.put, zwe, List.set_cons_succ, List.set_cons_zero]
     refine rd 17 fun K hK => ?_
     go_simp
     refine (wi x _).mono ?_
     rintro e wc17 ⟨rfl, g6⟩
     try dsimp only
     refine hK.out _ _ ?_ (fun hHeld => ?_)
     ·(try dsimp only); go_split_ands; exact ⟨zj.below (by assumption) g6, zwm g6, zwm g6, zwm g6, zwm g6, zwm g6, zwm g6⟩
     clear hK K
     try simp only [zwb, zwc, zwd, Act.put, zwe, List.set_cons_succ, List.set_cons_zero]
     refine rd 18 fun K hK => ?_
     go_simp
     refine (zma n (V.ky x) g1 0 cap1 (V.radd n (V.eLow x) (F k)) _ (by first | assumption | exact And.left (by assumption)) HSC.out (V.za5 q7.out) (GRow.gsl xy (GRow.below q8 g6)) (V.ziv (V.zar q7.out) (HFO.out k)) z3 k6 (by omega)).mono ?_
     rintro e wc18 ⟨u2, rfl, q9, g9⟩
     obtain ⟨g2, cap2, rfl, k7, _, _⟩ := zdr.opened q9 (V.zcg n _ _).2
     try dsimp only
     refine hK.out _ _ ?_ (fun hHeld => ?_)
     ·(try dsimp only); go_split_ands; exact ⟨zj.below (by assumption) g9, zwm g9, zwm g9, zwm g9, zwm g9, zwm g9, zwm g9⟩
     clear hK K
     try simp only [zwb, zwc, zwd, Act.put, zwe, List.set_cons_succ, List.set_cons_zero]
     refine tk 19 ?_
     refine wpAnyH_done (by kernel_rfl) ?_ _
     have k0 : Below wr.heap.size wr wc11 := ((zwj wr.heap.size wr).drew.trans (show Below wr.heap.size wr.drew wc10 from g7)).trans (hbc11.mono (show wr.heap.size ≤ wc10.heap.size from g7.size))
     have hb8 : Below wr.heap.size wr wc18 := k0.trans ((g6.trans (g9.mono g6.size)).mono k0.size)
     have v0 : wr.heap.size ≤ wc17.heap.size := Nat.le_trans k0.size g6.size
     have HB8 := zwh HBK hb8
     have HR8 : Hid (zdr wc18 w.heap.size (.slice (some ⟨g2, 0, none⟩) (F (k + 1)).length cap2) (F (k + 1))) := zwg (by rw [HST.out]; exact GRow.weaken q9 (Nat.le_trans q6.out.size v0))
     have J9 : Hid ((F (k + 1)).length ≤ cap2) := zwg (by rw [HST.out]; exact k7)
     rw [← HST.out]
     clear q8 q9 k7 k6 g7 hbc11 g6 g9 hHeld hb8 v0 m1 h0 h1 h2 h3 a0
     go_wp2
     go_roundw
     case rel => exact ⟨k + 1, _, _, by omega, by go_num, rfl, J9.out, HR8.out, HB8.out⟩
     case measure => simp [intOf]; omega
    ·obtain rfl : k = s.length := by omega
     have Q0 : Hid (∃ (g cap : Nat), (.slice (some ⟨gk, 0, none⟩) (F s.length).length ck : Value) = .slice (some ⟨g, 0, none⟩) (rcTo n a b (j + 1)).length cap /\ (rcTo n a b (j + 1)).length ≤ cap /\ zdr wr w.heap.size (.slice (some ⟨gk, 0, none⟩) (F s.length).length ck) (rcTo n a b (j + 1))) := zwg (by rw [← HFE.out]; exact ⟨gk, ck, rfl, y8, g8.out⟩)
     go_wp2
     go_roundw
     case rel =>
      obtain ⟨g2, c2, e1, e2, e3⟩ := Q0.out
      exact ⟨j + 1, g2, c2, by omega, by go_num, e1, e2, e3, HBW.out⟩
     case measure => simp [intOf]; omega
  ·have HF : Hid (V.opR n (kq o) a b = V.rrun h none (rcTo n a b j)) := zwg (by rw [HF.out, show j = 2 by omega])
   have hjc : ¬ (j : Int) < 2 := by omega
   obtain ⟨C, hC⟩ : ∃ C, C = rcTo n a b j := ⟨_, rfl⟩
   have j1 := zwg (HOK.out j)
   have v1 := q0.out j
   have G6 := q1.out j
   rw [← hC] at HF g8 j9 j1 v1 G6 ⊢
   clear hC k4 y4 HOK q0 q1 hj
   have z4 := zwg (HM.out.below HBF.out)
   have z5 := zwg ((HBX.out.cell (p := ⟨w.heap.size, 0, none⟩) (by have := h6.out; simp; omega)).trans q2.out)
   have z6 := zwg ((HBX.out.cell (p := ⟨w.heap.size, 1, none⟩) (by have := h6.out; simp; omega)).trans y3.out)
   have HB2 := zwg ((HBX.out.cell (p := ⟨w.heap.size + 1, 0, none⟩) (by have := h6.out; simp; omega)).trans q3.out)
   have HB3 := zwg ((HBX.out.cell (p := ⟨w.heap.size + 1, 1, none⟩) (by have := h6.out; simp; omega)).trans q4.out)
   have j6 : Hid (∀ i (hi : i < C.length), wr.cell? ⟨g, i * 3, none⟩ = some (.int .i64 C[i].e) /\ wr.cell? ⟨g, i * 3 + 1, none⟩ = some (.string ⟨C[i].v.toArray⟩) /\ wr.cell? ⟨g, i * 3 + 2, none⟩ = some (.int .i64 C[i].s)) := zwg (fun i hi => by
     obtain ⟨g', c', e, _, _, hc⟩ := GRow.at xy g8.out i hi
     cases e
     exact zpn hc)
   have HGL : Hid (g < wr.heap.size) := zwg (by
     obtain ⟨g', c', e, _, hg, _⟩ := GRow.at xy g8.out 0 v1
     cases e
     exact hg)
   have Q1 : Hid (w.heap.size + 1 < wr.heap.size) := zwg (by have := h6.out; have := HBX.out.size; omega)
   have z7 := zwg (v7.out.below HBF.out)
   have z8 := zwg (v8.out.below HBF.out)
   clear g8 HBX h6 q2 y3 q3 q4 HB0 v7 v8 HM
   go_wp2_with fail
   generalize wr = W1 at *
   go_loopw [11, 12] (fun ov iv wx => ∃ (i : Nat) (D : List V.Itv) (u : Value), i ≤ C.length /\ iv = .int .i64 i /\ u = ov /\ PInv h C W1.heap.size i D u wx /\ Below W1.heap.size W1 wx) (fun _ iv _ => C.length - (intOf iv).toNat)
   case atStart => exact ⟨0, [], _, Nat.zero_le _, rfl, rfl, ⟨GRow.nil _ _, rfl, Nat.zero_le _⟩, zwj _ _⟩
   case round =>
    obtain ⟨i, D, ou, hi, rfl, rfl, hp, j3⟩ := hrel
    have HP := zwg hp
    have HBX := zwg j3
    clear hp j3
    obtain ⟨wo, Q2⟩ : ∃ wo : World, wo = wr := ⟨_, rfl⟩
    subst Q2
    by_cases hlt : i + 1 < C.length
    ·have h9 : i < C.length := by omega
     obtain ⟨y0, y1, y2⟩ := j6.out i h9
     obtain ⟨z0, z1, z2⟩ := j6.out (i + 1) hlt
     have y0 := ze HBX.out y0
     have y1 := ze HBX.out y1
     have y2 := ze HBX.out y2
     have z0 := ze HBX.out z0
     have z1 := ze HBX.out z1
     have z2 := ze HBX.out z2
     have a0 := ze HBX.out z5.out
     have a1 := ze HBX.out z6.out
     have b0 := ze HBX.out HB2.out
     have b1 := ze HBX.out HB3.out
     have k8 := zwg (z4.out.below HBX.out)
     have G8 : (0 : Int) ≤ (i : Int) := by omega
     have G9 : (i : Int) < (C.length : Int) := by omega
     have J5 : (0 : Int) ≤ (i : Int) + 1 := by omega
     have J6 : (i : Int) + 1 < (C.length : Int) := by omega
     have Q9 : ((i : Int) + 1).toNat = i + 1 := by omega
     have U0 : IntKind.i64.wrap ((i : Int) + 1) = (i : Int) + 1 := by rw [IntKind.wrap_i64]; omega
     have HYO := zwg (j1.out _ (List.getElem_mem h9))
     have j7 := zwg (j1.out _ (List.getElem_mem hlt))
     have HSK := zwg (fun hn => V.zur (h := h) hlt hn)
     obtain ⟨q, hq⟩ : ∃ q, q = h C[i] C[i + 1] := ⟨_, rfl⟩
     have HQ : Hid (q = kq o (V.ju n a C[i] C[i + 1]) (V.ju n b C[i] C[i + 1])) := zwg (by rw [hq, HH.out])
     have z9 := zwg hq
     rw [← hq] at HSK
     clear hq
     generalize G0 : C[i] = y at *
     generalize G1 : C[i + 1] = z at *
     have Q3 := zwg G1
     clear G1
     have v2 := zwg G0
     clear G0
     have G2 : Hid (q = h y z) := z9
     go_wp2_with fail
     refine wp_region_held_drew (S := (fun W' => zj W' /\ W'.cell? ⟨w.heap.size, 0, none⟩ = some (.int .i64 n) /\ W'.cell? ⟨w.heap.size, 1, none⟩ = some (.slice va a.length ca) /\ W'.cell? ⟨w.heap.size + 1, 0, none⟩ = some (.int .i64 n) /\ W'.cell? ⟨w.heap.size + 1, 1, none⟩ = some (.slice vb b.length cb) /\ W'.cell? ⟨g, i * 3, none⟩ = some (.int .i64 y.e) /\ W'.cell? ⟨g, i * 3 + 1, none⟩ = some (.string ⟨y.v.toArray⟩) /\ W'.cell? ⟨g, i * 3 + 2, none⟩ = some (.int .i64 y.s) /\ W'.cell? ⟨g, (i + 1) * 3, none⟩ = some (.int .i64 z.e) /\ W'.cell? ⟨g, (i + 1) * 3 + 1, none⟩ = some (.string ⟨z.v.toArray⟩) /\ W'.cell? ⟨g, (i + 1) * 3 + 2, none⟩ = some (.int .i64 z.s))) (by kernel_rfl) (by (try dsimp only); (try simp only [World.cell?_drew]); exact ⟨k8.out.below (zwj _ _).drew, a0, a1, b0, b1, y0, y1, y2, z0, z1, z2⟩) (fun hHeld => ?_)
     refine tk 0 ?_
     refine tk 1 ?_
     refine tk 2 ?_
     refine tk 3 ?_
     refine tk 4 ?_
     refine tk 5 ?_
     refine tk 6 ?_
     refine tk 7 ?_
     refine tk 8 ?_
     refine tk 9 ?_
     refine tk 10 ?_
     refine tk 12 ?_
     refine tk 13 ?_
     refine tk 14 ?_
     refine tk 15 ?_
     refine tk 16 ?_
     refine tk 17 ?_
     refine tk 18 ?_
     refine tk 19 ?_
     refine tk 20 ?_
     refine tk 21 ?_
     refine rd 11 fun K hK => ?_
     go_simp
     have h5 : Below W1.heap.size W1 wo.drew := HBX.out.drew
     refine (zat n (.slice va a.length ca) a y z _ (by first | assumption | exact And.left (by assumption)) HSC.out (z7.out.below h5) v9.out HYO.out j7.out (by omega)).mono ?_
     rintro e wc11 ⟨rfl, hbc11⟩
     try dsimp only
     refine hK.out _ _ ?_ (fun hHeld => ?_)
     ·(try dsimp only); go_split_ands; exact ⟨zj.below (by assumption) hbc11, zwm hbc11, zwm hbc11, zwm hbc11, zwm hbc11, zwm hbc11, zwm hbc11, zwm hbc11, zwm hbc11, zwm hbc11, zwm hbc11⟩
     clear hK K
     try simp only [zwb, zwc, zwd, Act.put, zwe, List.set_cons_succ, List.set_cons_zero]
     refine rd 22 fun K hK => ?_
     go_simp
     have j2 := h5.trans (hbc11.mono h5.size)
     have h4 : Below wo.heap.size wo wc11 := (zwj wo.heap.size wo).drew.trans (show Below wo.heap.size wo.drew wc11 from hbc11)
     refine (zat n (.slice vb b.length cb) b y z _ (by first | assumption | exact And.left (by assumption)) HSC.out (z8.out.below j2) HBB.out HYO.out j7.out (by omega)).mono ?_
     rintro e wc22 ⟨rfl, hbc22⟩
     try dsimp only
     refine hK.out _ _ ?_ (fun hHeld => ?_)
     ·exact zyv
     clear hK K
     try simp only [zwb, zwc, zwd, Act.put, zwe, List.set_cons_succ, List.set_cons_zero]
     refine rd 23 fun K hK => ?_
     go_simp
     refine (zhx o _ _ _).mono ?_
     rintro e wc23 ⟨rfl, hbc23⟩
     try dsimp only
     rw [← HQ.out]
     refine hK.out _ _ ?_ (fun hHeld => ?_)
     ·exact zyu
     clear hK K
     try simp only [zwb, zwc, zwd, Act.put, zwe, List.set_cons_succ, List.set_cons_zero]
     refine tk 24 ?_
     refine wpAnyH_done (by kernel_rfl) ?_ _
     have g5 : Below wo.heap.size wo wc23 := (h4.trans (hbc22.mono h4.size)).trans (hbc23.mono (Nat.le_trans h4.size hbc22.size))
     have U1 := zwg g5
     have HBY := zwh HBX g5
     have g8 := zwg (GRow.below HP.out.row g5)
     clear g5 h5 j2 h4 hbc11 hbc22 hbc23 hHeld y0 y1 y2 z0 z1 z2 a0 a1 b0 b1
     generalize wc23 = WI at *
     rcases h7 : q with _ | _
     ·have HPI : Hid (PInv h C W1.heap.size (i + 1) D ou WI) := zwg ⟨g8.out, by rw [HP.out.fold, HSK.out h7], by have := HP.out.len; omega⟩
      clear h7
      go_wp2
      go_roundw
      case rel => exact ⟨i + 1, D, ou, by omega, by go_num, rfl, HPI.out, HBY.out⟩
      case measure => simp [intOf]; omega
     ·have Q4 : Hid (h C[i] C[i + 1] = true) := zwg (by rw [v2.out, Q3.out, ← G2.out]; exact h7)
      clear h7 HSK HQ z9 G2
      go_wp2_with fail
      simp only [Bool.not_true]
      go_loopw [12] (fun iv wx => ∃ i' : Nat, i ≤ i' /\ i' < C.length /\ iv = .int .i64 i' /\ zdc h C D y i i' /\ Below WI.heap.size WI wx) (fun iv _ => C.length - (intOf iv).toNat)
      case atStart => exact ⟨i, zwi _, h9, rfl, .inl rfl, zwj _ _⟩
      case round =>
       obtain ⟨i', U2, v3, rfl, G3, hbj⟩ := hrel
       have HPC := zwg G3
       have HBJ := zwg hbj
       have HBX := zwh HBY hbj
       clear G3 hbj
       have k8 := zwg (z4.out.below HBX.out)
       obtain ⟨y0, y1, y2⟩ := j6.out i h9
       rw [v2.out] at y0 y1 y2
       obtain ⟨p0, p1, p2⟩ := j6.out i' v3
       have y0 := ze HBX.out y0
       have y1 := ze HBX.out y1
       have y2 := ze HBX.out y2
       have p0 := ze HBX.out p0
       have p1 := ze HBX.out p1
       have p2 := ze HBX.out p2
       have U3 : (0 : Int) ≤ (i' : Int) := by omega
       have y5 : (i' : Int) < (C.length : Int) := by omega
       have HPO := zwg (j1.out _ (List.getElem_mem v3))
       have k9 := zwg (fun hn => HPC.out.close v3 hlt Q4.out hn)
       by_cases hlt2 : i' + 1 < C.length
       ·obtain ⟨z0, z1, z2⟩ := j6.out (i' + 1) hlt2
        have z0 := ze HBX.out z0
        have z1 := ze HBX.out z1
        have z2 := ze HBX.out z2
        have a0 := ze HBX.out z5.out
        have a1 := ze HBX.out z6.out
        have b0 := ze HBX.out HB2.out
        have b1 := ze HBX.out HB3.out
        have U4 : (0 : Int) ≤ (i' : Int) + 1 := by omega
        have G4 : (i' : Int) + 1 < (C.length : Int) := by omega
        have U5 : ((i' : Int) + 1).toNat = i' + 1 := by omega
        have Q5 : IntKind.i64.wrap ((i' : Int) + 1) = (i' : Int) + 1 := by rw [IntKind.wrap_i64]; omega
        have j7 := zwg (j1.out _ (List.getElem_mem hlt2))
        have v4 : Hid (C[i]'h9 = y) := v2
        have j8 := zwg (fun hn => zdc.step (h := h) (D := D) h9 (by rw [v4.out]; exact HPC.out) HP.out.fold hlt2 hn)
        rw [v4.out] at j8
        obtain ⟨q, hq⟩ : ∃ q, q = h C[i'] C[i' + 1] := ⟨_, rfl⟩
        have HQ : Hid (q = kq o (V.ju n a C[i'] C[i' + 1]) (V.ju n b C[i'] C[i' + 1])) := zwg (by rw [hq, HH.out])
        have k1 : Hid (q = false -> i < i' /\ V.rrun h none C = (D ++ [V.btw y C[i']]) ++ V.rrun h none (C.drop i')) := zwg (fun hn => k9.out (fun _ => by rw [← hq]; exact hn))
        rw [← hq] at j8
        clear hq k9 v4
        generalize C[i'] = p at *
        generalize C[i' + 1] = z at *
        go_wp2_with fail
        refine wp_region_held_drew (S := (fun W' => zj W' /\ W'.cell? ⟨w.heap.size, 0, none⟩ = some (.int .i64 n) /\ W'.cell? ⟨w.heap.size, 1, none⟩ = some (.slice va a.length ca) /\ W'.cell? ⟨w.heap.size + 1, 0, none⟩ = some (.int .i64 n) /\ W'.cell? ⟨w.heap.size + 1, 1, none⟩ = some (.slice vb b.length cb) /\ W'.cell? ⟨g, i' * 3, none⟩ = some (.int .i64 p.e) /\ W'.cell? ⟨g, i' * 3 + 1, none⟩ = some (.string ⟨p.v.toArray⟩) /\ W'.cell? ⟨g, i' * 3 + 2, none⟩ = some (.int .i64 p.s) /\ W'.cell? ⟨g, (i' + 1) * 3, none⟩ = some (.int .i64 z.e) /\ W'.cell? ⟨g, (i' + 1) * 3 + 1, none⟩ = some (.string ⟨z.v.toArray⟩) /\ W'.cell? ⟨g, (i' + 1) * 3 + 2, none⟩ = some (.int .i64 z.s))) (by kernel_rfl) (by (try dsimp only); (try simp only [World.cell?_drew]); exact ⟨k8.out.below (zwj _ _).drew, a0, a1, b0, b1, p0, p1, p2, z0, z1, z2⟩) (fun hHeld => ?_)
        refine tk 0 ?_
        refine tk 1 ?_
        refine tk 2 ?_
        refine tk 3 ?_
        refine tk 4 ?_
        refine tk 5 ?_
        refine tk 6 ?_
        refine tk 7 ?_
        refine tk 8 ?_
        refine tk 9 ?_
        refine tk 10 ?_
        refine tk 11 ?_
        refine tk 12 ?_
        refine tk 13 ?_
        refine tk 14 ?_
        refine tk 15 ?_
        refine tk 16 ?_
        refine tk 18 ?_
        refine tk 19 ?_
        refine tk 20 ?_
        refine tk 21 ?_
        refine tk 22 ?_
        refine tk 23 ?_
        refine tk 24 ?_
        refine tk 25 ?_
        refine tk 26 ?_
        refine tk 27 ?_
        refine rd 17 fun K hK => ?_
        go_simp
        have h5 : Below W1.heap.size W1 wr.drew := HBX.out.drew
        refine (zat n (.slice va a.length ca) a p z _ (by first | assumption | exact And.left (by assumption)) HSC.out (z7.out.below h5) v9.out HPO.out j7.out (by omega)).mono ?_
        rintro e wcj17 ⟨rfl, g0⟩
        try dsimp only
        refine hK.out _ _ ?_ (fun hHeld => ?_)
        ·(try dsimp only); go_split_ands; exact ⟨zj.below (by assumption) g0, zwm g0, zwm g0, zwm g0, zwm g0, zwm g0, zwm g0, zwm g0, zwm g0, zwm g0, zwm g0⟩
        clear hK K
        try simp only [zwb, zwc, zwd, Act.put, zwe, List.set_cons_succ, List.set_cons_zero]
        refine rd 28 fun K hK => ?_
        go_simp
        have j2 := h5.trans (g0.mono h5.size)
        have h4 : Below wr.heap.size wr wcj17 := (zwj wr.heap.size wr).drew.trans (show Below wr.heap.size wr.drew wcj17 from g0)
        refine (zat n (.slice vb b.length cb) b p z _ (by first | assumption | exact And.left (by assumption)) HSC.out (z8.out.below j2) HBB.out HPO.out j7.out (by omega)).mono ?_
        rintro e wcj28 ⟨rfl, g3⟩
        try dsimp only
        refine hK.out _ _ ?_ (fun hHeld => ?_)
        ·(try dsimp only); go_split_ands; exact ⟨zj.below (by assumption) g3, zwm g3, zwm g3, zwm g3, zwm g3, zwm g3, zwm g3, zwm g3, zwm g3, zwm g3, zwm g3⟩
        clear hK K
        try simp only [zwb, zwc, zwd, Act.put, zwe, List.set_cons_succ, List.set_cons_zero]
        refine rd 29 fun K hK => ?_
        go_simp
        refine (zhx o _ _ _).mono ?_
        rintro e wcj29 ⟨rfl, g4⟩
        try dsimp only
        rw [← HQ.out]
        refine hK.out _ _ ?_ (fun hHeld => ?_)
        ·(try dsimp only); go_split_ands; exact ⟨zj.below (by assumption) g4, zwm g4, zwm g4, zwm g4, zwm g4, zwm g4, zwm g4, zwm g4, zwm g4, zwm g4, zwm g4⟩
        clear hK K
        try simp only [zwb, zwc, zwd, Act.put, zwe, List.set_cons_succ, List.set_cons_zero]
        refine tk 30 ?_
        refine wpAnyH_done (by kernel_rfl) ?_ _
        have g5 : Below wr.heap.size wr wcj29 := (h4.trans (g3.mono h4.size)).trans (g4.mono (Nat.le_trans h4.size g3.size))
        have j5 := zwh HBJ g5
        have G7 := zwh HBX g5
        have y0 := ze g5 y0
        have y1 := ze g5 y1
        have y2 := ze g5 y2
        have p0 := ze g5 p0
        have p1 := ze g5 p1
        have p2 := ze g5 p2
        clear g5 h5 j2 h4 g0 g3 g4 hHeld z0 z1 z2 a0 a1 b0 b1
        rcases h7 : q with _ | _
        ·have HCC := zwg (k1.out h7)
         clear h7 k1 j8 HQ
         have HRF := zwg (GRow.below g8.out j5.out)
         have HBF2 := G7
         go_wp2_with fail
         generalize wcj29 = WF at *
         exact zwp
        ·have Q6 := zwg (j8.out h7)
         clear h7 k1 j8 HQ
         go_wp2
         go_roundw
         case rel => exact ⟨i' + 1, by omega, by omega, by go_num, Q6.out, j5.out⟩
         case measure => simp [intOf]; omega
       ·have HCC := zwg (k9.out (fun hj => absurd hj hlt2))
        have G4 : ¬ (i' : Int) + 1 < (C.length : Int) := by omega
        have U6 : decide ((i' : Int) + 1 < (C.length : Int)) = false := decide_eq_false G4
        have Q5 : IntKind.i64.wrap ((i' : Int) + 1) = (i' : Int) + 1 := by rw [IntKind.wrap_i64]; omega
        clear k9
        generalize C[i'] = p at *
        go_wp2_with fail
        refine wp_region_held_drew (S := (fun W' => zj W')) (by kernel_rfl) (by (try dsimp only); exact k8.out.below (zwj _ _).drew) (fun hHeld => ?_)
        refine tk 0 ?_
        refine tk 1 ?_
        refine tk 2 ?_
        refine tk 3 ?_
        refine tk 4 ?_
        refine tk 5 ?_
        refine tu 6 ?_
        refine tu 7 ?_
        refine tu 8 ?_
        refine tu 9 ?_
        refine tu 10 ?_
        refine tu 11 ?_
        refine tu 12 ?_
        refine tu 13 ?_
        refine tu 14 ?_
        refine tu 15 ?_
        refine tu 16 ?_
        refine tu 17 ?_
        refine tu 18 ?_
        refine tu 19 ?_
        refine tu 20 ?_
        refine tu 21 ?_
        refine tu 22 ?_
        refine tu 23 ?_
        refine tu 24 ?_
        refine tu 25 ?_
        refine tu 26 ?_
        refine tu 27 ?_
        refine tu 28 ?_
        refine tu 29 ?_
        refine tk 30 ?_
        refine wpAnyH_done (by kernel_rfl) ?_ _
        have g5 : Below wr.heap.size wr wr.drew := (zwj wr.heap.size wr).drew
        have j5 := zwh HBJ g5
        have HBF2 := zwh HBX g5
        have y0 := ze g5 y0
        have y1 := ze g5 y1
        have y2 := ze g5 y2
        have p0 := ze g5 p0
        have p1 := ze g5 p1
        have p2 := ze g5 p2
        have HRF := zwg (GRow.below g8.out j5.out)
        clear g5 hHeld
        go_wp2_with fail
        generalize wr.drew = WF at *
        exact zwp
    ·have HR := zwg (V.rrun_end (h := h) hlt)
     have Q7 : Hid (V.opR n (kq o) a b = D) := zwg (by rw [HF.out, HP.out.fold, HR.out, List.append_nil])
     go_wp2
     go_ret
     exact ⟨_, rfl, by rw [Q7.out]; exact ItRow.itvs HP.out.row, (fun c hc => by have := GRow.block HP.out.row c hc; have := Q1.out; omega), HBF.out.trans (HBX.out.mono HBF.out.size)⟩
end Go.Proofs.YtbikeahmldobkaaGreatDoor
