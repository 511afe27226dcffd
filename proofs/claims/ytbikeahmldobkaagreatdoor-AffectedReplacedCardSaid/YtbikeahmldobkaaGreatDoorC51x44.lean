/-
  Lemmas for the law.
-/
import Derived.Test.YtbikeahmldobkaaGreatDoorC51x08
import Derived.Test.YtbikeahmldobkaaGreatDoorC51x40
import Derived.Outline
import Derived.Deep.RegionHeld3
set_option linter.all false
set_option maxRecDepth 100000
set_option maxHeartbeats 12800000
namespace Go.Proofs.YtbikeahmldobkaaGreatDoor
open Go.RowKit
theorem zpw (x n : Int) (w : World) (hx : (Lit.int .i64 x).wf = true) (h1 : 1 ≤ n) (h2 : n ≤ 1000000) :
  Calls Tryz.prog 15 #[.int .i64 x, .int .i64 n] w fun e w' => ∃ r : Nat, e = .returned (.int .i64 r) /\ (r : Int) < n /\ w' = w := by
 have hz : -9223372036854775808 ≤ x /\ x ≤ 9223372036854775807 := by simpa [Lit.wf, IntKind.min, IntKind.max, IntKind.signed, IntKind.bits] using hx
 obtain ⟨g0, g1⟩ := hz
 obtain ⟨t1, t2, t3, t4, t5⟩ := zic x n h1
 have h0 : ¬ n = 0 := by omega
 have e1 : IntKind.i64.wrap (x.tmod n) = x.tmod n := IntWalk.i64_in _ (by omega)
 have e2 : IntKind.i64.wrap (x.tmod n + n) = x.tmod n + n := IntWalk.i64_in _ (by omega)
 have e3 : (x.tmod n + n).tmod n = (x.tmod n + n) % n := Int.tmod_eq_emod_of_nonneg (by omega)
 have e4 : IntKind.i64.wrap ((x.tmod n + n) % n) = (x.tmod n + n) % n := IntWalk.i64_in _ (by omega)
 have HR : Hid (∃ r : Nat, (x.tmod n + n) % n = (r : Int) /\ (r : Int) < n) := zu8 ⟨((x.tmod n + n) % n).toNat, by rw [Int.toNat_of_nonneg t4], by rw [Int.toNat_of_nonneg t4]; exact t5⟩
 clear hx
 go_enter Tryz.func15, Tryz.ntmps15
 go_wp2
 go_ret
 obtain ⟨r, h, h'⟩ := HR.out
 exact ⟨r, by rw [← h]; simp, h', rfl⟩
theorem zrq (w : World) :
  Calls Tryz.prog 60 #[] w fun e w' => e = .returned (.slice (some ⟨w.heap.size, 0, none⟩) 3 3) /\ w' = w.alloc (.cells #[.string ⟨#[119, 45, 49]⟩, .string ⟨#[119, 45, 50]⟩, .string ⟨#[119, 45, 51]⟩] 9) := by
 go_enter Tryz.func60, Tryz.ntmps60
 go_wp2
 go_ret
 exact ⟨rfl, rfl⟩
theorem zok (w : World) :
  Calls Tryz.prog 24 #[] w fun e w' => e = .returned (.slice (some ⟨w.heap.size, 0, none⟩) 4 4) /\ w' = w.alloc (.cells #[.string ⟨#[122, 108, 105, 98]⟩, .string ⟨#[115, 115, 108]⟩, .string ⟨#[108, 105, 98, 115, 47, 112, 110, 103]⟩, .string ⟨#[97]⟩] 9) := by
 go_enter Tryz.func24, Tryz.ntmps24
 go_wp2
 go_ret
 exact ⟨rfl, rfl⟩
theorem zme (a : Option Addr) (m cap q0 : Nat) (w : World) (ht : Nums w a m) (g0 : m ≤ cap) (g1 : q0 ≤ 1000) :
  Calls Tryz.prog 12 #[.slice a m cap, .int .i64 (q0 : Int)] w fun e w' => e = .returned (.pointer (some ⟨w.heap.size, 0, none⟩)) /\ Tape w' w.heap.size 0 /\ Below w.heap.size w w' /\ w.heap.size < w'.heap.size := by
 have HT := zu8 ht
 have hl : Nums w a (min m q0) := ⟨by have := ht.1; omega, fun j hj => ht.2 j (by omega)⟩
 have HL := zu8 hl
 obtain ⟨q, hq⟩ : ∃ q, q = min m q0 := ⟨_, rfl⟩
 rw [← hq] at HL
 have g2 : min (m : Int) (q0 : Int) = (q : Int) := by omega
 have g3 : (0 : Int) ≤ (q : Int) := by omega
 have g4 : (q : Int) ≤ (cap : Int) := by omega
 have hb : Below w.heap.size w (w.alloc (.cells #[.slice a q cap, .int .i64 0] 72)) := (zvb _ w).alloc (zva _) _
 have HP : Hid (Tape (w.alloc (.cells #[.slice a q cap, .int .i64 0] 72)) w.heap.size 0) := zu8 (Tape.made HL.out hb (zva _) (by rw [World.cell?_alloc_new]; rfl) (by rw [World.cell?_alloc_new]; rfl) (by rw [qr, if_pos rfl]))
 have HB := zu8 hb
 clear ht hl hq hb
 go_enter Tryz.func12, Tryz.ntmps12
 go_wp2
 go_ret
 exact ⟨rfl, HP.out, HB.out, by simp⟩
theorem zb0 {W : World} {X : Nat} {n : Int} {p : Option Addr} {m q : Nat} (h : W.heap[X]? = some (.cells #[.int .i64 n, .slice p m q] 68 (0, 0))) : W.cell? ⟨X, 0, none⟩ = some (.int .i64 n) /\ W.cell? ⟨X, 1, none⟩ = some (.slice p m q) :=
 ⟨zu7 h 0, zu7 h 1⟩
open Go.RowKit
theorem Itvs.set2 {w : World} {u : Value} {l : List V.Itv} {b : Nat} {x y : Value} (h : Itvs w u l) (hs : ∀ c, u.ownBlock = some c -> c ≠ b) : Itvs ((w.setCell ⟨b, 0, none⟩ x).setCell ⟨b, 1, none⟩ y) u l := by
 have g : ∀ (W : World) (o : Nat) (z : Value), W.grownBy (W.setCell ⟨b, o, none⟩ z) (some b) := fun W o z => ⟨rfl, rfl, rfl, by simp [World.setCell], fun k _ hk => Below.heap_setCell _ _ _ _ (fun e => hk (by rw [e]))⟩
 exact (h.grown (g _ _ _) (fun _ c hc e => hs c hc (Option.some.inj e).symm)).grown (g _ _ _) (fun _ c hc e => hs c hc (Option.some.inj e).symm)
theorem kp {w w5 : World} (h : Below w.heap.size w w5) (a b : Value) : Below w.heap.size w ((w5.setCell ⟨w.heap.size, 0, none⟩ a).setCell ⟨w.heap.size, 1, none⟩ b) := (h.setCell (zva _) _).setCell (zva _) _
theorem newd0 (w : World) (a b : Value) (t : TypeId) : (w.drew.alloc (.cells #[a, b] t)).cell? ⟨w.heap.size, 0, none⟩ = some a := by simp [zg]
theorem newd1 (w : World) (a b : Value) (t : TypeId) : (w.drew.alloc (.cells #[a, b] t)).cell? ⟨w.heap.size, 1, none⟩ = some b := by simp [zg]
theorem newdz (w : World) (a b : Value) (t : TypeId) : w.heap.size < (w.drew.alloc (.cells #[a, b] t)).heap.size := by simp
theorem newdf (w : World) (a b : Value) (t : TypeId) (i : Nat) : (w.drew.alloc (.cells #[a, b] t)).frozen? ⟨w.heap.size, i, none⟩ = false := by simp [qr]
theorem zvp {P : Prop} (h : P := by
 have HOW5 := zu8 (fun c hc => by have h1 := how5 c hc; have h3 := HZR.out; simp at h1; exact (show wo.heap.size < c by omega))
 clear hS hb5 hQ5 e0 e1 e2 e3 hu5 how5 x0 x1 c0 c1
 go_wp2_with (first | (refine zv rfl 68 _ _ rfl wo.heap.size _ _ (ws HBS.out HBOX.out) rfl #[.int .i64 n, .slice p5 (V.opL n V.orF acc y).length q5] rfl rfl (by kernel_rfl) (qu _ _ _ _) ?_; intro W6 hp6) | fail)
 have H6 := zu8 hp6.here
 have HI6 := zu8 (hp6.itvs HIV.out (fun c hc => by have := HOW5.out c hc; omega))
 have HB6 := zu8 (hp6.below (HBY.out.trans (HBS.out.mono HBY.out.size)) (zva _))
 clear hp6
 go_roundw
 case rel => exact ⟨k + 1, _, _, by omega, by go_num, HEQ.out, HOK5.out, H6.out, HI6.out, HOW5.out, HB6.out⟩
 case measure => simp [intOf]; omega) : P := h
theorem zg5 (n : Int) (s : V.Bs) (w : World) (hm : zj w) (hs : s.length ≤ maxLen) :
  Calls Tryz.prog 98 #[.int .i64 n, .string ⟨s.toArray⟩] w (xi (V.parP n s) w) := by
 have HM := zu8 hm
 have q9 : (ByteArray.mk s.toArray).size = s.length := by simp [ByteArray.size]
 have v0 : Hid ((ByteArray.mk s.toArray).data.toList = s) := zu8 rfl
 have j7 : Below w.heap.size w (w.alloc (.cells #[.int .i64 0, .slice none 0 0] 68)) := (zvb _ w).alloc (zva _) _
 have K0 : Hid ((w.alloc (.cells #[.int .i64 0, .slice none 0 0] 68)).heap[w.heap.size]? = some (.cells #[.int .i64 0, .slice none 0 0] 68 (0, 0))) := zu8 (by rw [heap_alloc, if_pos rfl])
 have HB0 := zu8 j7
 have HZ0 : Hid ((w.alloc (.cells #[.int .i64 0, .slice none 0 0] 68)).heap.size = w.heap.size + 1) := zu8 (by simp)
 unfold maxLen at hs
 clear j7 hm
 generalize (ByteArray.mk s.toArray) = S at *
 go_enter Tryz.func98, Tryz.ntmps98
 go_wp2_with fail
 generalize w.alloc (.cells #[.int .i64 0, .slice none 0 0] 68) = w0 at *
 refine (zbb n w0).mono ?_
 rintro e w' ⟨rfl, rfl⟩
 rcases g9 : V.scheme n with _ | _
 ·have HR := zu8 (V.zod (s := s) g9)
  clear g9
  go_wp2_with (first | (refine zv rfl 68 _ _ rfl w.heap.size #[.int .i64 0, .slice none 0 0] _ K0.out rfl #[.int .i64 0, .slice none 0 0] rfl rfl (by kernel_rfl) (qu _ _ _ _) ?_; intro W2 hp2; have z0 : W2.cell? ⟨w.heap.size, 0, none⟩ = some (.int .i64 0) := zu7 hp2.here 0; have z1 : W2.cell? ⟨w.heap.size, 1, none⟩ = some (.slice none 0 0) := zu7 hp2.here 1) | fail)
  have HBF := zu8 (hp2.below HB0.out (zva _))
  clear hp2
  exact bodyPost_ret (v := .tuple #[.agg #[.int .i64 0, .slice none 0 0], .int .i64 14]) (by simp [results, Tryz.results98, go_sem, z0, z1]) rfl (by rw [HR.out]; exact xi.zero HBF.out _)
 ·have HSC := zu8 g9
  clear g9
  by_cases hlong : s.length ≤ 8192
  ·have HL := zu8 hlong
   have hq : ¬ 8192 < S.size := by omega
   have v1 : ¬ (8192 : Int) < (S.size : Int) := by omega
   have HS : Hid (S.size < 4294967281) := zu8 (by omega)
   have v2 : Hid (∀ x ∈ Lib.split s V.orT, x.length ≤ 100000) := zu8 (fun x hx => by
     have := zlr V.orT _ s x hx
     omega)
   have v4 : Hid ((Lib.split s V.orT).length ≤ 10000) := zu8 (by have := zob s; omega)
   have v5 : Hid (V.ui n (Lib.split s V.orT) = none -> V.parP n s = (0, [], 2)) := zu8 (fun h => V.zt5 HSC.out HL.out h)
   have v6 : Hid (∀ xs, V.ui n (Lib.split s V.orT) = some xs -> V.xd n [] xs = none -> V.parP n s = (0, [], 3)) := zu8 (fun xs h g => V.zq6 HSC.out HL.out h g)
   have HUS : Hid (∀ xs l, V.ui n (Lib.split s V.orT) = some xs -> V.xd n [] xs = some l -> V.parP n s = (n, l, 0)) := zu8 (fun xs l h g => V.parP_ok HSC.out HL.out h g)
   clear hlong hs q9
   go_wp2_with fail
   refine (zpi S w0 (HM.out.below HB0.out) HS.out).mono ?_
   rintro e W0 ⟨rfl, hW0⟩
   rw [v0.out] at hW0 ⊢
   have hb1 : Below w0.heap.size w0 W0 := by rw [hW0]; exact (zvb _ _).alloc (zva _) _
   have HB1 := zu9 HB0 hb1
   have K1 := zu8 (ws hb1 K0.out)
   have h4 : w0.heap.size = w.heap.size + 1 := HZ0.out
   have v7 : Hid (∀ j (h : j < (Lib.split s V.orT).length), W0.cell? ⟨w.heap.size + 1, j, none⟩ = some (.string ⟨(Lib.split s V.orT)[j].toArray⟩)) := zu8 (fun j hj => by
     rw [hW0, ← h4, World.cell?_alloc_new]; exact vv _ j hj)
   have z5 : Hid (W0.heap.size = w.heap.size + 2) := zu8 (by rw [hW0]; simp; omega)
   clear hb1 hW0
   rw [h4]
   clear h4
   have z6 : (Lib.split s V.orT).length ≤ 10000 := v4.out
   have v8 := zu8 (V.zoa n (Lib.split s V.orT))
   generalize Lib.split s V.orT = P at *
   go_wp2_with fail
   go_loopw [7, 8] (fun v iv wx => ∃ (k : Nat) (us : List Sl) (xs : List (List V.Itv)), k ≤ P.length /\ iv = .int .i64 k /\ us.length = k /\ V.zbg n P k xs /\ SetRow n W0.heap.size wx v us xs /\ Below W0.heap.size W0 wx) (fun _ iv _ => P.length - (intOf iv).toNat)
   case atStart => exact ⟨0, [], [], Nat.zero_le _, rfl, rfl, v8.out, SetRow.nil _ _ _, zvb _ _⟩
   case round =>
    obtain ⟨k, us, xs, hk, rfl, j8, j9, g2, h0⟩ := hrel
    have h5 := zu8 j9
    have g3 := zu8 g2
    have h6 := zu8 j8
    have HBX := zu8 h0
    have HBF := zu9 HB1 h0
    have KR := zu8 (ws (h0.mono (zva _)) K1.out)
    clear j9 g2 j8 h0
    by_cases hlt : k < P.length
    ·have hc := zb HBX.out (v7.out k hlt)
     have v9 : (0 : Int) ≤ (k : Int) := by omega
     have y0 : (k : Int) < (P.length : Int) := by omega
     have y1 := zu8 (v2.out _ (List.getElem_mem hlt))
     have HST := zu8 (fun (y : List V.Itv) hy => V.zoj (x := y) h5.out hlt hy)
     have HNO := zu8 (fun hy => V.zou h5.out hlt hy)
     generalize P[k] = x at *
     go_wp2_with fail
     refine (zfj n x wr (HM.out.below HBF.out) HSC.out y1.out).mono ?_
     rintro e w2 ⟨m2, u, l, b, rfl, k0, hu, how, hb2⟩
     obtain ⟨p, q, rfl⟩ := hu.slice
     have k1 := zu8 k0
     have HU := zu8 hu
     have y2 := zu8 how
     have HB2 := zu8 hb2
     have KR2 := zu8 (ws hb2 KR.out)
     clear k0 hu how hb2 hc
     unfold setV
     have HBY := zu8 ((zvb w2.heap.size w2).alloc (zva _) (.cells #[.int .i64 m2, .slice p l.length q] 68))
     rcases b with _ | _
     ·have HR : Hid (V.parP n s = (0, [], 2)) := zu8 (v5.out (HNO.out (by
        rcases k1.out with ⟨_, h⟩ | ⟨h, _⟩
        · exact h
        · cases h)))
      go_wp2_with (first | (refine zv rfl 68 _ _ rfl w.heap.size #[.int .i64 0, .slice none 0 0] _ (ws HBY.out KR2.out) rfl #[.int .i64 0, .slice none 0 0] rfl rfl (by kernel_rfl) (qu _ _ _ _) ?_; intro W5 h3; have z0 : W5.cell? ⟨w.heap.size, 0, none⟩ = some (.int .i64 0) := zu7 h3.here 0; have z1 : W5.cell? ⟨w.heap.size, 1, none⟩ = some (.slice none 0 0) := zu7 h3.here 1) | fail)
      have HB5 := zu8 (h3.below (HBF.out.trans ((HB2.out.trans (HBY.out.mono HB2.out.size)).mono HBF.out.size)) (zva _))
      clear h3
      exact bodyPost_ret (v := .tuple #[.agg #[.int .i64 0, .slice none 0 0], .int .i64 2]) (by simp [results, Tryz.results98, go_sem, z0, z1]) rfl (by rw [HR.out]; exact xi.zero HB5.out _)
     ·have q4 : m2 = n /\ V.altP n x = some l := by
       rcases k1.out with ⟨h, _⟩ | ⟨_, h1, h2⟩
       ·cases h
       ·exact ⟨h1, h2⟩
      obtain ⟨rfl, k2⟩ := q4
      have y3 := zu8 k2
      have h7 : Below w2.heap.size w2 ((w2.alloc (.cells #[.int .i64 m2, .slice p l.length q] 68)).alloc (.cells #[.int .i64 m2, .slice p l.length q] 68)) := ((zvb _ _).alloc (zva _) _).alloc (by simp) _
      have HBZ := zu9 HB2 h7
      have y4 := zu8 (HU.out.below h7)
      have h8 := zu8 (g3.out.later HBZ.out)
      have y5 : Hid (us.length ≤ 10000) := zu8 (by have := h6.out; omega)
      have q6 : Hid (l ≠ [] -> ∀ c, (Value.slice p l.length q).ownBlock = some c -> ∀ v, SetRow m2 W0.heap.size wr v us xs -> v.ownBlock ≠ some c) := zu8 (fun _ c hc v hv e => by
        have h1 := y2.out c hc
        have h2 := GRow.lt hv.row c e
        omega)
      clear k2 h7
      go_wp2_with (first | (refine zon (zsy m2) (by decide) (slE_one m2) setInfo (by decide) rfl _ _ 170 rfl Tryz.underlying170 W0.heap.size _ us rfl h8.out.row (w2.heap.size + 1) ⟨p, l.length, q⟩ rfl (fun j u hj => by rw [zg]; simpa [slE, Sl.v] using hj) (by have := y5.out; omega) (by have := HBX.out.size; have := HBZ.out.size; omega) ?_; intro v3 W3 hr3 hg3 k3) | fail)
      have y6 := zu8 (h8.out.add (u := ⟨p, l.length, q⟩) hr3 hg3 k3 y4.out (fun hl c hc => q6.out hl c hc _ g3.out))
      have HB3 : Hid (Below W0.heap.size W0 W3) := zu8 ((HBX.out.trans (HBZ.out.mono HBX.out.size)).trans ⟨hg3.os, hg3.tape, hg3.output, hg3.size, fun i hi => hg3.block i (by have := HBX.out.size; have := HBZ.out.size; omega) (fun e => by have := GRow.block h8.out.row i e.symm; omega)⟩)
      have y7 := zu8 (HST.out l y3.out)
      clear hr3 hg3 k3
      go_wp2_with fail
      go_roundw
      case rel => exact ⟨k + 1, _, _, by omega, by go_num, by rw [List.length_append, h6.out]; rfl, y7.out, y6.out, HB3.out⟩
      case measure => simp [intOf]; omega
    ·obtain rfl : k = P.length := by omega
     have h9 := zu8 (V.zqo h5.out)
     have q7 := zu8 (V.zgj HSC.out h9.out).2
     have y8 := zu8 (fun h => v6.out xs h9.out h)
     have y9 := zu8 (fun l h => HUS.out xs l h9.out h)
     have j0 : Hid (us.length = xs.length) := zu8 g3.out.len
     obtain ⟨va, vc, rfl⟩ := GRow.slice g3.out.row
     obtain ⟨wo, rfl⟩ : ∃ wo : World, wo = wr := ⟨_, rfl⟩
     have z3 : us.length ≤ 10000 := by have := h6.out; omega
     have HX0 : Hid ((wo.alloc (.cells #[.int .i64 n, .slice none 0 0] 68)).heap[wo.heap.size]? = some (.cells #[.int .i64 n, .slice none 0 0] 68 (0, 0))) := zu8 (by rw [heap_alloc, if_pos rfl])
     have q8 := zu8 ((zvb wo.heap.size wo).alloc (zva _) (.cells #[.int .i64 n, .slice none 0 0] 68))
     have k4 : Hid (w.heap.size < wo.heap.size) := zu8 ((Array.getElem?_eq_some_iff.1 KR.out).1)
     go_wp2_with fail
     go_loopw [12] (fun iv wx => ∃ (k : Nat) (acc : List V.Itv) (u : Value), k ≤ xs.length /\ iv = .int .i64 k /\ V.xd n [] xs = V.xd n acc (xs.drop k) /\ V.Ok n acc /\ wx.heap[wo.heap.size]? = some (.cells #[.int .i64 n, u] 68 (0, 0)) /\ Itvs wx u acc /\ (∀ c, u.ownBlock = some c -> wo.heap.size < c) /\ Below wo.heap.size wo wx) (fun iv _ => us.length - (intOf iv).toNat)
     case atStart => exact ⟨0, [], _, Nat.zero_le _, rfl, rfl, V.zsd HSC.out, HX0.out, Itvs.nil _, (fun c hc => by cases hc), q8.out⟩
     case round =>
      obtain ⟨k, acc, u, hk, rfl, k5, hok, g5, g7, j1, g4⟩ := hrel
      obtain ⟨p, q, rfl⟩ := g7.slice
      have HE := zu8 k5
      have HOK := zu8 hok
      have HBOX := zu8 g5
      have g8 := zu8 g7
      have j2 := zu8 j1
      have HBY := zu8 g4
      obtain ⟨x0, x1⟩ := zb0 g5
      have g1 := zu9 HBF g4
      have KR1 := zu8 (ws g4 KR.out)
      have HZR : Hid (wo.heap.size < wr.heap.size) := zu8 ((Array.getElem?_eq_some_iff.1 g5).1)
      clear k5 hok g5 g7 j1
      by_cases hlt : k < xs.length
      ·have k6 : k < us.length := by have := j0.out; omega
       have g2 := g3.out.later g4
       obtain ⟨g, cap, e, _, _, hcell⟩ := GRow.at (zsy n) g2.row k k6
       cases e
       have c0 : wr.cell? ⟨g, k * 2, none⟩ = some (.int .i64 n) := hcell 0 _ rfl
       have c1 : wr.cell? ⟨g, k * 2 + 1, none⟩ = some us[k].v := hcell 1 _ rfl
       have j3 := (g2.each k k6 hlt).1
       have g6 := zu8 (q7.out _ (List.getElem_mem hlt))
       have k7 := zu8 (V.zsh (n := n) (acc := acc) hlt)
       have v9 : (0 : Int) ≤ (k : Int) := by omega
       have y0 : (k : Int) < (us.length : Int) := by omega
       clear g2 hcell g4
       generalize us[k].v = uv at *
       generalize xs[k] = y at *
       have j4 := zu8 j3
       obtain ⟨p2, q2, rfl⟩ := j3.slice
       clear j3
       have k8 := zu8 (V.zrp HOK.out g6.out.ok)
       have j5 : Hid (V.opP V.orF n acc n y = if V.chkP n acc n y = 0 then V.limP n (V.opL n V.orF acc y) else (0, [], V.chkP n acc n y)) := zu8 rfl
       have k9 : Hid (acc.length ≤ maxLen) := zu8 (by have := HOK.out.len; unfold maxLen; omega)
       have q3 : Hid (y.length ≤ maxLen) := zu8 (by have := g6.out.one; unfold maxLen; omega)
       by_cases h32 : (V.opL n V.orF acc y).length ≤ 32
       ·have j6 : Hid (V.opP V.orF n acc n y = (n, V.opL n V.orF acc y, 0)) := zu8 (by rw [j5.out, if_pos k8.out]; unfold V.limP; rw [if_pos h32])
        have HOK5 := zu8 (V.zmm V.orF HOK.out g6.out.ok h32)
        have HEQ : Hid (V.xd n [] xs = V.xd n (V.opL n V.orF acc y) (xs.drop (k + 1))) := zu8 (by rw [HE.out, k7.out, if_pos h32])
        clear h32
        go_wp2_with fail
        go_region_held3 (fun W' => Below wr.heap.size wr W' /\ W'.cell? ⟨wo.heap.size, 0, none⟩ = some (.int .i64 n) /\ W'.cell? ⟨wo.heap.size, 1, none⟩ = some (.slice p acc.length q) /\ W'.cell? ⟨g, k * 2, none⟩ = some (.int .i64 n) /\ W'.cell? ⟨g, k * 2 + 1, none⟩ = some (.slice p2 y.length q2))
         (first
           | (go_split_ands; exact ⟨Below.trans (by assumption) (hb5.mono (Below.size (by assumption))), zve hb5, zve hb5, zve hb5, zve hb5⟩)
           | (exact ⟨(zvb _ _).drew, x0, x1, c0, c1⟩)
           | (exact ⟨kp hQ5 _ _, zb (kp hQ5 _ _) x0, zb (kp hQ5 _ _) x1, zb (kp hQ5 _ _) c0, zb (kp hQ5 _ _) c1⟩)
           | (exact (fun hz : Below w5.heap.size w5 _ => ⟨hQ5.trans (hz.mono hQ5.size), zb hz e0, zb hz e1, zb hz e2, zb hz e3⟩) ((zvb _ _).alloc (zva _) _))
           | (go_split_ands; refine ⟨Below.alloc (by assumption) (Below.size (by assumption)) _, ?_, ?_, ?_, ?_⟩ <;> go_keep)
           | (go_split_ands; refine ⟨Below.setCell (Below.setCell (by assumption) (zva _) _) (zva _) _, ?_, ?_, ?_, ?_⟩ <;> go_keep)
           | go_keep)
         (first | (go_at_call 133; refine (zgq n n (.slice p acc.length q) (.slice p2 y.length q2) acc y _ (HM.out.below (g1.out.trans (Below.mono (B := wr.heap.size) (by first | assumption | exact And.left (by assumption)) g1.out.size))) (g8.out.below (by first | assumption | exact And.left (by assumption))) (j4.out.below (by first | assumption | exact And.left (by assumption))) (za6 HOK.out) (za6 g6.out.ok) k9.out q3.out).mono ?_; rintro e w5 ⟨u5, rfl, hu5, how5, hb5⟩; rw [j6.out] at hu5 ⊢; simp only at hu5 ⊢; obtain ⟨p5, q5, rfl⟩ := hu5.slice; unfold setV; have hQ5 : Below wr.heap.size wr w5 := Below.trans (by first | assumption | exact And.left (by assumption)) (hb5.mono (Below.size (B := wr.heap.size) (w := wr) (by first | assumption | exact And.left (by assumption)))); have e0 := zb hQ5 x0; have e1 := zb hQ5 x1; have e2 := zb hQ5 c0; have e3 := zb hQ5 c1; (first | (have q0 : w5.cell? ⟨wr.heap.size, 0, none⟩ = some (.int .i64 0) := zb hb5 (newd0 wr _ _ _); have q1 : w5.cell? ⟨wr.heap.size, 1, none⟩ = some (.slice none 0 0) := zb hb5 (newd1 wr _ _ _); have r0 : w5.frozen? ⟨wr.heap.size, 0, none⟩ = false := (hb5.frozen (p := ⟨wr.heap.size, 0, none⟩) (newdz wr _ _ _)).trans (newdf wr _ _ _ 0); have r1 : w5.frozen? ⟨wr.heap.size, 1, none⟩ = false := (hb5.frozen (p := ⟨wr.heap.size, 1, none⟩) (newdz wr _ _ _)).trans (newdf wr _ _ _ 1)) | (have q0 : w5.cell? ⟨wr.heap.size, 0, none⟩ = some (.int .i64 0) := zb hb5 (newe0 wr _ _ _); have q1 : w5.cell? ⟨wr.heap.size, 1, none⟩ = some (.slice none 0 0) := zb hb5 (newe1 wr _ _ _); have r0 : w5.frozen? ⟨wr.heap.size, 0, none⟩ = false := (hb5.frozen (p := ⟨wr.heap.size, 0, none⟩) (newez wr _ _ _)).trans (newef wr _ _ _ 0); have r1 : w5.frozen? ⟨wr.heap.size, 1, none⟩ = false := (hb5.frozen (p := ⟨wr.heap.size, 1, none⟩) (newez wr _ _ _)).trans (newef wr _ _ _ 1)) | skip)))
        ·rename_i hS
         have HBS := zu8 (And.left hS)
         have HIV := zu8 (Itvs.below hu5 ((zvb w5.heap.size w5).alloc (zva _) (.cells #[.int .i64 n, .slice p5 (V.opL n V.orF acc y).length q5] 68)))
         exact zvp
        ·rename_i hS
         have HBS := zu8 (And.left hS)
         have HIV := zu8 (Itvs.set2 (b := wr.heap.size) (x := .int .i64 n) (y := .slice p5 (V.opL n V.orF acc y).length q5) hu5 (fun c hc => by have h1 := how5 c hc; simp at h1; omega))
         exact zvp
       ·have j6 : Hid (V.opP V.orF n acc n y = (0, [], 3)) := zu8 (by rw [j5.out, if_pos k8.out]; unfold V.limP; rw [if_neg h32])
        have HR : Hid (V.parP n s = (0, [], 3)) := zu8 (y8.out (by rw [HE.out, k7.out, if_neg h32]))
        clear h32
        go_wp2_with fail
        go_region_held3 (fun W' => Below wr.heap.size wr W' /\ W'.cell? ⟨wo.heap.size, 0, none⟩ = some (.int .i64 n) /\ W'.cell? ⟨wo.heap.size, 1, none⟩ = some (.slice p acc.length q) /\ W'.cell? ⟨g, k * 2, none⟩ = some (.int .i64 n) /\ W'.cell? ⟨g, k * 2 + 1, none⟩ = some (.slice p2 y.length q2))
         (first
           | (go_split_ands; exact ⟨Below.trans (by assumption) (hb5.mono (Below.size (by assumption))), zve hb5, zve hb5, zve hb5, zve hb5⟩)
           | (exact ⟨(zvb _ _).drew, x0, x1, c0, c1⟩)
           | (exact ⟨kp hQ5 _ _, zb (kp hQ5 _ _) x0, zb (kp hQ5 _ _) x1, zb (kp hQ5 _ _) c0, zb (kp hQ5 _ _) c1⟩)
           | (exact (fun hz : Below w5.heap.size w5 _ => ⟨hQ5.trans (hz.mono hQ5.size), zb hz e0, zb hz e1, zb hz e2, zb hz e3⟩) ((zvb _ _).alloc (zva _) _))
           | (go_split_ands; refine ⟨Below.alloc (by assumption) (Below.size (by assumption)) _, ?_, ?_, ?_, ?_⟩ <;> go_keep)
           | (go_split_ands; refine ⟨Below.setCell (Below.setCell (by assumption) (zva _) _) (zva _) _, ?_, ?_, ?_, ?_⟩ <;> go_keep)
           | go_keep)
         (first | (go_at_call 133; refine (zgq n n (.slice p acc.length q) (.slice p2 y.length q2) acc y _ (HM.out.below (g1.out.trans (Below.mono (B := wr.heap.size) (by first | assumption | exact And.left (by assumption)) g1.out.size))) (g8.out.below (by first | assumption | exact And.left (by assumption))) (j4.out.below (by first | assumption | exact And.left (by assumption))) (za6 HOK.out) (za6 g6.out.ok) k9.out q3.out).mono ?_; rintro e w5 ⟨u5, rfl, hu5, how5, hb5⟩; rw [j6.out] at hu5 ⊢; simp only at hu5 ⊢; obtain ⟨p5, q5, rfl⟩ := hu5.slice; unfold setV; have hQ5 : Below wr.heap.size wr w5 := Below.trans (by first | assumption | exact And.left (by assumption)) (hb5.mono (Below.size (B := wr.heap.size) (w := wr) (by first | assumption | exact And.left (by assumption)))); have e0 := zb hQ5 x0; have e1 := zb hQ5 x1; have e2 := zb hQ5 c0; have e3 := zb hQ5 c1; (first | (have q0 : w5.cell? ⟨wr.heap.size, 0, none⟩ = some (.int .i64 0) := zb hb5 (newd0 wr _ _ _); have q1 : w5.cell? ⟨wr.heap.size, 1, none⟩ = some (.slice none 0 0) := zb hb5 (newd1 wr _ _ _); have r0 : w5.frozen? ⟨wr.heap.size, 0, none⟩ = false := (hb5.frozen (p := ⟨wr.heap.size, 0, none⟩) (newdz wr _ _ _)).trans (newdf wr _ _ _ 0); have r1 : w5.frozen? ⟨wr.heap.size, 1, none⟩ = false := (hb5.frozen (p := ⟨wr.heap.size, 1, none⟩) (newdz wr _ _ _)).trans (newdf wr _ _ _ 1)) | (have q0 : w5.cell? ⟨wr.heap.size, 0, none⟩ = some (.int .i64 0) := zb hb5 (newe0 wr _ _ _); have q1 : w5.cell? ⟨wr.heap.size, 1, none⟩ = some (.slice none 0 0) := zb hb5 (newe1 wr _ _ _); have r0 : w5.frozen? ⟨wr.heap.size, 0, none⟩ = false := (hb5.frozen (p := ⟨wr.heap.size, 0, none⟩) (newez wr _ _ _)).trans (newef wr _ _ _ 0); have r1 : w5.frozen? ⟨wr.heap.size, 1, none⟩ = false := (hb5.frozen (p := ⟨wr.heap.size, 1, none⟩) (newez wr _ _ _)).trans (newef wr _ _ _ 1)) | skip)))
        all_goals
         rename_i hS
         have HBS := zu8 (And.left hS)
         clear hS hb5 hQ5 e0 e1 e2 e3 hu5 how5 x0 x1 c0 c1
         go_wp2_with (first | (refine zv rfl 68 _ _ rfl w.heap.size #[.int .i64 0, .slice none 0 0] _ (ws HBS.out KR1.out) rfl #[.int .i64 0, .slice none 0 0] rfl rfl (by kernel_rfl) (qu _ _ _ _) ?_; intro W7 g0; have z0 : W7.cell? ⟨w.heap.size, 0, none⟩ = some (.int .i64 0) := zu7 g0.here 0; have z1 : W7.cell? ⟨w.heap.size, 1, none⟩ = some (.slice none 0 0) := zu7 g0.here 1) | fail)
         have HB7 := zu8 (g0.below (g1.out.trans (HBS.out.mono g1.out.size)) (zva _))
         clear g0
         exact bodyPost_ret (v := .tuple #[.agg #[.int .i64 0, .slice none 0 0], .int .i64 3]) (by simp [results, Tryz.results98, go_sem, z0, z1]) rfl (by rw [HR.out]; exact xi.zero HB7.out _)
      ·obtain rfl : k = xs.length := by omega
       have HR : Hid (V.parP n s = (n, acc, 0)) := zu8 (y9.out acc (by rw [HE.out, List.drop_length]; rfl))
       have z7 : ¬ (xs.length : Int) < (us.length : Int) := by have := j0.out; omega
       have z4 : ¬ xs.length < us.length := by have := j0.out; omega
       clear g4
       go_wp2_with (first
         | (refine zv rfl 68 _ _ rfl w.heap.size #[.int .i64 0, .slice none 0 0] _ KR1.out rfl #[.int .i64 n, .slice p acc.length q] rfl rfl (by kernel_rfl) (qu _ _ _ _) ?_; intro W7 g0; have z0 : W7.cell? ⟨w.heap.size, 0, none⟩ = some (.int .i64 n) := zu7 g0.here 0; have z1 : W7.cell? ⟨w.heap.size, 1, none⟩ = some (.slice p acc.length q) := zu7 g0.here 1)
         | fail)
       have HB7 := zu8 (g0.below g1.out (zva _))
       have z2 := zu8 (g0.itvs g8.out (fun c hc => by have := j2.out c hc; have := k4.out; omega))
       clear g0
       exact bodyPost_ret (v := .tuple #[.agg #[.int .i64 n, .slice p acc.length q], .int .i64 0]) (by simp [results, Tryz.results98, go_sem, z0, z1]) rfl (by rw [HR.out]; exact ⟨_, rfl, z2.out, (fun c hc => by have := j2.out c hc; have := k4.out; omega), HB7.out⟩)
  ·have HR := zu8 (V.zue HSC.out hlong)
   have hq : 8192 < S.size := by omega
   have v1 : (8192 : Int) < (S.size : Int) := by omega
   clear hlong
   go_wp2_with (first | (refine zv rfl 68 _ _ rfl w.heap.size #[.int .i64 0, .slice none 0 0] _ K0.out rfl #[.int .i64 0, .slice none 0 0] rfl rfl (by kernel_rfl) (qu _ _ _ _) ?_; intro W2 hp2; have z0 : W2.cell? ⟨w.heap.size, 0, none⟩ = some (.int .i64 0) := zu7 hp2.here 0; have z1 : W2.cell? ⟨w.heap.size, 1, none⟩ = some (.slice none 0 0) := zu7 hp2.here 1) | fail)
   have HBF := zu8 (hp2.below HB0.out (zva _))
   clear hp2
   exact bodyPost_ret (v := .tuple #[.agg #[.int .i64 0, .slice none 0 0], .int .i64 3]) (by simp [results, Tryz.results98, go_sem, z0, z1]) rfl (by rw [HR.out]; exact xi.zero HBF.out _)
end Go.Proofs.YtbikeahmldobkaaGreatDoor
