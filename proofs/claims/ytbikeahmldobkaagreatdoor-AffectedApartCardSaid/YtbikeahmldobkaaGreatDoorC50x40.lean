/-
  Lemmas for the law.
-/
import Derived.Test.YtbikeahmldobkaaGreatDoorC50x39
import Derived.Test.YtbikeahmldobkaaGreatDoorC50x19
import Derived.Test.YtbikeahmldobkaaGreatDoorC50x22
import Derived.Test.YtbikeahmldobkaaGreatDoorC50x20
import Derived.Test.YtbikeahmldobkaaGreatDoorC50x16
import Derived.Deep.RegionHeld3
import Derived.Outline
set_option linter.all false
set_option maxRecDepth 100000
set_option maxHeartbeats 12800000
namespace Go.Proofs.YtbikeahmldobkaaGreatDoor
open Go.RowKit
theorem Itvs.set2 {w : World} {u : Value} {l : List V.Itv} {b : Nat} {x y : Value} (h : Itvs w u l) (hs : ∀ c, u.ownBlock = some c -> c ≠ b) : Itvs ((w.setCell ⟨b, 0, none⟩ x).setCell ⟨b, 1, none⟩ y) u l := by
 have g : ∀ (W : World) (o : Nat) (z : Value), W.grownBy (W.setCell ⟨b, o, none⟩ z) (some b) := fun W o z => ⟨rfl, rfl, rfl, by simp [World.setCell], fun k _ hk => Below.heap_setCell _ _ _ _ (fun e => hk (by rw [e]))⟩
 exact (h.grown (g _ _ _) (fun _ c hc e => hs c hc (Option.some.inj e).symm)).grown (g _ _ _) (fun _ c hc e => hs c hc (Option.some.inj e).symm)
theorem xd {w w5 : World} (h : Below w.heap.size w w5) (a b : Value) : Below w.heap.size w ((w5.setCell ⟨w.heap.size, 0, none⟩ a).setCell ⟨w.heap.size, 1, none⟩ b) := (h.setCell (zwi _) _).setCell (zwi _) _
theorem newd0 (w : World) (a b : Value) (t : TypeId) : (w.drew.alloc (.cells #[a, b] t)).cell? ⟨w.heap.size, 0, none⟩ = some a := by simp [zh]
theorem newd1 (w : World) (a b : Value) (t : TypeId) : (w.drew.alloc (.cells #[a, b] t)).cell? ⟨w.heap.size, 1, none⟩ = some b := by simp [zh]
theorem newdz (w : World) (a b : Value) (t : TypeId) : w.heap.size < (w.drew.alloc (.cells #[a, b] t)).heap.size := by simp
theorem newdf (w : World) (a b : Value) (t : TypeId) (i : Nat) : (w.drew.alloc (.cells #[a, b] t)).frozen? ⟨w.heap.size, i, none⟩ = false := by simp [qt]
theorem zw3 {P : Prop} (h : P := by
 have HOW5 := zwg (fun c hc => by have h1 := how5 c hc; have h3 := HZR.out; simp at h1; exact (show wo.heap.size < c by omega))
 clear hS hb5 hQ5 e0 e1 e2 e3 hu5 how5 x0 x1 c0 c1
 go_wp2_with (first | (refine zy rfl 68 _ _ rfl wo.heap.size _ _ (zal HBS.out HBOX.out) rfl #[.int .i64 n, .slice p5 (V.opL n V.orF acc y).length q5] rfl rfl (by kernel_rfl) (qz _ _ _ _) ?_; intro W6 hp6) | fail)
 have H6 := zwg hp6.here
 have HI6 := zwg (hp6.itvs HIV.out (fun c hc => by have := HOW5.out c hc; omega))
 have HB6 := zwg (hp6.below (HBY.out.trans (HBS.out.mono HBY.out.size)) (zwi _))
 clear hp6
 go_roundw
 case rel => exact ⟨k + 1, _, _, by omega, by go_num, HEQ.out, HOK5.out, H6.out, HI6.out, HOW5.out, HB6.out⟩
 case measure => simp [intOf]; omega) : P := h
theorem zh1 (n : Int) (s : V.Bs) (w : World) (hm : zj w) (hs : s.length ≤ maxLen) :
  Calls Tryz.prog 98 #[.int .i64 n, .string ⟨s.toArray⟩] w (xz (V.parP n s) w) := by
 have HM := zwg hm
 have q7 : (ByteArray.mk s.toArray).size = s.length := by simp [ByteArray.size]
 have q8 : Hid ((ByteArray.mk s.toArray).data.toList = s) := zwg rfl
 have j6 : Below w.heap.size w (w.alloc (.cells #[.int .i64 0, .slice none 0 0] 68)) := (zwj _ w).alloc (zwi _) _
 have K0 : Hid ((w.alloc (.cells #[.int .i64 0, .slice none 0 0] 68)).heap[w.heap.size]? = some (.cells #[.int .i64 0, .slice none 0 0] 68 (0, 0))) := zwg (by rw [heap_alloc, if_pos rfl])
 have HB0 := zwg j6
 have HZ0 : Hid ((w.alloc (.cells #[.int .i64 0, .slice none 0 0] 68)).heap.size = w.heap.size + 1) := zwg (by simp)
 unfold maxLen at hs
 clear j6 hm
 generalize (ByteArray.mk s.toArray) = S at *
 go_enter Tryz.func98, Tryz.ntmps98
 go_wp2_with fail
 generalize w.alloc (.cells #[.int .i64 0, .slice none 0 0] 68) = w0 at *
 refine (xf n w0).mono ?_
 rintro e w' ⟨rfl, rfl⟩
 rcases g9 : V.scheme n with _ | _
 ·have HR := zwg (V.zo8 (s := s) g9)
  clear g9
  go_wp2_with (first | (refine zy rfl 68 _ _ rfl w.heap.size #[.int .i64 0, .slice none 0 0] _ K0.out rfl #[.int .i64 0, .slice none 0 0] rfl rfl (by kernel_rfl) (qz _ _ _ _) ?_; intro W2 hp2; have z0 : W2.cell? ⟨w.heap.size, 0, none⟩ = some (.int .i64 0) := zwf hp2.here 0; have z1 : W2.cell? ⟨w.heap.size, 1, none⟩ = some (.slice none 0 0) := zwf hp2.here 1) | fail)
  have HBF := zwg (hp2.below HB0.out (zwi _))
  clear hp2
  exact bodyPost_ret (v := .tuple #[.agg #[.int .i64 0, .slice none 0 0], .int .i64 14]) (by simp [results, Tryz.results98, go_sem, z0, z1]) rfl (by rw [HR.out]; exact xz.zero HBF.out _)
 ·have HSC := zwg g9
  clear g9
  by_cases hlong : s.length ≤ 8192
  ·have HL := zwg hlong
   have hq : ¬ 8192 < S.size := by omega
   have q9 : ¬ (8192 : Int) < (S.size : Int) := by omega
   have HS : Hid (S.size < 4294967281) := zwg (by omega)
   have v0 : Hid (∀ x ∈ Lib.split s V.orT, x.length ≤ 100000) := zwg (fun x hx => by
     have := zmg V.orT _ s x hx
     omega)
   have v1 : Hid ((Lib.split s V.orT).length ≤ 10000) := zwg (by have := zo6 s; omega)
   have v2 : Hid (V.vj n (Lib.split s V.orT) = none -> V.parP n s = (0, [], 2)) := zwg (fun h => V.zvc HSC.out HL.out h)
   have v4 : Hid (∀ xs, V.vj n (Lib.split s V.orT) = some xs -> V.xp n [] xs = none -> V.parP n s = (0, [], 3)) := zwg (fun xs h g => V.zr7 HSC.out HL.out h g)
   have HUS : Hid (∀ xs l, V.vj n (Lib.split s V.orT) = some xs -> V.xp n [] xs = some l -> V.parP n s = (n, l, 0)) := zwg (fun xs l h g => V.parP_ok HSC.out HL.out h g)
   clear hlong hs q7
   go_wp2_with fail
   refine (zqb S w0 (HM.out.below HB0.out) HS.out).mono ?_
   rintro e W0 ⟨rfl, hW0⟩
   rw [q8.out] at hW0 ⊢
   have hb1 : Below w0.heap.size w0 W0 := by rw [hW0]; exact (zwj _ _).alloc (zwi _) _
   have HB1 := zwh HB0 hb1
   have K1 := zwg (zal hb1 K0.out)
   have h4 : w0.heap.size = w.heap.size + 1 := HZ0.out
   have v5 : Hid (∀ j (h : j < (Lib.split s V.orT).length), W0.cell? ⟨w.heap.size + 1, j, none⟩ = some (.string ⟨(Lib.split s V.orT)[j].toArray⟩)) := zwg (fun j hj => by
     rw [hW0, ← h4, World.cell?_alloc_new]; exact wv _ j hj)
   have z2 : Hid (W0.heap.size = w.heap.size + 2) := zwg (by rw [hW0]; simp; omega)
   clear hb1 hW0
   rw [h4]
   clear h4
   have z3 : (Lib.split s V.orT).length ≤ 10000 := v1.out
   have v6 := zwg (V.zo4 n (Lib.split s V.orT))
   generalize Lib.split s V.orT = P at *
   go_wp2_with fail
   go_loopw [7, 8] (fun v iv wx => ∃ (k : Nat) (us : List Sl) (xs : List (List V.Itv)), k ≤ P.length /\ iv = .int .i64 k /\ us.length = k /\ V.zb5 n P k xs /\ SetRow n W0.heap.size wx v us xs /\ Below W0.heap.size W0 wx) (fun _ iv _ => P.length - (intOf iv).toNat)
   case atStart => exact ⟨0, [], [], Nat.zero_le _, rfl, rfl, v6.out, SetRow.nil _ _ _, zwj _ _⟩
   case round =>
    obtain ⟨k, us, xs, hk, rfl, j7, j8, g2, h0⟩ := hrel
    have HTO := zwg j8
    have g3 := zwg g2
    have h5 := zwg j7
    have HBX := zwg h0
    have HBF := zwh HB1 h0
    have KR := zwg (zal (h0.mono (zwi _)) K1.out)
    clear j8 g2 j7 h0
    by_cases hlt : k < P.length
    ·have hc := ze HBX.out (v5.out k hlt)
     have v7 : (0 : Int) ≤ (k : Int) := by omega
     have v8 : (k : Int) < (P.length : Int) := by omega
     have v9 := zwg (v0.out _ (List.getElem_mem hlt))
     have HST := zwg (fun (y : List V.Itv) hy => V.zpd (x := y) HTO.out hlt hy)
     have HNO := zwg (fun hy => V.zpl HTO.out hlt hy)
     generalize P[k] = x at *
     go_wp2_with fail
     refine (zf9 n x wr (HM.out.below HBF.out) HSC.out v9.out).mono ?_
     rintro e w2 ⟨m2, u, l, b, rfl, j9, hu, how, hb2⟩
     obtain ⟨p, q, rfl⟩ := hu.slice
     have k0 := zwg j9
     have HU := zwg hu
     have y0 := zwg how
     have HB2 := zwg hb2
     have KR2 := zwg (zal hb2 KR.out)
     clear j9 hu how hb2 hc
     unfold setV
     have HBY := zwg ((zwj w2.heap.size w2).alloc (zwi _) (.cells #[.int .i64 m2, .slice p l.length q] 68))
     rcases b with _ | _
     ·have HR : Hid (V.parP n s = (0, [], 2)) := zwg (v2.out (HNO.out (by
        rcases k0.out with ⟨_, h⟩ | ⟨h, _⟩
        · exact h
        · cases h)))
      go_wp2_with (first | (refine zy rfl 68 _ _ rfl w.heap.size #[.int .i64 0, .slice none 0 0] _ (zal HBY.out KR2.out) rfl #[.int .i64 0, .slice none 0 0] rfl rfl (by kernel_rfl) (qz _ _ _ _) ?_; intro W5 h3; have z0 : W5.cell? ⟨w.heap.size, 0, none⟩ = some (.int .i64 0) := zwf h3.here 0; have z1 : W5.cell? ⟨w.heap.size, 1, none⟩ = some (.slice none 0 0) := zwf h3.here 1) | fail)
      have HB5 := zwg (h3.below (HBF.out.trans ((HB2.out.trans (HBY.out.mono HB2.out.size)).mono HBF.out.size)) (zwi _))
      clear h3
      exact bodyPost_ret (v := .tuple #[.agg #[.int .i64 0, .slice none 0 0], .int .i64 2]) (by simp [results, Tryz.results98, go_sem, z0, z1]) rfl (by rw [HR.out]; exact xz.zero HB5.out _)
     ·have k9 : m2 = n /\ V.altP n x = some l := by
       rcases k0.out with ⟨h, _⟩ | ⟨_, h1, h2⟩
       ·cases h
       ·exact ⟨h1, h2⟩
      obtain ⟨rfl, k1⟩ := k9
      have y1 := zwg k1
      have h6 : Below w2.heap.size w2 ((w2.alloc (.cells #[.int .i64 m2, .slice p l.length q] 68)).alloc (.cells #[.int .i64 m2, .slice p l.length q] 68)) := ((zwj _ _).alloc (zwi _) _).alloc (by simp) _
      have HBZ := zwh HB2 h6
      have y2 := zwg (HU.out.below h6)
      have h7 := zwg (g3.out.later HBZ.out)
      have HKL : Hid (us.length ≤ 10000) := zwg (by have := h5.out; omega)
      have q3 : Hid (l ≠ [] -> ∀ c, (Value.slice p l.length q).ownBlock = some c -> ∀ v, SetRow m2 W0.heap.size wr v us xs -> v.ownBlock ≠ some c) := zwg (fun _ c hc v hv e => by
        have h1 := y0.out c hc
        have h2 := GRow.lt hv.row c e
        omega)
      clear k1 h6
      go_wp2_with (first | (refine zpg (zt0 m2) (by decide) (slE_one m2) setInfo (by decide) rfl _ _ 170 rfl Tryz.underlying170 W0.heap.size _ us rfl h7.out.row (w2.heap.size + 1) ⟨p, l.length, q⟩ rfl (fun j u hj => by rw [zh]; simpa [slE, Sl.v] using hj) (by have := HKL.out; omega) (by have := HBX.out.size; have := HBZ.out.size; omega) ?_; intro v3 W3 hr3 hg3 k2) | fail)
      have y3 := zwg (h7.out.add (u := ⟨p, l.length, q⟩) hr3 hg3 k2 y2.out (fun hl c hc => q3.out hl c hc _ g3.out))
      have HB3 : Hid (Below W0.heap.size W0 W3) := zwg ((HBX.out.trans (HBZ.out.mono HBX.out.size)).trans ⟨hg3.os, hg3.tape, hg3.output, hg3.size, fun i hi => hg3.block i (by have := HBX.out.size; have := HBZ.out.size; omega) (fun e => by have := GRow.block h7.out.row i e.symm; omega)⟩)
      have y4 := zwg (HST.out l y1.out)
      clear hr3 hg3 k2
      go_wp2_with fail
      go_roundw
      case rel => exact ⟨k + 1, _, _, by omega, by go_num, by rw [List.length_append, h5.out]; rfl, y4.out, y3.out, HB3.out⟩
      case measure => simp [intOf]; omega
    ·obtain rfl : k = P.length := by omega
     have h8 := zwg (V.zrn HTO.out)
     have q4 := zwg (V.zhi HSC.out h8.out).2
     have y5 := zwg (fun h => v4.out xs h8.out h)
     have y6 := zwg (fun l h => HUS.out xs l h8.out h)
     have h9 : Hid (us.length = xs.length) := zwg g3.out.len
     obtain ⟨va, vc, rfl⟩ := GRow.slice g3.out.row
     obtain ⟨wo, rfl⟩ : ∃ wo : World, wo = wr := ⟨_, rfl⟩
     have y8 : us.length ≤ 10000 := by have := h5.out; omega
     have HX0 : Hid ((wo.alloc (.cells #[.int .i64 n, .slice none 0 0] 68)).heap[wo.heap.size]? = some (.cells #[.int .i64 n, .slice none 0 0] 68 (0, 0))) := zwg (by rw [heap_alloc, if_pos rfl])
     have q6 := zwg ((zwj wo.heap.size wo).alloc (zwi _) (.cells #[.int .i64 n, .slice none 0 0] 68))
     have k3 : Hid (w.heap.size < wo.heap.size) := zwg ((Array.getElem?_eq_some_iff.1 KR.out).1)
     go_wp2_with fail
     go_loopw [12] (fun iv wx => ∃ (k : Nat) (acc : List V.Itv) (u : Value), k ≤ xs.length /\ iv = .int .i64 k /\ V.xp n [] xs = V.xp n acc (xs.drop k) /\ V.Ok n acc /\ wx.heap[wo.heap.size]? = some (.cells #[.int .i64 n, u] 68 (0, 0)) /\ Itvs wx u acc /\ (∀ c, u.ownBlock = some c -> wo.heap.size < c) /\ Below wo.heap.size wo wx) (fun iv _ => us.length - (intOf iv).toNat)
     case atStart => exact ⟨0, [], _, Nat.zero_le _, rfl, rfl, V.ztc HSC.out, HX0.out, Itvs.nil _, (fun c hc => by cases hc), q6.out⟩
     case round =>
      obtain ⟨k, acc, u, hk, rfl, k4, hok, g5, g7, j0, g4⟩ := hrel
      obtain ⟨p, q, rfl⟩ := g7.slice
      have HE := zwg k4
      have HOK := zwg hok
      have HBOX := zwg g5
      have g8 := zwg g7
      have j1 := zwg j0
      have HBY := zwg g4
      obtain ⟨x0, x1⟩ := zcp g5
      have g1 := zwh HBF g4
      have KR1 := zwg (zal g4 KR.out)
      have HZR : Hid (wo.heap.size < wr.heap.size) := zwg ((Array.getElem?_eq_some_iff.1 g5).1)
      clear k4 hok g5 g7 j0
      by_cases hlt : k < xs.length
      ·have k5 : k < us.length := by have := h9.out; omega
       have g2 := g3.out.later g4
       obtain ⟨g, cap, e, _, _, hcell⟩ := GRow.at (zt0 n) g2.row k k5
       cases e
       have c0 : wr.cell? ⟨g, k * 2, none⟩ = some (.int .i64 n) := hcell 0 _ rfl
       have c1 : wr.cell? ⟨g, k * 2 + 1, none⟩ = some us[k].v := hcell 1 _ rfl
       have j2 := (g2.each k k5 hlt).1
       have g6 := zwg (q4.out _ (List.getElem_mem hlt))
       have HNX := zwg (V.zth (n := n) (acc := acc) hlt)
       have v7 : (0 : Int) ≤ (k : Int) := by omega
       have v8 : (k : Int) < (us.length : Int) := by omega
       clear g2 hcell g4
       generalize us[k].v = uv at *
       generalize xs[k] = y at *
       have j3 := zwg j2
       obtain ⟨p2, q2, rfl⟩ := j2.slice
       clear j2
       have k6 := zwg (V.zso HOK.out g6.out.ok)
       have j4 : Hid (V.opP V.orF n acc n y = if V.chkP n acc n y = 0 then V.limP n (V.opL n V.orF acc y) else (0, [], V.chkP n acc n y)) := zwg rfl
       have k7 : Hid (acc.length ≤ maxLen) := zwg (by have := HOK.out.len; unfold maxLen; omega)
       have k8 : Hid (y.length ≤ maxLen) := zwg (by have := g6.out.one; unfold maxLen; omega)
       by_cases h32 : (V.opL n V.orF acc y).length ≤ 32
       ·have j5 : Hid (V.opP V.orF n acc n y = (n, V.opL n V.orF acc y, 0)) := zwg (by rw [j4.out, if_pos k6.out]; unfold V.limP; rw [if_pos h32])
        have HOK5 := zwg (V.znc V.orF HOK.out g6.out.ok h32)
        have HEQ : Hid (V.xp n [] xs = V.xp n (V.opL n V.orF acc y) (xs.drop (k + 1))) := zwg (by rw [HE.out, HNX.out, if_pos h32])
        clear h32
        go_wp2_with fail
        go_region_held3 (fun W' => Below wr.heap.size wr W' /\ W'.cell? ⟨wo.heap.size, 0, none⟩ = some (.int .i64 n) /\ W'.cell? ⟨wo.heap.size, 1, none⟩ = some (.slice p acc.length q) /\ W'.cell? ⟨g, k * 2, none⟩ = some (.int .i64 n) /\ W'.cell? ⟨g, k * 2 + 1, none⟩ = some (.slice p2 y.length q2))
         (first
           | (go_split_ands; exact ⟨Below.trans (by assumption) (hb5.mono (Below.size (by assumption))), zwm hb5, zwm hb5, zwm hb5, zwm hb5⟩)
           | (exact ⟨(zwj _ _).drew, x0, x1, c0, c1⟩)
           | (exact ⟨xd hQ5 _ _, ze (xd hQ5 _ _) x0, ze (xd hQ5 _ _) x1, ze (xd hQ5 _ _) c0, ze (xd hQ5 _ _) c1⟩)
           | (exact (fun hz : Below w5.heap.size w5 _ => ⟨hQ5.trans (hz.mono hQ5.size), ze hz e0, ze hz e1, ze hz e2, ze hz e3⟩) ((zwj _ _).alloc (zwi _) _))
           | (go_split_ands; refine ⟨Below.alloc (by assumption) (Below.size (by assumption)) _, ?_, ?_, ?_, ?_⟩ <;> go_keep)
           | (go_split_ands; refine ⟨Below.setCell (Below.setCell (by assumption) (zwi _) _) (zwi _) _, ?_, ?_, ?_, ?_⟩ <;> go_keep)
           | go_keep)
         (first | (go_at_call 133; refine (zhn n n (.slice p acc.length q) (.slice p2 y.length q2) acc y _ (HM.out.below (g1.out.trans (Below.mono (B := wr.heap.size) (by first | assumption | exact And.left (by assumption)) g1.out.size))) (g8.out.below (by first | assumption | exact And.left (by assumption))) (j3.out.below (by first | assumption | exact And.left (by assumption))) (zbx HOK.out) (zbx g6.out.ok) k7.out k8.out).mono ?_; rintro e w5 ⟨u5, rfl, hu5, how5, hb5⟩; rw [j5.out] at hu5 ⊢; simp only at hu5 ⊢; obtain ⟨p5, q5, rfl⟩ := hu5.slice; unfold setV; have hQ5 : Below wr.heap.size wr w5 := Below.trans (by first | assumption | exact And.left (by assumption)) (hb5.mono (Below.size (B := wr.heap.size) (w := wr) (by first | assumption | exact And.left (by assumption)))); have e0 := ze hQ5 x0; have e1 := ze hQ5 x1; have e2 := ze hQ5 c0; have e3 := ze hQ5 c1; (first | (have q0 : w5.cell? ⟨wr.heap.size, 0, none⟩ = some (.int .i64 0) := ze hb5 (newd0 wr _ _ _); have q1 : w5.cell? ⟨wr.heap.size, 1, none⟩ = some (.slice none 0 0) := ze hb5 (newd1 wr _ _ _); have r0 : w5.frozen? ⟨wr.heap.size, 0, none⟩ = false := (hb5.frozen (p := ⟨wr.heap.size, 0, none⟩) (newdz wr _ _ _)).trans (newdf wr _ _ _ 0); have r1 : w5.frozen? ⟨wr.heap.size, 1, none⟩ = false := (hb5.frozen (p := ⟨wr.heap.size, 1, none⟩) (newdz wr _ _ _)).trans (newdf wr _ _ _ 1)) | (have q0 : w5.cell? ⟨wr.heap.size, 0, none⟩ = some (.int .i64 0) := ze hb5 (newe0 wr _ _ _); have q1 : w5.cell? ⟨wr.heap.size, 1, none⟩ = some (.slice none 0 0) := ze hb5 (newe1 wr _ _ _); have r0 : w5.frozen? ⟨wr.heap.size, 0, none⟩ = false := (hb5.frozen (p := ⟨wr.heap.size, 0, none⟩) (newez wr _ _ _)).trans (newef wr _ _ _ 0); have r1 : w5.frozen? ⟨wr.heap.size, 1, none⟩ = false := (hb5.frozen (p := ⟨wr.heap.size, 1, none⟩) (newez wr _ _ _)).trans (newef wr _ _ _ 1)) | skip)))
        ·rename_i hS
         have HBS := zwg (And.left hS)
         have HIV := zwg (Itvs.below hu5 ((zwj w5.heap.size w5).alloc (zwi _) (.cells #[.int .i64 n, .slice p5 (V.opL n V.orF acc y).length q5] 68)))
         exact zw3
        ·rename_i hS
         have HBS := zwg (And.left hS)
         have HIV := zwg (Itvs.set2 (b := wr.heap.size) (x := .int .i64 n) (y := .slice p5 (V.opL n V.orF acc y).length q5) hu5 (fun c hc => by have h1 := how5 c hc; simp at h1; omega))
         exact zw3
       ·have j5 : Hid (V.opP V.orF n acc n y = (0, [], 3)) := zwg (by rw [j4.out, if_pos k6.out]; unfold V.limP; rw [if_neg h32])
        have HR : Hid (V.parP n s = (0, [], 3)) := zwg (y5.out (by rw [HE.out, HNX.out, if_neg h32]))
        clear h32
        go_wp2_with fail
        go_region_held3 (fun W' => Below wr.heap.size wr W' /\ W'.cell? ⟨wo.heap.size, 0, none⟩ = some (.int .i64 n) /\ W'.cell? ⟨wo.heap.size, 1, none⟩ = some (.slice p acc.length q) /\ W'.cell? ⟨g, k * 2, none⟩ = some (.int .i64 n) /\ W'.cell? ⟨g, k * 2 + 1, none⟩ = some (.slice p2 y.length q2))
         (first
           | (go_split_ands; exact ⟨Below.trans (by assumption) (hb5.mono (Below.size (by assumption))), zwm hb5, zwm hb5, zwm hb5, zwm hb5⟩)
           | (exact ⟨(zwj _ _).drew, x0, x1, c0, c1⟩)
           | (exact ⟨xd hQ5 _ _, ze (xd hQ5 _ _) x0, ze (xd hQ5 _ _) x1, ze (xd hQ5 _ _) c0, ze (xd hQ5 _ _) c1⟩)
           | (exact (fun hz : Below w5.heap.size w5 _ => ⟨hQ5.trans (hz.mono hQ5.size), ze hz e0, ze hz e1, ze hz e2, ze hz e3⟩) ((zwj _ _).alloc (zwi _) _))
           | (go_split_ands; refine ⟨Below.alloc (by assumption) (Below.size (by assumption)) _, ?_, ?_, ?_, ?_⟩ <;> go_keep)
           | (go_split_ands; refine ⟨Below.setCell (Below.setCell (by assumption) (zwi _) _) (zwi _) _, ?_, ?_, ?_, ?_⟩ <;> go_keep)
           | go_keep)
         (first | (go_at_call 133; refine (zhn n n (.slice p acc.length q) (.slice p2 y.length q2) acc y _ (HM.out.below (g1.out.trans (Below.mono (B := wr.heap.size) (by first | assumption | exact And.left (by assumption)) g1.out.size))) (g8.out.below (by first | assumption | exact And.left (by assumption))) (j3.out.below (by first | assumption | exact And.left (by assumption))) (zbx HOK.out) (zbx g6.out.ok) k7.out k8.out).mono ?_; rintro e w5 ⟨u5, rfl, hu5, how5, hb5⟩; rw [j5.out] at hu5 ⊢; simp only at hu5 ⊢; obtain ⟨p5, q5, rfl⟩ := hu5.slice; unfold setV; have hQ5 : Below wr.heap.size wr w5 := Below.trans (by first | assumption | exact And.left (by assumption)) (hb5.mono (Below.size (B := wr.heap.size) (w := wr) (by first | assumption | exact And.left (by assumption)))); have e0 := ze hQ5 x0; have e1 := ze hQ5 x1; have e2 := ze hQ5 c0; have e3 := ze hQ5 c1; (first | (have q0 : w5.cell? ⟨wr.heap.size, 0, none⟩ = some (.int .i64 0) := ze hb5 (newd0 wr _ _ _); have q1 : w5.cell? ⟨wr.heap.size, 1, none⟩ = some (.slice none 0 0) := ze hb5 (newd1 wr _ _ _); have r0 : w5.frozen? ⟨wr.heap.size, 0, none⟩ = false := (hb5.frozen (p := ⟨wr.heap.size, 0, none⟩) (newdz wr _ _ _)).trans (newdf wr _ _ _ 0); have r1 : w5.frozen? ⟨wr.heap.size, 1, none⟩ = false := (hb5.frozen (p := ⟨wr.heap.size, 1, none⟩) (newdz wr _ _ _)).trans (newdf wr _ _ _ 1)) | (have q0 : w5.cell? ⟨wr.heap.size, 0, none⟩ = some (.int .i64 0) := ze hb5 (newe0 wr _ _ _); have q1 : w5.cell? ⟨wr.heap.size, 1, none⟩ = some (.slice none 0 0) := ze hb5 (newe1 wr _ _ _); have r0 : w5.frozen? ⟨wr.heap.size, 0, none⟩ = false := (hb5.frozen (p := ⟨wr.heap.size, 0, none⟩) (newez wr _ _ _)).trans (newef wr _ _ _ 0); have r1 : w5.frozen? ⟨wr.heap.size, 1, none⟩ = false := (hb5.frozen (p := ⟨wr.heap.size, 1, none⟩) (newez wr _ _ _)).trans (newef wr _ _ _ 1)) | skip)))
        all_goals
         rename_i hS
         have HBS := zwg (And.left hS)
         clear hS hb5 hQ5 e0 e1 e2 e3 hu5 how5 x0 x1 c0 c1
         go_wp2_with (first | (refine zy rfl 68 _ _ rfl w.heap.size #[.int .i64 0, .slice none 0 0] _ (zal HBS.out KR1.out) rfl #[.int .i64 0, .slice none 0 0] rfl rfl (by kernel_rfl) (qz _ _ _ _) ?_; intro W7 g0; have z0 : W7.cell? ⟨w.heap.size, 0, none⟩ = some (.int .i64 0) := zwf g0.here 0; have z1 : W7.cell? ⟨w.heap.size, 1, none⟩ = some (.slice none 0 0) := zwf g0.here 1) | fail)
         have HB7 := zwg (g0.below (g1.out.trans (HBS.out.mono g1.out.size)) (zwi _))
         clear g0
         exact bodyPost_ret (v := .tuple #[.agg #[.int .i64 0, .slice none 0 0], .int .i64 3]) (by simp [results, Tryz.results98, go_sem, z0, z1]) rfl (by rw [HR.out]; exact xz.zero HB7.out _)
      ·obtain rfl : k = xs.length := by omega
       have HR : Hid (V.parP n s = (n, acc, 0)) := zwg (y6.out acc (by rw [HE.out, List.drop_length]; rfl))
       have z4 : ¬ (xs.length : Int) < (us.length : Int) := by have := h9.out; omega
       have y9 : ¬ xs.length < us.length := by have := h9.out; omega
       clear g4
       go_wp2_with (first
         | (refine zy rfl 68 _ _ rfl w.heap.size #[.int .i64 0, .slice none 0 0] _ KR1.out rfl #[.int .i64 n, .slice p acc.length q] rfl rfl (by kernel_rfl) (qz _ _ _ _) ?_; intro W7 g0; have z0 : W7.cell? ⟨w.heap.size, 0, none⟩ = some (.int .i64 n) := zwf g0.here 0; have z1 : W7.cell? ⟨w.heap.size, 1, none⟩ = some (.slice p acc.length q) := zwf g0.here 1)
         | fail)
       have HB7 := zwg (g0.below g1.out (zwi _))
       have y7 := zwg (g0.itvs g8.out (fun c hc => by have := j1.out c hc; have := k3.out; omega))
       clear g0
       exact bodyPost_ret (v := .tuple #[.agg #[.int .i64 n, .slice p acc.length q], .int .i64 0]) (by simp [results, Tryz.results98, go_sem, z0, z1]) rfl (by rw [HR.out]; exact ⟨_, rfl, y7.out, (fun c hc => by have := j1.out c hc; have := k3.out; omega), HB7.out⟩)
  ·have HR := zwg (V.zvm HSC.out hlong)
   have hq : 8192 < S.size := by omega
   have q9 : (8192 : Int) < (S.size : Int) := by omega
   clear hlong
   go_wp2_with (first | (refine zy rfl 68 _ _ rfl w.heap.size #[.int .i64 0, .slice none 0 0] _ K0.out rfl #[.int .i64 0, .slice none 0 0] rfl rfl (by kernel_rfl) (qz _ _ _ _) ?_; intro W2 hp2; have z0 : W2.cell? ⟨w.heap.size, 0, none⟩ = some (.int .i64 0) := zwf hp2.here 0; have z1 : W2.cell? ⟨w.heap.size, 1, none⟩ = some (.slice none 0 0) := zwf hp2.here 1) | fail)
   have HBF := zwg (hp2.below HB0.out (zwi _))
   clear hp2
   exact bodyPost_ret (v := .tuple #[.agg #[.int .i64 0, .slice none 0 0], .int .i64 3]) (by simp [results, Tryz.results98, go_sem, z0, z1]) rfl (by rw [HR.out]; exact xz.zero HBF.out _)
theorem zj.tape {w w' : World} {b k : Nat} (hm : zj w) (ht : Tape w b k) (hg : w.grownBy w' (some b)) : zj w' := by
 obtain ⟨m, hm⟩ := hm
 obtain ⟨a, n, cap, p, c0, _⟩ := ht
 exact ⟨m, hg.cell hm (fun e => by cases e; rw [c0] at hm; cases hm)⟩
theorem zdh {w w6 W7 : World} {b g : Nat} (h : w.grownBy w6 (some b)) (k : w6.grownBy W7 (some g)) (hg : w.heap.size ≤ g) : w.grownBy W7 (some b) :=
 ⟨k.os.trans h.os, k.tape.trans h.tape, k.output.trans h.output, Nat.le_trans h.size k.size, fun i hi hr => (k.block i (Nat.lt_of_lt_of_le hi h.size) (by intro e; cases e; omega)).trans (h.block i hi hr)⟩
def RngPost (b k : Nat) (n : Int) (w : World) (e : Ending) (w' : World) : Prop :=
 ∃ u l, e = .returned (setV n u) /\ Itvs w' u l /\ V.okR n l = true /\ 1 ≤ l.length /\ (∀ c, u.ownBlock = some c -> w.heap.size ≤ c) /\ Tape w' b (k + 3) /\ w.grownBy w' (some b)
def rngL (s t : ByteArray) : List ByteArray := [⟨#[42]⟩, (⟨#[62, 61]⟩ : ByteArray) ++ s, (⟨#[60]⟩ : ByteArray) ++ s, (⟨#[61]⟩ : ByteArray) ++ s, (⟨#[62]⟩ : ByteArray) ++ s ++ ⟨#[32, 60, 61]⟩ ++ t, (⟨#[60]⟩ : ByteArray) ++ s ++ ⟨#[32, 124, 124, 32, 62, 61]⟩ ++ t, (⟨#[60, 61]⟩ : ByteArray) ++ s]
theorem rngL_len {s t : ByteArray} (hs : s.size ≤ 64) (ht : t.size ≤ 64) : ∀ x ∈ (rngL s t).map (·.data.toList), x.length ≤ 200 := by
 intro x hx
 obtain ⟨y, hy, rfl⟩ := List.mem_map.1 hx
 have hz : y.size ≤ 200 := by
  simp only [rngL, List.mem_cons, List.not_mem_nil, or_false] at hy
  rcases hy with rfl | rfl | rfl | rfl | rfl | rfl | rfl
  ·decide
  ·rw [ByteArray.size_append]; show 2 + s.size ≤ 200; omega
  ·rw [ByteArray.size_append]; show 1 + s.size ≤ 200; omega
  ·rw [ByteArray.size_append]; show 1 + s.size ≤ 200; omega
  ·rw [ByteArray.size_append, ByteArray.size_append, ByteArray.size_append]; show 1 + s.size + 3 + t.size ≤ 200; omega
  ·rw [ByteArray.size_append, ByteArray.size_append, ByteArray.size_append]; show 1 + s.size + 6 + t.size ≤ 200; omega
  ·rw [ByteArray.size_append]; show 2 + s.size ≤ 200; omega
 exact hz
theorem rng_star {n : Int} (h : V.scheme n = true) : V.parP n [42] = (n, [⟨[], 0, [], 0⟩], 0) := by
 have hs : n = 1 ∨ n = 2 ∨ n = 3 := by unfold V.scheme at h; simpa [or_assoc] using h
 rcases hs with e | e | e <;> subst e
 ·exact (show V.parP 1 [42] = (1, [⟨[], 0, [], 0⟩], 0) by kernel_rfl)
 ·exact (show V.parP 2 [42] = (2, [⟨[], 0, [], 0⟩], 0) by kernel_rfl)
 ·exact (show V.parP 3 [42] = (3, [⟨[], 0, [], 0⟩], 0) by kernel_rfl)
theorem rng_full {n : Int} (h : V.scheme n = true) : V.okR n [⟨[], 0, [], 0⟩] = true := by
 have hs : n = 1 ∨ n = 2 ∨ n = 3 := by unfold V.scheme at h; simpa [or_assoc] using h
 rcases hs with e | e | e <;> subst e
 ·exact (show V.okR 1 [⟨[], 0, [], 0⟩] = true by kernel_rfl)
 ·exact (show V.okR 2 [⟨[], 0, [], 0⟩] = true by kernel_rfl)
 ·exact (show V.okR 3 [⟨[], 0, [], 0⟩] = true by kernel_rfl)
theorem zqp (n : Int) (s : V.Bs) : V.vg n s ≠ (none, 0) := by
 unfold V.vg
 repeat' split
 all_goals (intro h; simp at h)
theorem parP_okR {n : Int} {s : V.Bs} {rs : Int} {l : List V.Itv} (h : V.parP n s = (rs, l, 0)) : rs = n /\ V.okR n l = true := by
 unfold V.parP at h
 split at h
 ·rename_i l' c hq
  cases h
  exact ⟨rfl, V.of_ok (V.zrw (by rw [hq])).1⟩
 ·rename_i c hq
  cases h
  exact absurd hq (zqp _ _)
theorem zkc (b k : Nat) (n : Int) (w : World) (hm : zj w) (h : Tape w b k) (hk : k ≤ 900000) (hn : V.scheme n = true) :
  Calls Tryz.prog 62 #[.pointer (some ⟨b, 0, none⟩), .int .i64 n] w (RngPost b k n w) := by
 have g5 : Below w.heap.size w (w.alloc (.cells #[.int .i64 0, .slice none 0 0] 68)) := (zwj _ w).alloc (zwi _) _
 have j0 := zwg (hm.below g5)
 have g8 := zwg (h.below g5)
 have q8 : Hid ((w.alloc (.cells #[.int .i64 0, .slice none 0 0] 68)).heap[w.heap.size]? = some (.cells #[.int .i64 0, .slice none 0 0] 68 (0, 0))) := zwg (heap_alloc_new w _)
 have j1 := zwg (zn g5 (some b))
 have HBW := zwg h.lt
 have HN := zwg hn
 have j2 : (w.alloc (.cells #[.int .i64 0, .slice none 0 0] 68)).heap.size = w.heap.size + 1 := by simp
 have HZ0 := zwg j2
 clear g5 hm h hn j2
 go_enter Tryz.func62, Tryz.ntmps62
 go_wp2_with fail
 generalize w.alloc (.cells #[.int .i64 0, .slice none 0 0] 68) = w0 at *
 refine (yb b k n w0 g8.out (by omega) HN.out).mono ?_
 rintro e w1 ⟨xa, ha, rfl, ht1, hg1⟩
 have j3 := zwg (j0.out.tape g8.out hg1)
 have HT1 := zwg ht1
 have HG1 := zwg hg1
 clear ht1 hg1
 go_wp2_with fail
 refine (yb b (k + 1) n w1 HT1.out (by omega) HN.out).mono ?_
 rintro e w2 ⟨xb, hb, rfl, j4, g9⟩
 have j5 := zwg (j3.out.tape HT1.out g9)
 have h1 := zwg j4
 have h2 := zwg (HG1.out.trans g9)
 have j6 : (⟨xa.toArray⟩ : ByteArray).size ≤ 64 := by simpa [ByteArray.size] using (V.valid_len ha).2
 have j7 : (⟨xb.toArray⟩ : ByteArray).size ≤ 64 := by simpa [ByteArray.size] using (V.valid_len hb).2
 clear j4 g9 ha hb j0 g8 j3 HT1 HG1
 generalize (⟨xa.toArray⟩ : ByteArray) = s at *
 generalize (⟨xb.toArray⟩ : ByteArray) = t at *
 have q1 : ¬ (9223372036854775807 < 2 + s.size) := by omega
 have q2 : ¬ (9223372036854775807 < 1 + s.size) := by omega
 have q3 : ¬ (9223372036854775807 < 1 + s.size + 3) := by omega
 have q4 : ¬ (9223372036854775807 < 1 + s.size + 3 + t.size) := by omega
 have q5 : ¬ (9223372036854775807 < 1 + s.size + 6) := by omega
 have q6 : ¬ (9223372036854775807 < 1 + s.size + 6 + t.size) := by omega
 have HL := zwg (rngL_len j6 j7)
 have q9 : w.heap.size + 1 ≤ w2.heap.size := by have := h2.out.size; have := HZ0.out; omega
 go_wp2_with fail
 clear q1 q2 q3 q4 q5 q6 j6 j7
 have hb3 : Below w2.heap.size w2 (w2.alloc (.cells #[.string (⟨#[42]⟩), .string ((⟨#[62, 61]⟩ : ByteArray) ++ s), .string ((⟨#[60]⟩ : ByteArray) ++ s), .string ((⟨#[61]⟩ : ByteArray) ++ s), .string ((⟨#[62]⟩ : ByteArray) ++ s ++ ⟨#[32, 60, 61]⟩ ++ t), .string ((⟨#[60]⟩ : ByteArray) ++ s ++ ⟨#[32, 124, 124, 32, 62, 61]⟩ ++ t), .string ((⟨#[60, 61]⟩ : ByteArray) ++ s)] 9)) := (zwj _ w2).alloc (zwi _) _
 have j8 := zwg (j5.out.below hb3)
 have h3 := zwg (h1.out.below hb3)
 have j9 := zwg (h2.out.trans (zn hb3 (some b)))
 refine (ut b (k + 2) (w2.alloc (.cells #[.string (⟨#[42]⟩), .string ((⟨#[62, 61]⟩ : ByteArray) ++ s), .string ((⟨#[60]⟩ : ByteArray) ++ s), .string ((⟨#[61]⟩ : ByteArray) ++ s), .string ((⟨#[62]⟩ : ByteArray) ++ s ++ ⟨#[32, 60, 61]⟩ ++ t), .string ((⟨#[60]⟩ : ByteArray) ++ s ++ ⟨#[32, 124, 124, 32, 62, 61]⟩ ++ t), .string ((⟨#[60, 61]⟩ : ByteArray) ++ s)] 9)) ⟨w2.heap.size, 0, none⟩ 7 ((rngL s t).map (·.data.toList)) h3.out (by omega) (by simp [rngL]) (by simp [rngL]) (by have := h1.out.lt; simp; omega) rfl (fun j hj => by
   rw [World.cell?_alloc_new, Nat.zero_add]
   have h7 : j = 0 ∨ j = 1 ∨ j = 2 ∨ j = 3 ∨ j = 4 ∨ j = 5 ∨ j = 6 := by simp [rngL] at hj; omega
   rcases h7 with rfl | rfl | rfl | rfl | rfl | rfl | rfl <;> rfl)).mono ?_
 rintro e w4 ⟨x, hx, rfl, k0, hg4⟩
 have HX := zwg (HL.out x hx)
 have h4 := zwg (j8.out.tape h3.out hg4)
 have k1 := zwg k0
 have HG4 := zwg (j9.out.trans hg4)
 have hz4 : w.heap.size + 1 ≤ w4.heap.size := by have := hg4.size; have := hb3.size; omega
 clear hb3 hx k0 hg4 j5 h1 h2 j8 h3 j9 HL q9
 go_wp2_with fail
 refine (zh1 n x w4 h4.out (by have := HX.out; unfold maxLen; omega)).mono ?_
 rintro e w5 ⟨u5, rfl, hu5, how5, hb5⟩
 obtain ⟨⟨rs, its, ec⟩, h5⟩ : ∃ p, V.parP n x = p := ⟨_, rfl⟩
 rw [h5] at hu5 ⊢
 simp only at hu5 ⊢
 have v0 := zwg h5
 obtain ⟨p5, c5, rfl⟩ := hu5.slice
 have g6 : Below w4.heap.size w4 (w5.alloc (.cells #[.int .i64 rs, .slice p5 its.length c5] 68)) := hb5.alloc hb5.size _
 have v1 := zwg (h4.out.below g6)
 have k2 := zwg (k1.out.below g6)
 have g4 := zwg (HG4.out.trans (zn g6 (some b)))
 have HI6 := zwg (hu5.below ((zwj _ w5).alloc (zwi _) (.cells #[.int .i64 rs, .slice p5 its.length c5] 68)))
 have k3 : Hid (∀ c, (Value.slice p5 its.length c5).ownBlock = some c -> w4.heap.size ≤ c) := zwg how5
 have k4 : Hid ((w5.alloc (.cells #[.int .i64 rs, .slice p5 its.length c5] 68)).heap[w5.heap.size]? = some (.cells #[.int .i64 rs, .slice p5 its.length c5] 68 (0, 0))) := zwg (heap_alloc_new w5 _)
 have k5 : w4.heap.size ≤ w5.heap.size := hb5.size
 have k6 : (w5.alloc (.cells #[.int .i64 rs, .slice p5 its.length c5] 68)).heap.size = w5.heap.size + 1 := by simp
 clear h5 hu5 how5 hb5 g6 h4 k1 HG4
 obtain ⟨s0, s1⟩ := zcp k4.out
 unfold setV
 have k7 := zwg ((g4.out.block _ (by have := HZ0.out; omega) (by intro e; cases e; have := HBW.out; omega)).trans q8.out)
 have g0 : Hid (w4.heap.size ≤ w5.heap.size /\ w.heap.size + 1 ≤ w4.heap.size /\ (w5.alloc (.cells #[.int .i64 rs, .slice p5 its.length c5] 68)).heap.size = w5.heap.size + 1) := zwg ⟨k5, hz4, k6⟩
 clear hz4 k5 k6
 by_cases hgood : ec = 0 /\ its.length ≠ 0
 ·obtain ⟨rfl, h0⟩ := hgood
  have q0 := zwg (parP_okR v0.out)
  obtain ⟨v2, hok⟩ := q0.out
  subst v2
  generalize k8 : its.length = m at *
  have v3 := zwg k8
  have H0 := zwg h0
  have q1 : ((m : Int) == 0) = false := by rw [zwk]; omega
  have q2 : ¬ (m : Int) = 0 := by omega
  have q3 : ¬ m = 0 := h0
  have q7 := zwg hok
  clear k8 h0 hok
  go_wp2_with (first | (refine zy rfl 68 _ _ rfl w.heap.size #[.int .i64 0, .slice none 0 0] _ k7.out rfl #[.int .i64 rs, .slice p5 m c5] rfl rfl (by kernel_rfl) (qz _ _ _ _) ?_
                        intro W7 g1
                        have g2 := zwg g1
                        obtain ⟨z0, z1⟩ := zcp g1.here
                        clear g1) | fail)
  refine bodyPost_ret (v := .agg #[.int .i64 rs, .slice p5 m c5]) (by simp [results, Tryz.results62, go_sem, z0, z1]) rfl ?_
  exact ⟨_, its, rfl, g2.out.itvs HI6.out (fun c hc => by have := k3.out c hc; have := g0.out; omega), q7.out, by have := v3.out; have := H0.out; omega, fun c hc => by have := k3.out c hc; have := g0.out; omega, k2.out.grown g2.out.grown (by intro e; cases e; have := HBW.out; omega) (by intro c e; cases e; exact HBW.out), zdh (j1.out.trans g4.out) g2.out.grown (zwi _)⟩
 ·have v8 := zwg hgood
  have hcase : (ec != 0) = true ∨ (ec = 0 /\ its = []) := by
   by_cases he : ec = 0
   ·refine .inr ⟨he, ?_⟩
    by_cases hl : its.length = 0
    ·exact List.eq_nil_of_length_eq_zero hl
    ·exact absurd ⟨he, hl⟩ hgood
   ·exact .inl (by simpa using he)
  clear hgood
  rcases hcase with v9 | ⟨rfl, rfl⟩
  all_goals
   go_wp2_with fail
   generalize w5.alloc (.cells #[.int .i64 rs, .slice p5 _ c5] 68) = w6 at *
   generalize w5.heap.size = X at *
   refine (zh1 n [42] w6 v1.out (by decide)).mono ?_
   rintro e w8 ⟨u8, rfl, g3, h6, hb8⟩
   rw [rng_star HN.out] at g3 ⊢
   simp only at g3 ⊢
   obtain ⟨p8, c8, rfl⟩ := g3.slice
   have HT8 := zwg (k2.out.below hb8)
   have v4 := zwg ((hb8.block X (by have := g0.out; omega)).trans k4.out)
   have k9 := zwg ((hb8.block w.heap.size (by have := g0.out; omega)).trans k7.out)
   have v5 := zwg (g4.out.trans (zn hb8 (some b)))
   have v6 := zwg g3
   have h8 : Hid (∀ c, (Value.slice p8 1 c8).ownBlock = some c -> w6.heap.size ≤ c) := zwg h6
   clear g3 h6 hb8 s0 s1
   unfold setV
   go_wp2_with (first | (refine zy rfl 68 _ _ rfl X _ _ v4.out rfl #[.int .i64 n, .slice p8 1 c8] rfl rfl (by kernel_rfl) (qz _ _ _ _) ?_
                         intro W9 g7
                         obtain ⟨s0, s1⟩ := zcp g7.here
                         have h9 := zwg g7
                         have v7 := zwg ((g7.grown.block w.heap.size (Array.getElem?_eq_some_iff.1 k9.out).1 (by intro e; cases e; have := g0.out; omega)).trans k9.out)
                         clear g7)
                      | (refine zy rfl 68 _ _ rfl w.heap.size #[.int .i64 0, .slice none 0 0] _ v7.out rfl #[.int .i64 n, .slice p8 1 c8] rfl rfl (by kernel_rfl) (qz _ _ _ _) ?_
                         intro W7 g1
                         have g2 := zwg g1
                         obtain ⟨z0, z1⟩ := zcp g1.here
                         clear g1) | fail)
   refine bodyPost_ret (v := .agg #[.int .i64 n, .slice p8 1 c8]) (by simp [results, Tryz.results62, go_sem, z0, z1]) rfl ?_
   refine ⟨_, [⟨[], 0, [], 0⟩], rfl, g2.out.itvs (h9.out.itvs v6.out (fun c hc => by have := h8.out c hc; have := g0.out; omega)) (fun c hc => by have := h8.out c hc; have := g0.out; omega), rng_full HN.out, by decide, fun c hc => by have := h8.out c hc; have := g0.out; omega, ?_, zdh (zdh (j1.out.trans v5.out) h9.out.grown (by have := g0.out; omega)) g2.out.grown (zwi _)⟩
   exact (HT8.out.grown h9.out.grown (by intro e; cases e; have := HBW.out; have := g0.out; omega) (by intro c e; cases e; have := HBW.out; have := g0.out; omega)).grown g2.out.grown (by intro e; cases e; have := HBW.out; omega) (by intro c e; cases e; exact HBW.out)
open Go.RowKit
def pE (p : Int × V.Bs) : List Value := [.int .i64 p.1, .string ⟨p.2.toArray⟩]
theorem zfq (p : Int × V.Bs) : (pE p).length = 2 := rfl
theorem zji (p : Int × V.Bs) : ∀ u ∈ pE p, u.oneCell' = true := by
 intro u hu
 simp [pE] at hu
 rcases hu with rfl | rfl <;> rfl
theorem zrc : jp 100 2 24 := by
 have h : (match Tryz.prog.info? 100 with | some i => i.size == 2 && (i.bytes == 24 && (match i.zero with | some z => z.cells.size == 2 | none => false)) | none => false) = true := by kernel_rfl
 unfold jp
 cases hq : Tryz.prog.info? 100 with
 | none => rw [hq] at h; cases h
 | some i =>
  exact zwv
end Go.Proofs.YtbikeahmldobkaaGreatDoor
