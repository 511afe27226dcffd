/-
  Lemmas for the law.
-/
import Derived.Test.YtiloljoancdcbaaGreatDoorC38x35
import Derived.Test.YtiloljoancdcbaaGreatDoorC38x42
import Derived.Test.YtiloljoancdcbaaGreatDoorC38x20
import Derived.Deep.RegionHeld3
import Derived.Outline
set_option linter.all false
set_option maxRecDepth 100000
set_option maxHeartbeats 12800000
namespace Go.Proofs.YtiloljoancdcbaaGreatDoor
open Go.RowKit
theorem Itvs.set2 {w : World} {u : Value} {l : List V.Itv} {b : Nat} {x y : Value} (h : Itvs w u l) (hs : ∀ c, u.ownBlock = some c -> c ≠ b) : Itvs ((w.setCell ⟨b, 0, none⟩ x).setCell ⟨b, 1, none⟩ y) u l := by
 have g : ∀ (W : World) (o : Nat) (z : Value), W.grownBy (W.setCell ⟨b, o, none⟩ z) (some b) := fun W o z => ⟨rfl, rfl, rfl, by simp [World.setCell], fun k _ hk => Below.heap_setCell _ _ _ _ (fun e => hk (by rw [e]))⟩
 exact (h.grown (g _ _ _) (fun _ c hc e => hs c hc (Option.some.inj e).symm)).grown (g _ _ _) (fun _ c hc e => hs c hc (Option.some.inj e).symm)
theorem xe {w w5 : World} (h : Below w.heap.size w w5) (a b : Value) : Below w.heap.size w ((w5.setCell ⟨w.heap.size, 0, none⟩ a).setCell ⟨w.heap.size, 1, none⟩ b) := (h.setCell (zvt _) _).setCell (zvt _) _
theorem newd0 (w : World) (a b : Value) (t : TypeId) : (w.drew.alloc (.cells #[a, b] t)).cell? ⟨w.heap.size, 0, none⟩ = some a := by simp [zc]
theorem newd1 (w : World) (a b : Value) (t : TypeId) : (w.drew.alloc (.cells #[a, b] t)).cell? ⟨w.heap.size, 1, none⟩ = some b := by simp [zc]
theorem newdz (w : World) (a b : Value) (t : TypeId) : w.heap.size < (w.drew.alloc (.cells #[a, b] t)).heap.size := by simp
theorem newdf (w : World) (a b : Value) (t : TypeId) (i : Nat) : (w.drew.alloc (.cells #[a, b] t)).frozen? ⟨w.heap.size, i, none⟩ = false := by simp [zy]
theorem zwq {P : Prop} (h : P := by
 have HOW5 := zvr (fun c hc => by have h1 := how5 c hc; have h3 := HZR.out; simp at h1; exact (show wo.heap.size < c by omega))
 clear hS hb5 hQ5 e0 e1 e2 e3 hu5 how5 x0 x1 c0 c1
 go_wp2_with (first | (refine zi rfl 32 _ _ rfl wo.heap.size _ _ (xh HBS.out HBOX.out) rfl #[.int .i64 n, .slice p5 (V.opL n V.orF acc y).length q5] rfl rfl (by kernel_rfl) (zt _ _ _ _) ?_; intro W6 hp6) | fail)
 have H6 := zvr hp6.here
 have HI6 := zvr (hp6.itvs HIV.out (fun c hc => by have := HOW5.out c hc; omega))
 have HB6 := zvr (hp6.below (HBY.out.trans (HBS.out.mono HBY.out.size)) (zvt _))
 clear hp6
 go_roundw
 case rel => exact ⟨k + 1, _, _, by omega, by go_num, HEQ.out, HOK5.out, H6.out, HI6.out, HOW5.out, HB6.out⟩
 case measure => simp [intOf]; omega) : P := h
theorem zh0 (n : Int) (s : V.Bs) (w : World) (hm : zg w) (hs : s.length ≤ maxLen) :
  Calls Tryz.prog 46 #[.int .i64 n, .string ⟨s.toArray⟩] w (jn (V.parP n s) w) := by
 have HM := zvr hm
 have hsz : (ByteArray.mk s.toArray).size = s.length := by simp [ByteArray.size]
 have HSD : Hid ((ByteArray.mk s.toArray).data.toList = s) := zvr rfl
 have hb0 : Below w.heap.size w (w.alloc (.cells #[.int .i64 0, .slice none 0 0] 32)) := (zvu _ w).alloc (zvt _) _
 have K0 : Hid ((w.alloc (.cells #[.int .i64 0, .slice none 0 0] 32)).heap[w.heap.size]? = some (.cells #[.int .i64 0, .slice none 0 0] 32 (0, 0))) := zvr (by rw [heap_alloc, if_pos rfl])
 have HB0 := zvr hb0
 have HZ0 : Hid ((w.alloc (.cells #[.int .i64 0, .slice none 0 0] 32)).heap.size = w.heap.size + 1) := zvr (by simp)
 unfold maxLen at hs
 clear hb0 hm
 generalize (ByteArray.mk s.toArray) = S at *
 go_enter Tryz.func46, Tryz.ntmps46
 go_wp2_with fail
 generalize w.alloc (.cells #[.int .i64 0, .slice none 0 0] 32) = w0 at *
 refine (zb5 n w0).mono ?_
 rintro e w' ⟨rfl, rfl⟩
 rcases hsc : V.scheme n with _ | _
 ·have HR := zvr (V.zhf (s := s) hsc)
  clear hsc
  go_wp2_with (first | (refine zi rfl 32 _ _ rfl w.heap.size #[.int .i64 0, .slice none 0 0] _ K0.out rfl #[.int .i64 0, .slice none 0 0] rfl rfl (by kernel_rfl) (zt _ _ _ _) ?_; intro W2 hp2; have z0 : W2.cell? ⟨w.heap.size, 0, none⟩ = some (.int .i64 0) := zvq hp2.here 0; have z1 : W2.cell? ⟨w.heap.size, 1, none⟩ = some (.slice none 0 0) := zvq hp2.here 1) | fail)
  have HBF := zvr (hp2.below HB0.out (zvt _))
  clear hp2
  exact bodyPost_ret (v := .tuple #[.agg #[.int .i64 0, .slice none 0 0], .int .i64 14]) (by simp [results, Tryz.results46, go_sem, z0, z1]) rfl (by rw [HR.out]; exact jn.zero HBF.out _)
 ·have HSC := zvr hsc
  clear hsc
  by_cases hlong : s.length ≤ 8192
  ·have HL := zvr hlong
   have hq : ¬ 8192 < S.size := by omega
   have hq2 : ¬ (8192 : Int) < (S.size : Int) := by omega
   have HS : Hid (S.size < 4294967281) := zvr (by omega)
   have HPL : Hid (∀ x ∈ Lib.split s V.orT, x.length ≤ 100000) := zvr (fun x hx => by
     have := zg1 V.orT _ s x hx
     omega)
   have HLL : Hid ((Lib.split s V.orT).length ≤ 10000) := zvr (by have := zhe s; omega)
   have HAN : Hid (V.xx n (Lib.split s V.orT) = none -> V.parP n s = (0, [], 2)) := zvr (fun h => V.zmp HSC.out HL.out h)
   have HUN : Hid (∀ xs, V.xx n (Lib.split s V.orT) = some xs -> V.qu n [] xs = none -> V.parP n s = (0, [], 3)) := zvr (fun xs h g => V.zjo HSC.out HL.out h g)
   have HUS : Hid (∀ xs l, V.xx n (Lib.split s V.orT) = some xs -> V.qu n [] xs = some l -> V.parP n s = (n, l, 0)) := zvr (fun xs l h g => V.ztt HSC.out HL.out h g)
   clear hlong hs hsz
   go_wp2_with fail
   refine (zh1 S w0 (HM.out.below HB0.out) HS.out).mono ?_
   rintro e W0 ⟨rfl, hW0⟩
   rw [HSD.out] at hW0 ⊢
   have hb1 : Below w0.heap.size w0 W0 := by rw [hW0]; exact (zvu _ _).alloc (zvt _) _
   have HB1 := zvs HB0 hb1
   have K1 := zvr (xh hb1 K0.out)
   have hz0 : w0.heap.size = w.heap.size + 1 := HZ0.out
   have HTX : Hid (∀ j (h : j < (Lib.split s V.orT).length), W0.cell? ⟨w.heap.size + 1, j, none⟩ = some (.string ⟨(Lib.split s V.orT)[j].toArray⟩)) := zvr (fun j hj => by
     rw [hW0, ← hz0, World.cell?_alloc_new]; exact yj _ j hj)
   have HZ1 : Hid (W0.heap.size = w.heap.size + 2) := zvr (by rw [hW0]; simp; omega)
   clear hb1 hW0
   rw [hz0]
   clear hz0
   have hll : (Lib.split s V.orT).length ≤ 10000 := HLL.out
   have HA0 := zvr (V.zhc n (Lib.split s V.orT))
   generalize Lib.split s V.orT = P at *
   go_wp2_with fail
   go_loopw [7, 8] (fun v iv wx => ∃ (k : Nat) (us : List Sl) (xs : List (List V.Itv)), k ≤ P.length /\ iv = .int .i64 k /\ us.length = k /\ V.zbp n P k xs /\ SetRow n W0.heap.size wx v us xs /\ Below W0.heap.size W0 wx) (fun _ iv _ => P.length - (intOf iv).toNat)
   case atStart => exact ⟨0, [], [], Nat.zero_le _, rfl, rfl, HA0.out, SetRow.nil _ _ _, zvu _ _⟩
   case round =>
    obtain ⟨k, us, xs, hk, rfl, hku, hto, hrow, hbx⟩ := hrel
    have HTO := zvr hto
    have HROW := zvr hrow
    have HKU := zvr hku
    have HBX := zvr hbx
    have HBF := zvs HB1 hbx
    have KR := zvr (xh (hbx.mono (zvt _)) K1.out)
    clear hto hrow hku hbx
    by_cases hlt : k < P.length
    ·have hc := za HBX.out (HTX.out k hlt)
     have hi1 : (0 : Int) ≤ (k : Int) := by omega
     have hi2 : (k : Int) < (P.length : Int) := by omega
     have HLX := zvr (HPL.out _ (List.getElem_mem hlt))
     have HST := zvr (fun (y : List V.Itv) hy => V.zhj (x := y) HTO.out hlt hy)
     have HNO := zvr (fun hy => V.zhn HTO.out hlt hy)
     generalize P[k] = x at *
     go_wp2_with fail
     refine (zf5 n x wr (HM.out.below HBF.out) HSC.out HLX.out).mono ?_
     rintro e w2 ⟨m2, u, l, b, rfl, hor, hu, how, hb2⟩
     obtain ⟨p, q, rfl⟩ := hu.slice
     have HOR := zvr hor
     have HU := zvr hu
     have HOW := zvr how
     have HB2 := zvr hb2
     have KR2 := zvr (xh hb2 KR.out)
     clear hor hu how hb2 hc
     unfold setV
     have HBY := zvr ((zvu w2.heap.size w2).alloc (zvt _) (.cells #[.int .i64 m2, .slice p l.length q] 32))
     rcases b with _ | _
     ·have HR : Hid (V.parP n s = (0, [], 2)) := zvr (HAN.out (HNO.out (by
        rcases HOR.out with ⟨_, h⟩ | ⟨h, _⟩
        · exact h
        · cases h)))
      go_wp2_with (first | (refine zi rfl 32 _ _ rfl w.heap.size #[.int .i64 0, .slice none 0 0] _ (xh HBY.out KR2.out) rfl #[.int .i64 0, .slice none 0 0] rfl rfl (by kernel_rfl) (zt _ _ _ _) ?_; intro W5 hp5; have z0 : W5.cell? ⟨w.heap.size, 0, none⟩ = some (.int .i64 0) := zvq hp5.here 0; have z1 : W5.cell? ⟨w.heap.size, 1, none⟩ = some (.slice none 0 0) := zvq hp5.here 1) | fail)
      have HB5 := zvr (hp5.below (HBF.out.trans ((HB2.out.trans (HBY.out.mono HB2.out.size)).mono HBF.out.size)) (zvt _))
      clear hp5
      exact bodyPost_ret (v := .tuple #[.agg #[.int .i64 0, .slice none 0 0], .int .i64 2]) (by simp [results, Tryz.results46, go_sem, z0, z1]) rfl (by rw [HR.out]; exact jn.zero HB5.out _)
     ·exact zv8
    ·obtain rfl : k = P.length := by omega
     have HAX := zvr (V.zi4 HTO.out)
     have HONE := zvr (V.zet HSC.out HAX.out).2
     have HUX := zvr (fun h => HUN.out xs HAX.out h)
     have HUY := zvr (fun l h => HUS.out xs l HAX.out h)
     have HXL : Hid (us.length = xs.length) := zvr HROW.out.len
     obtain ⟨va, vc, rfl⟩ := GRow.slice HROW.out.row
     obtain ⟨wo, rfl⟩ : ∃ wo : World, wo = wr := ⟨_, rfl⟩
     have hulen : us.length ≤ 10000 := by have := HKU.out; omega
     have HX0 : Hid ((wo.alloc (.cells #[.int .i64 n, .slice none 0 0] 32)).heap[wo.heap.size]? = some (.cells #[.int .i64 n, .slice none 0 0] 32 (0, 0))) := zvr (by rw [heap_alloc, if_pos rfl])
     have HBX0 := zvr ((zvu wo.heap.size wo).alloc (zvt _) (.cells #[.int .i64 n, .slice none 0 0] 32))
     have HZB : Hid (w.heap.size < wo.heap.size) := zvr ((Array.getElem?_eq_some_iff.1 KR.out).1)
     go_wp2_with fail
     go_loopw [12] (fun iv wx => ∃ (k : Nat) (acc : List V.Itv) (u : Value), k ≤ xs.length /\ iv = .int .i64 k /\ V.qu n [] xs = V.qu n acc (xs.drop k) /\ V.Ok n acc /\ wx.heap[wo.heap.size]? = some (.cells #[.int .i64 n, u] 32 (0, 0)) /\ Itvs wx u acc /\ (∀ c, u.ownBlock = some c -> wo.heap.size < c) /\ Below wo.heap.size wo wx) (fun iv _ => us.length - (intOf iv).toNat)
     case atStart => exact ⟨0, [], _, Nat.zero_le _, rfl, rfl, V.zd7 HSC.out, HX0.out, Itvs.nil _, (fun c hc => by cases hc), HBX0.out⟩
     case round =>
      obtain ⟨k, acc, u, hk, rfl, heq, hok, hbox, hset, hown, hby⟩ := hrel
      obtain ⟨p, q, rfl⟩ := hset.slice
      have HE := zvr heq
      have HOK := zvr hok
      have HBOX := zvr hbox
      have HSET := zvr hset
      have HOWN := zvr hown
      have HBY := zvr hby
      obtain ⟨x0, x1⟩ := zbh hbox
      have HBYW := zvs HBF hby
      have KR1 := zvr (xh hby KR.out)
      have HZR : Hid (wo.heap.size < wr.heap.size) := zvr ((Array.getElem?_eq_some_iff.1 hbox).1)
      clear heq hok hbox hset hown
      by_cases hlt : k < xs.length
      ·have hlu : k < us.length := by have := HXL.out; omega
       have hrow := HROW.out.later hby
       obtain ⟨g, cap, e, _, _, hcell⟩ := GRow.at (zit n) hrow.row k hlu
       cases e
       have c0 : wr.cell? ⟨g, k * 2, none⟩ = some (.int .i64 n) := hcell 0 _ rfl
       have c1 : wr.cell? ⟨g, k * 2 + 1, none⟩ = some us[k].v := hcell 1 _ rfl
       have HIT := (hrow.each k hlu hlt).1
       have HON := zvr (HONE.out _ (List.getElem_mem hlt))
       have HNX := zvr (V.zll (n := n) (acc := acc) hlt)
       have hi1 : (0 : Int) ≤ (k : Int) := by omega
       have hi2 : (k : Int) < (us.length : Int) := by omega
       clear hrow hcell hby
       generalize us[k].v = uv at *
       generalize xs[k] = y at *
       have HITV := zvr HIT
       obtain ⟨p2, q2, rfl⟩ := HIT.slice
       clear HIT
       have HCH := zvr (V.zou HOK.out HON.out.ok)
       have HOPF : Hid (V.opP V.orF n acc n y = if V.chkP n acc n y = 0 then V.limP n (V.opL n V.orF acc y) else (0, [], V.chkP n acc n y)) := zvr rfl
       have HLA : Hid (acc.length ≤ maxLen) := zvr (by have := HOK.out.len; unfold maxLen; omega)
       have HLY : Hid (y.length ≤ maxLen) := zvr (by have := HON.out.one; unfold maxLen; omega)
       by_cases h32 : (V.opL n V.orF acc y).length ≤ 32
       ·have HOP : Hid (V.opP V.orF n acc n y = (n, V.opL n V.orF acc y, 0)) := zvr (by rw [HOPF.out, if_pos HCH.out]; unfold V.limP; rw [if_pos h32])
        have HOK5 := zvr (V.zi5 V.orF HOK.out HON.out.ok h32)
        have HEQ : Hid (V.qu n [] xs = V.qu n (V.opL n V.orF acc y) (xs.drop (k + 1))) := zvr (by rw [HE.out, HNX.out, if_pos h32])
        clear h32
        go_wp2_with fail
        go_region_held3 (fun W' => Below wr.heap.size wr W' /\ W'.cell? ⟨wo.heap.size, 0, none⟩ = some (.int .i64 n) /\ W'.cell? ⟨wo.heap.size, 1, none⟩ = some (.slice p acc.length q) /\ W'.cell? ⟨g, k * 2, none⟩ = some (.int .i64 n) /\ W'.cell? ⟨g, k * 2 + 1, none⟩ = some (.slice p2 y.length q2))
         (first
           | (go_split_ands; exact ⟨Below.trans (by assumption) (hb5.mono (Below.size (by assumption))), zvx hb5, zvx hb5, zvx hb5, zvx hb5⟩)
           | (exact ⟨(zvu _ _).drew, x0, x1, c0, c1⟩)
           | (exact ⟨xe hQ5 _ _, za (xe hQ5 _ _) x0, za (xe hQ5 _ _) x1, za (xe hQ5 _ _) c0, za (xe hQ5 _ _) c1⟩)
           | (exact (fun hz : Below w5.heap.size w5 _ => ⟨hQ5.trans (hz.mono hQ5.size), za hz e0, za hz e1, za hz e2, za hz e3⟩) ((zvu _ _).alloc (zvt _) _))
           | (go_split_ands; refine ⟨Below.alloc (by assumption) (Below.size (by assumption)) _, ?_, ?_, ?_, ?_⟩ <;> go_keep)
           | (go_split_ands; refine ⟨Below.setCell (Below.setCell (by assumption) (zvt _) _) (zvt _) _, ?_, ?_, ?_, ?_⟩ <;> go_keep)
           | go_keep)
         (first | (go_at_call 73; refine (zhb n n (.slice p acc.length q) (.slice p2 y.length q2) acc y _ (HM.out.below (HBYW.out.trans (Below.mono (B := wr.heap.size) (by first | assumption | exact And.left (by assumption)) HBYW.out.size))) (HSET.out.below (by first | assumption | exact And.left (by assumption))) (HITV.out.below (by first | assumption | exact And.left (by assumption))) (ul HOK.out) (ul HON.out.ok) HLA.out HLY.out).mono ?_; rintro e w5 ⟨u5, rfl, hu5, how5, hb5⟩; rw [HOP.out] at hu5 ⊢; simp only at hu5 ⊢; obtain ⟨p5, q5, rfl⟩ := hu5.slice; unfold setV; have hQ5 : Below wr.heap.size wr w5 := Below.trans (by first | assumption | exact And.left (by assumption)) (hb5.mono (Below.size (B := wr.heap.size) (w := wr) (by first | assumption | exact And.left (by assumption)))); have e0 := za hQ5 x0; have e1 := za hQ5 x1; have e2 := za hQ5 c0; have e3 := za hQ5 c1; (first | (have q0 : w5.cell? ⟨wr.heap.size, 0, none⟩ = some (.int .i64 0) := za hb5 (newd0 wr _ _ _); have q1 : w5.cell? ⟨wr.heap.size, 1, none⟩ = some (.slice none 0 0) := za hb5 (newd1 wr _ _ _); have r0 : w5.frozen? ⟨wr.heap.size, 0, none⟩ = false := (hb5.frozen (p := ⟨wr.heap.size, 0, none⟩) (newdz wr _ _ _)).trans (newdf wr _ _ _ 0); have r1 : w5.frozen? ⟨wr.heap.size, 1, none⟩ = false := (hb5.frozen (p := ⟨wr.heap.size, 1, none⟩) (newdz wr _ _ _)).trans (newdf wr _ _ _ 1)) | (have q0 : w5.cell? ⟨wr.heap.size, 0, none⟩ = some (.int .i64 0) := za hb5 (newe0 wr _ _ _); have q1 : w5.cell? ⟨wr.heap.size, 1, none⟩ = some (.slice none 0 0) := za hb5 (newe1 wr _ _ _); have r0 : w5.frozen? ⟨wr.heap.size, 0, none⟩ = false := (hb5.frozen (p := ⟨wr.heap.size, 0, none⟩) (newez wr _ _ _)).trans (newef wr _ _ _ 0); have r1 : w5.frozen? ⟨wr.heap.size, 1, none⟩ = false := (hb5.frozen (p := ⟨wr.heap.size, 1, none⟩) (newez wr _ _ _)).trans (newef wr _ _ _ 1)) | skip)))
        ·rename_i hS
         have HBS := zvr (And.left hS)
         have HIV := zvr (Itvs.below hu5 ((zvu w5.heap.size w5).alloc (zvt _) (.cells #[.int .i64 n, .slice p5 (V.opL n V.orF acc y).length q5] 32)))
         exact zwq
        ·rename_i hS
         have HBS := zvr (And.left hS)
         have HIV := zvr (Itvs.set2 (b := wr.heap.size) (x := .int .i64 n) (y := .slice p5 (V.opL n V.orF acc y).length q5) hu5 (fun c hc => by have h1 := how5 c hc; simp at h1; omega))
         exact zwq
       ·have HOP : Hid (V.opP V.orF n acc n y = (0, [], 3)) := zvr (by rw [HOPF.out, if_pos HCH.out]; unfold V.limP; rw [if_neg h32])
        have HR : Hid (V.parP n s = (0, [], 3)) := zvr (HUX.out (by rw [HE.out, HNX.out, if_neg h32]))
        clear h32
        go_wp2_with fail
        go_region_held3 (fun W' => Below wr.heap.size wr W' /\ W'.cell? ⟨wo.heap.size, 0, none⟩ = some (.int .i64 n) /\ W'.cell? ⟨wo.heap.size, 1, none⟩ = some (.slice p acc.length q) /\ W'.cell? ⟨g, k * 2, none⟩ = some (.int .i64 n) /\ W'.cell? ⟨g, k * 2 + 1, none⟩ = some (.slice p2 y.length q2))
         (first
           | (go_split_ands; exact ⟨Below.trans (by assumption) (hb5.mono (Below.size (by assumption))), zvx hb5, zvx hb5, zvx hb5, zvx hb5⟩)
           | (exact ⟨(zvu _ _).drew, x0, x1, c0, c1⟩)
           | (exact ⟨xe hQ5 _ _, za (xe hQ5 _ _) x0, za (xe hQ5 _ _) x1, za (xe hQ5 _ _) c0, za (xe hQ5 _ _) c1⟩)
           | (exact (fun hz : Below w5.heap.size w5 _ => ⟨hQ5.trans (hz.mono hQ5.size), za hz e0, za hz e1, za hz e2, za hz e3⟩) ((zvu _ _).alloc (zvt _) _))
           | (go_split_ands; refine ⟨Below.alloc (by assumption) (Below.size (by assumption)) _, ?_, ?_, ?_, ?_⟩ <;> go_keep)
           | (go_split_ands; refine ⟨Below.setCell (Below.setCell (by assumption) (zvt _) _) (zvt _) _, ?_, ?_, ?_, ?_⟩ <;> go_keep)
           | go_keep)
         (first | (go_at_call 73; refine (zhb n n (.slice p acc.length q) (.slice p2 y.length q2) acc y _ (HM.out.below (HBYW.out.trans (Below.mono (B := wr.heap.size) (by first | assumption | exact And.left (by assumption)) HBYW.out.size))) (HSET.out.below (by first | assumption | exact And.left (by assumption))) (HITV.out.below (by first | assumption | exact And.left (by assumption))) (ul HOK.out) (ul HON.out.ok) HLA.out HLY.out).mono ?_; rintro e w5 ⟨u5, rfl, hu5, how5, hb5⟩; rw [HOP.out] at hu5 ⊢; simp only at hu5 ⊢; obtain ⟨p5, q5, rfl⟩ := hu5.slice; unfold setV; have hQ5 : Below wr.heap.size wr w5 := Below.trans (by first | assumption | exact And.left (by assumption)) (hb5.mono (Below.size (B := wr.heap.size) (w := wr) (by first | assumption | exact And.left (by assumption)))); have e0 := za hQ5 x0; have e1 := za hQ5 x1; have e2 := za hQ5 c0; have e3 := za hQ5 c1; (first | (have q0 : w5.cell? ⟨wr.heap.size, 0, none⟩ = some (.int .i64 0) := za hb5 (newd0 wr _ _ _); have q1 : w5.cell? ⟨wr.heap.size, 1, none⟩ = some (.slice none 0 0) := za hb5 (newd1 wr _ _ _); have r0 : w5.frozen? ⟨wr.heap.size, 0, none⟩ = false := (hb5.frozen (p := ⟨wr.heap.size, 0, none⟩) (newdz wr _ _ _)).trans (newdf wr _ _ _ 0); have r1 : w5.frozen? ⟨wr.heap.size, 1, none⟩ = false := (hb5.frozen (p := ⟨wr.heap.size, 1, none⟩) (newdz wr _ _ _)).trans (newdf wr _ _ _ 1)) | (have q0 : w5.cell? ⟨wr.heap.size, 0, none⟩ = some (.int .i64 0) := za hb5 (newe0 wr _ _ _); have q1 : w5.cell? ⟨wr.heap.size, 1, none⟩ = some (.slice none 0 0) := za hb5 (newe1 wr _ _ _); have r0 : w5.frozen? ⟨wr.heap.size, 0, none⟩ = false := (hb5.frozen (p := ⟨wr.heap.size, 0, none⟩) (newez wr _ _ _)).trans (newef wr _ _ _ 0); have r1 : w5.frozen? ⟨wr.heap.size, 1, none⟩ = false := (hb5.frozen (p := ⟨wr.heap.size, 1, none⟩) (newez wr _ _ _)).trans (newef wr _ _ _ 1)) | skip)))
        all_goals
         rename_i hS
         have HBS := zvr (And.left hS)
         clear hS hb5 hQ5 e0 e1 e2 e3 hu5 how5 x0 x1 c0 c1
         go_wp2_with (first | (refine zi rfl 32 _ _ rfl w.heap.size #[.int .i64 0, .slice none 0 0] _ (xh HBS.out KR1.out) rfl #[.int .i64 0, .slice none 0 0] rfl rfl (by kernel_rfl) (zt _ _ _ _) ?_; intro W7 hp7; have z0 : W7.cell? ⟨w.heap.size, 0, none⟩ = some (.int .i64 0) := zvq hp7.here 0; have z1 : W7.cell? ⟨w.heap.size, 1, none⟩ = some (.slice none 0 0) := zvq hp7.here 1) | fail)
         have HB7 := zvr (hp7.below (HBYW.out.trans (HBS.out.mono HBYW.out.size)) (zvt _))
         clear hp7
         exact bodyPost_ret (v := .tuple #[.agg #[.int .i64 0, .slice none 0 0], .int .i64 3]) (by simp [results, Tryz.results46, go_sem, z0, z1]) rfl (by rw [HR.out]; exact jn.zero HB7.out _)
      ·obtain rfl : k = xs.length := by omega
       have HR : Hid (V.parP n s = (n, acc, 0)) := zvr (HUY.out acc (by rw [HE.out, List.drop_length]; rfl))
       have hnl : ¬ (xs.length : Int) < (us.length : Int) := by have := HXL.out; omega
       have hnl2 : ¬ xs.length < us.length := by have := HXL.out; omega
       clear hby
       go_wp2_with (first
         | (refine zi rfl 32 _ _ rfl w.heap.size #[.int .i64 0, .slice none 0 0] _ KR1.out rfl #[.int .i64 n, .slice p acc.length q] rfl rfl (by kernel_rfl) (zt _ _ _ _) ?_; intro W7 hp7; have z0 : W7.cell? ⟨w.heap.size, 0, none⟩ = some (.int .i64 n) := zvq hp7.here 0; have z1 : W7.cell? ⟨w.heap.size, 1, none⟩ = some (.slice p acc.length q) := zvq hp7.here 1)
         | fail)
       have HB7 := zvr (hp7.below HBYW.out (zvt _))
       have HI7 := zvr (hp7.itvs HSET.out (fun c hc => by have := HOWN.out c hc; have := HZB.out; omega))
       clear hp7
       exact bodyPost_ret (v := .tuple #[.agg #[.int .i64 n, .slice p acc.length q], .int .i64 0]) (by simp [results, Tryz.results46, go_sem, z0, z1]) rfl (by rw [HR.out]; exact ⟨_, rfl, HI7.out, (fun c hc => by have := HOWN.out c hc; have := HZB.out; omega), HB7.out⟩)
  ·have HR := zvr (V.zmy HSC.out hlong)
   have hq : 8192 < S.size := by omega
   have hq2 : (8192 : Int) < (S.size : Int) := by omega
   clear hlong
   go_wp2_with (first | (refine zi rfl 32 _ _ rfl w.heap.size #[.int .i64 0, .slice none 0 0] _ K0.out rfl #[.int .i64 0, .slice none 0 0] rfl rfl (by kernel_rfl) (zt _ _ _ _) ?_; intro W2 hp2; have z0 : W2.cell? ⟨w.heap.size, 0, none⟩ = some (.int .i64 0) := zvq hp2.here 0; have z1 : W2.cell? ⟨w.heap.size, 1, none⟩ = some (.slice none 0 0) := zvq hp2.here 1) | fail)
   have HBF := zvr (hp2.below HB0.out (zvt _))
   clear hp2
   exact bodyPost_ret (v := .tuple #[.agg #[.int .i64 0, .slice none 0 0], .int .i64 3]) (by simp [results, Tryz.results46, go_sem, z0, z1]) rfl (by rw [HR.out]; exact jn.zero HBF.out _)
theorem zg.tape {w w' : World} {b k : Nat} (hm : zg w) (ht : Tape w b k) (hg : w.grownBy w' (some b)) : zg w' := by
 obtain ⟨m, hm⟩ := hm
 obtain ⟨a, n, cap, p, c0, _⟩ := ht
 exact ⟨m, hg.cell hm (fun e => by cases e; rw [c0] at hm; cases hm)⟩
theorem zeq {w w6 W7 : World} {b g : Nat} (h : w.grownBy w6 (some b)) (k : w6.grownBy W7 (some g)) (hg : w.heap.size ≤ g) : w.grownBy W7 (some b) :=
 ⟨k.os.trans h.os, k.tape.trans h.tape, k.output.trans h.output, Nat.le_trans h.size k.size, fun i hi hr => (k.block i (Nat.lt_of_lt_of_le hi h.size) (by intro e; cases e; omega)).trans (h.block i hi hr)⟩
def RngPost (b k : Nat) (n : Int) (w : World) (e : Ending) (w' : World) : Prop :=
 ∃ u l, e = .returned (setV n u) /\ Itvs w' u l /\ V.okR n l = true /\ 1 ≤ l.length /\ (∀ c, u.ownBlock = some c -> w.heap.size ≤ c) /\ Tape w' b (k + 3) /\ w.grownBy w' (some b)
def rngL (s t : ByteArray) : List ByteArray := [⟨#[42]⟩, (⟨#[62, 61]⟩ : ByteArray) ++ s, (⟨#[60]⟩ : ByteArray) ++ s, (⟨#[61]⟩ : ByteArray) ++ s, (⟨#[62]⟩ : ByteArray) ++ s ++ ⟨#[32, 60, 61]⟩ ++ t, (⟨#[60]⟩ : ByteArray) ++ s ++ ⟨#[32, 124, 124, 32, 62, 61]⟩ ++ t, (⟨#[60, 61]⟩ : ByteArray) ++ s]
theorem rngL_len {s t : ByteArray} (hs : s.size ≤ 64) (ht : t.size ≤ 64) : ∀ x ∈ (rngL s t).map (·.data.toList), x.length ≤ 200 := by
 intro x hx
 obtain ⟨y, hy, rfl⟩ := List.mem_map.1 hx
 have hz : y.size ≤ 200 := by
  simp only [rngL, List.mem_cons, List.not_mem_nil, or_false] at hy
  rcases hy with rfl | rfl | rfl | rfl | rfl | rfl | rfl
  ·decide
  ·rw [ByteArray.size_append]; show 2 + s.size ≤ 200; omega
  ·rw [ByteArray.size_append]; show 1 + s.size ≤ 200; omega
  ·rw [ByteArray.size_append]; show 1 + s.size ≤ 200; omega
  ·rw [ByteArray.size_append, ByteArray.size_append, ByteArray.size_append]; show 1 + s.size + 3 + t.size ≤ 200; omega
  ·rw [ByteArray.size_append, ByteArray.size_append, ByteArray.size_append]; show 1 + s.size + 6 + t.size ≤ 200; omega
  ·rw [ByteArray.size_append]; show 2 + s.size ≤ 200; omega
 exact hz
theorem rng_star {n : Int} (h : V.scheme n = true) : V.parP n [42] = (n, [⟨[], 0, [], 0⟩], 0) := by
 have hs : n = 1 ∨ n = 2 ∨ n = 3 := by unfold V.scheme at h; simpa [or_assoc] using h
 rcases hs with e | e | e <;> subst e
 ·exact (show V.parP 1 [42] = (1, [⟨[], 0, [], 0⟩], 0) by kernel_rfl)
 ·exact (show V.parP 2 [42] = (2, [⟨[], 0, [], 0⟩], 0) by kernel_rfl)
 ·exact (show V.parP 3 [42] = (3, [⟨[], 0, [], 0⟩], 0) by kernel_rfl)
theorem rng_full {n : Int} (h : V.scheme n = true) : V.okR n [⟨[], 0, [], 0⟩] = true := by
 have hs : n = 1 ∨ n = 2 ∨ n = 3 := by unfold V.scheme at h; simpa [or_assoc] using h
 rcases hs with e | e | e <;> subst e
 ·exact (show V.okR 1 [⟨[], 0, [], 0⟩] = true by kernel_rfl)
 ·exact (show V.okR 2 [⟨[], 0, [], 0⟩] = true by kernel_rfl)
 ·exact (show V.okR 3 [⟨[], 0, [], 0⟩] = true by kernel_rfl)
theorem zq3 (n : Int) (s : V.Bs) : V.xr n s ≠ (none, 0) := by
 unfold V.xr
 repeat' split
 all_goals (intro h; simp at h)
theorem parP_okR {n : Int} {s : V.Bs} {rs : Int} {l : List V.Itv} (h : V.parP n s = (rs, l, 0)) : rs = n /\ V.okR n l = true := by
 unfold V.parP at h
 split at h
 ·rename_i l' c hq
  cases h
  exact ⟨rfl, V.of_ok (V.zji (by rw [hq])).1⟩
 ·rename_i c hq
  cases h
  exact absurd hq (zq3 _ _)
theorem zkn (b k : Nat) (n : Int) (w : World) (hm : zg w) (h : Tape w b k) (hk : k ≤ 900000) (hn : V.scheme n = true) :
  Calls Tryz.prog 23 #[.pointer (some ⟨b, 0, none⟩), .int .i64 n] w (RngPost b k n w) := by
 have hb0 : Below w.heap.size w (w.alloc (.cells #[.int .i64 0, .slice none 0 0] 32)) := (zvu _ w).alloc (zvt _) _
 have HM0 := zvr (hm.below hb0)
 have HT0 := zvr (h.below hb0)
 have HK0 : Hid ((w.alloc (.cells #[.int .i64 0, .slice none 0 0] 32)).heap[w.heap.size]? = some (.cells #[.int .i64 0, .slice none 0 0] 32 (0, 0))) := zvr (heap_alloc_new w _)
 have HGW := zvr (qp hb0 (some b))
 have HBW := zvr h.lt
 have HN := zvr hn
 have hz0 : (w.alloc (.cells #[.int .i64 0, .slice none 0 0] 32)).heap.size = w.heap.size + 1 := by simp
 have HZ0 := zvr hz0
 clear hb0 hm h hn hz0
 go_enter Tryz.func23, Tryz.ntmps23
 go_wp2_with fail
 generalize w.alloc (.cells #[.int .i64 0, .slice none 0 0] 32) = w0 at *
 refine (zhw b k n w0 HT0.out (by omega) HN.out).mono ?_
 rintro e w1 ⟨xa, ha, rfl, ht1, hg1⟩
 have HM1 := zvr (HM0.out.tape HT0.out hg1)
 have HT1 := zvr ht1
 have HG1 := zvr hg1
 clear ht1 hg1
 go_wp2_with fail
 refine (zhw b (k + 1) n w1 HT1.out (by omega) HN.out).mono ?_
 rintro e w2 ⟨xb, hb, rfl, ht2, hg2⟩
 have HM2 := zvr (HM1.out.tape HT1.out hg2)
 have HT2 := zvr ht2
 have HG2 := zvr (HG1.out.trans hg2)
 have hsa : (⟨xa.toArray⟩ : ByteArray).size ≤ 64 := by simpa [ByteArray.size] using (V.valid_len ha).2
 have hsb : (⟨xb.toArray⟩ : ByteArray).size ≤ 64 := by simpa [ByteArray.size] using (V.valid_len hb).2
 clear ht2 hg2 ha hb HM0 HT0 HM1 HT1 HG1
 generalize (⟨xa.toArray⟩ : ByteArray) = s at *
 generalize (⟨xb.toArray⟩ : ByteArray) = t at *
 have q1 : ¬ (9223372036854775807 < 2 + s.size) := by omega
 have q2 : ¬ (9223372036854775807 < 1 + s.size) := by omega
 have q3 : ¬ (9223372036854775807 < 1 + s.size + 3) := by omega
 have q4 : ¬ (9223372036854775807 < 1 + s.size + 3 + t.size) := by omega
 have q5 : ¬ (9223372036854775807 < 1 + s.size + 6) := by omega
 have q6 : ¬ (9223372036854775807 < 1 + s.size + 6 + t.size) := by omega
 have HL := zvr (rngL_len hsa hsb)
 have hz2 : w.heap.size + 1 ≤ w2.heap.size := by have := HG2.out.size; have := HZ0.out; omega
 go_wp2_with fail
 clear q1 q2 q3 q4 q5 q6 hsa hsb
 have hb3 : Below w2.heap.size w2 (w2.alloc (.cells #[.string (⟨#[42]⟩), .string ((⟨#[62, 61]⟩ : ByteArray) ++ s), .string ((⟨#[60]⟩ : ByteArray) ++ s), .string ((⟨#[61]⟩ : ByteArray) ++ s), .string ((⟨#[62]⟩ : ByteArray) ++ s ++ ⟨#[32, 60, 61]⟩ ++ t), .string ((⟨#[60]⟩ : ByteArray) ++ s ++ ⟨#[32, 124, 124, 32, 62, 61]⟩ ++ t), .string ((⟨#[60, 61]⟩ : ByteArray) ++ s)] 9)) := (zvu _ w2).alloc (zvt _) _
 have HM3 := zvr (HM2.out.below hb3)
 have HT3 := zvr (HT2.out.below hb3)
 have HG3 := zvr (HG2.out.trans (qp hb3 (some b)))
 refine (zcd b (k + 2) (w2.alloc (.cells #[.string (⟨#[42]⟩), .string ((⟨#[62, 61]⟩ : ByteArray) ++ s), .string ((⟨#[60]⟩ : ByteArray) ++ s), .string ((⟨#[61]⟩ : ByteArray) ++ s), .string ((⟨#[62]⟩ : ByteArray) ++ s ++ ⟨#[32, 60, 61]⟩ ++ t), .string ((⟨#[60]⟩ : ByteArray) ++ s ++ ⟨#[32, 124, 124, 32, 62, 61]⟩ ++ t), .string ((⟨#[60, 61]⟩ : ByteArray) ++ s)] 9)) ⟨w2.heap.size, 0, none⟩ 7 ((rngL s t).map (·.data.toList)) HT3.out (by omega) (by simp [rngL]) (by simp [rngL]) (by have := HT2.out.lt; simp; omega) rfl (fun j hj => by
   rw [World.cell?_alloc_new, Nat.zero_add]
   have h7 : j = 0 ∨ j = 1 ∨ j = 2 ∨ j = 3 ∨ j = 4 ∨ j = 5 ∨ j = 6 := by simp [rngL] at hj; omega
   rcases h7 with rfl | rfl | rfl | rfl | rfl | rfl | rfl <;> rfl)).mono ?_
 rintro e w4 ⟨x, hx, rfl, ht4, hg4⟩
 have HX := zvr (HL.out x hx)
 have HM4 := zvr (HM3.out.tape HT3.out hg4)
 have HT4 := zvr ht4
 have HG4 := zvr (HG3.out.trans hg4)
 have hz4 : w.heap.size + 1 ≤ w4.heap.size := by have := hg4.size; have := hb3.size; omega
 clear hb3 hx ht4 hg4 HM2 HT2 HG2 HM3 HT3 HG3 HL hz2
 go_wp2_with fail
 refine (zh0 n x w4 HM4.out (by have := HX.out; unfold maxLen; omega)).mono ?_
 rintro e w5 ⟨u5, rfl, hu5, how5, hb5⟩
 obtain ⟨⟨rs, its, ec⟩, hpp⟩ : ∃ p, V.parP n x = p := ⟨_, rfl⟩
 rw [hpp] at hu5 ⊢
 simp only at hu5 ⊢
 have HPP := zvr hpp
 obtain ⟨p5, c5, rfl⟩ := hu5.slice
 have hb6 : Below w4.heap.size w4 (w5.alloc (.cells #[.int .i64 rs, .slice p5 its.length c5] 32)) := hb5.alloc hb5.size _
 have HM6 := zvr (HM4.out.below hb6)
 have HT6 := zvr (HT4.out.below hb6)
 have HG06 := zvr (HG4.out.trans (qp hb6 (some b)))
 have HI6 := zvr (hu5.below ((zvu _ w5).alloc (zvt _) (.cells #[.int .i64 rs, .slice p5 its.length c5] 32)))
 have HO6 : Hid (∀ c, (Value.slice p5 its.length c5).ownBlock = some c -> w4.heap.size ≤ c) := zvr how5
 have HC6 : Hid ((w5.alloc (.cells #[.int .i64 rs, .slice p5 its.length c5] 32)).heap[w5.heap.size]? = some (.cells #[.int .i64 rs, .slice p5 its.length c5] 32 (0, 0))) := zvr (heap_alloc_new w5 _)
 have hz5 : w4.heap.size ≤ w5.heap.size := hb5.size
 have hz6 : (w5.alloc (.cells #[.int .i64 rs, .slice p5 its.length c5] 32)).heap.size = w5.heap.size + 1 := by simp
 clear hpp hu5 how5 hb5 hb6 HM4 HT4 HG4
 obtain ⟨s0, s1⟩ := zbh HC6.out
 unfold setV
 have HKW := zvr ((HG06.out.block _ (by have := HZ0.out; omega) (by intro e; cases e; have := HBW.out; omega)).trans HK0.out)
 have HXW : Hid (w4.heap.size ≤ w5.heap.size /\ w.heap.size + 1 ≤ w4.heap.size /\ (w5.alloc (.cells #[.int .i64 rs, .slice p5 its.length c5] 32)).heap.size = w5.heap.size + 1) := zvr ⟨hz5, hz4, hz6⟩
 clear hz4 hz5 hz6
 by_cases hgood : ec = 0 /\ its.length ≠ 0
 ·obtain ⟨rfl, h0⟩ := hgood
  have HOKR := zvr (parP_okR HPP.out)
  obtain ⟨hrs, hok⟩ := HOKR.out
  subst hrs
  generalize hmm : its.length = m at *
  have HMM := zvr hmm
  have H0 := zvr h0
  have q1 : ((m : Int) == 0) = false := by rw [zvv]; omega
  have q2 : ¬ (m : Int) = 0 := by omega
  have q3 : ¬ m = 0 := h0
  have HOKI := zvr hok
  clear hmm h0 hok
  go_wp2_with (first | (refine zi rfl 32 _ _ rfl w.heap.size #[.int .i64 0, .slice none 0 0] _ HKW.out rfl #[.int .i64 rs, .slice p5 m c5] rfl rfl (by kernel_rfl) (zt _ _ _ _) ?_
                        intro W7 hp7
                        have HP7 := zvr hp7
                        obtain ⟨z0, z1⟩ := zbh hp7.here
                        clear hp7) | fail)
  refine bodyPost_ret (v := .agg #[.int .i64 rs, .slice p5 m c5]) (by simp [results, Tryz.results23, go_sem, z0, z1]) rfl ?_
  exact ⟨_, its, rfl, HP7.out.itvs HI6.out (fun c hc => by have := HO6.out c hc; have := HXW.out; omega), HOKI.out, by have := HMM.out; have := H0.out; omega, fun c hc => by have := HO6.out c hc; have := HXW.out; omega, HT6.out.grown HP7.out.grown (by intro e; cases e; have := HBW.out; omega) (by intro c e; cases e; exact HBW.out), zeq (HGW.out.trans HG06.out) HP7.out.grown (zvt _)⟩
 ·have HNG := zvr hgood
  have hcase : (ec != 0) = true ∨ (ec = 0 /\ its = []) := by
   by_cases he : ec = 0
   ·refine .inr ⟨he, ?_⟩
    by_cases hl : its.length = 0
    ·exact List.eq_nil_of_length_eq_zero hl
    ·exact absurd ⟨he, hl⟩ hgood
   ·exact .inl (by simpa using he)
  clear hgood
  rcases hcase with hcb | ⟨rfl, rfl⟩
  all_goals
   go_wp2_with fail
   generalize w5.alloc (.cells #[.int .i64 rs, .slice p5 _ c5] 32) = w6 at *
   generalize w5.heap.size = X at *
   refine (zh0 n [42] w6 HM6.out (by decide)).mono ?_
   rintro e w8 ⟨u8, rfl, hu8, how8, hb8⟩
   rw [rng_star HN.out] at hu8 ⊢
   simp only at hu8 ⊢
   obtain ⟨p8, c8, rfl⟩ := hu8.slice
   have HT8 := zvr (HT6.out.below hb8)
   have HC8 := zvr ((hb8.block X (by have := HXW.out; omega)).trans HC6.out)
   have HK8 := zvr ((hb8.block w.heap.size (by have := HXW.out; omega)).trans HKW.out)
   have HG8 := zvr (HG06.out.trans (qp hb8 (some b)))
   have HI8 := zvr hu8
   have HO8 : Hid (∀ c, (Value.slice p8 1 c8).ownBlock = some c -> w6.heap.size ≤ c) := zvr how8
   clear hu8 how8 hb8 s0 s1
   unfold setV
   go_wp2_with (first | (refine zi rfl 32 _ _ rfl X _ _ HC8.out rfl #[.int .i64 n, .slice p8 1 c8] rfl rfl (by kernel_rfl) (zt _ _ _ _) ?_
                         intro W9 hp9
                         obtain ⟨s0, s1⟩ := zbh hp9.here
                         have HP9 := zvr hp9
                         have HK9 := zvr ((hp9.grown.block w.heap.size (Array.getElem?_eq_some_iff.1 HK8.out).1 (by intro e; cases e; have := HXW.out; omega)).trans HK8.out)
                         clear hp9)
                      | (refine zi rfl 32 _ _ rfl w.heap.size #[.int .i64 0, .slice none 0 0] _ HK9.out rfl #[.int .i64 n, .slice p8 1 c8] rfl rfl (by kernel_rfl) (zt _ _ _ _) ?_
                         intro W7 hp7
                         have HP7 := zvr hp7
                         obtain ⟨z0, z1⟩ := zbh hp7.here
                         clear hp7) | fail)
   refine bodyPost_ret (v := .agg #[.int .i64 n, .slice p8 1 c8]) (by simp [results, Tryz.results23, go_sem, z0, z1]) rfl ?_
   refine ⟨_, [⟨[], 0, [], 0⟩], rfl, HP7.out.itvs (HP9.out.itvs HI8.out (fun c hc => by have := HO8.out c hc; have := HXW.out; omega)) (fun c hc => by have := HO8.out c hc; have := HXW.out; omega), rng_full HN.out, by decide, fun c hc => by have := HO8.out c hc; have := HXW.out; omega, ?_, zeq (zeq (HGW.out.trans HG8.out) HP9.out.grown (by have := HXW.out; omega)) HP7.out.grown (zvt _)⟩
   exact (HT8.out.grown HP9.out.grown (by intro e; cases e; have := HBW.out; have := HXW.out; omega) (by intro c e; cases e; have := HBW.out; have := HXW.out; omega)).grown HP7.out.grown (by intro e; cases e; have := HBW.out; omega) (by intro c e; cases e; exact HBW.out)
end Go.Proofs.YtiloljoancdcbaaGreatDoor
