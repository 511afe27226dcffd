/-
  Lemmas for the law.
-/
import Derived.Test.YtiloljoancdcbaaGreatDoorC40x39
import Derived.Deep.RegionHeld3
import Derived.Outline
set_option linter.all false
set_option maxRecDepth 100000
set_option maxHeartbeats 12800000
namespace Go.Proofs.YtiloljoancdcbaaGreatDoor
open Go.RowKit
theorem Itvs.set2 {w : World} {u : Value} {l : List V.Itv} {b : Nat} {x y : Value} (h : Itvs w u l) (hs : ∀ c, u.ownBlock = some c -> c ≠ b) : Itvs ((w.setCell ⟨b, 0, none⟩ x).setCell ⟨b, 1, none⟩ y) u l := by
 have g : ∀ (W : World) (o : Nat) (z : Value), W.grownBy (W.setCell ⟨b, o, none⟩ z) (some b) := fun W o z => ⟨rfl, rfl, rfl, by simp [World.setCell], fun k _ hk => Below.heap_setCell _ _ _ _ (fun e => hk (by rw [e]))⟩
 exact (h.grown (g _ _ _) (fun _ c hc e => hs c hc (Option.some.inj e).symm)).grown (g _ _ _) (fun _ c hc e => hs c hc (Option.some.inj e).symm)
theorem xf {w w5 : World} (h : Below w.heap.size w w5) (a b : Value) : Below w.heap.size w ((w5.setCell ⟨w.heap.size, 0, none⟩ a).setCell ⟨w.heap.size, 1, none⟩ b) := (h.setCell (zvs _) _).setCell (zvs _) _
theorem newd0 (w : World) (a b : Value) (t : TypeId) : (w.drew.alloc (.cells #[a, b] t)).cell? ⟨w.heap.size, 0, none⟩ = some a := by simp [ze]
theorem newd1 (w : World) (a b : Value) (t : TypeId) : (w.drew.alloc (.cells #[a, b] t)).cell? ⟨w.heap.size, 1, none⟩ = some b := by simp [ze]
theorem newdz (w : World) (a b : Value) (t : TypeId) : w.heap.size < (w.drew.alloc (.cells #[a, b] t)).heap.size := by simp
theorem newdf (w : World) (a b : Value) (t : TypeId) (i : Nat) : (w.drew.alloc (.cells #[a, b] t)).frozen? ⟨w.heap.size, i, none⟩ = false := by simp [zz]
theorem zw9 {P : Prop} (h : P := by
 have HOW5 := zvq (fun c hc => by have h1 := how5 c hc; have h3 := HZR.out; simp at h1; exact (show wo.heap.size < c by omega))
 clear hS hb5 hQ5 e0 e1 e2 e3 hu5 how5 x0 x1 c0 c1
 go_wp2_with (first | (refine zi rfl 32 _ _ rfl wo.heap.size _ _ (kr HBS.out HBOX.out) rfl #[.int .i64 n, .slice p5 (V.opL n V.orF acc y).length q5] rfl rfl (by kernel_rfl) (zt _ _ _ _) ?_; intro W6 hp6) | fail)
 have H6 := zvq hp6.here
 have HI6 := zvq (hp6.itvs HIV.out (fun c hc => by have := HOW5.out c hc; omega))
 have HB6 := zvq (hp6.below (HBY.out.trans (HBS.out.mono HBY.out.size)) (zvs _))
 clear hp6
 go_roundw
 case rel => exact ⟨k + 1, _, _, by omega, by go_num, HEQ.out, HOK5.out, H6.out, HI6.out, HOW5.out, HB6.out⟩
 case measure => simp [intOf]; omega) : P := h
theorem zd0 (n : Int) (s : V.Bs) (w : World) (hm : zg w) (hs : s.length ≤ maxLen) :
  Calls Tryz.prog 46 #[.int .i64 n, .string ⟨s.toArray⟩] w (js (V.parP n s) w) := by
 have HM := zvq hm
 have hsz : (ByteArray.mk s.toArray).size = s.length := by simp [ByteArray.size]
 have HSD : Hid ((ByteArray.mk s.toArray).data.toList = s) := zvq rfl
 have hb0 : Below w.heap.size w (w.alloc (.cells #[.int .i64 0, .slice none 0 0] 32)) := (zvt _ w).alloc (zvs _) _
 have K0 : Hid ((w.alloc (.cells #[.int .i64 0, .slice none 0 0] 32)).heap[w.heap.size]? = some (.cells #[.int .i64 0, .slice none 0 0] 32 (0, 0))) := zvq (by rw [heap_alloc, if_pos rfl])
 have HB0 := zvq hb0
 have HZ0 : Hid ((w.alloc (.cells #[.int .i64 0, .slice none 0 0] 32)).heap.size = w.heap.size + 1) := zvq (by simp)
 unfold maxLen at hs
 clear hb0 hm
 generalize (ByteArray.mk s.toArray) = S at *
 go_enter Tryz.func46, Tryz.ntmps46
 go_wp2_with fail
 generalize w.alloc (.cells #[.int .i64 0, .slice none 0 0] 32) = w0 at *
 refine (zb9 n w0).mono ?_
 rintro e w' ⟨rfl, rfl⟩
 rcases hsc : V.scheme n with _ | _
 ·have HR := zvq (V.zhy (s := s) hsc)
  clear hsc
  go_wp2_with (first | (refine zi rfl 32 _ _ rfl w.heap.size #[.int .i64 0, .slice none 0 0] _ K0.out rfl #[.int .i64 0, .slice none 0 0] rfl rfl (by kernel_rfl) (zt _ _ _ _) ?_; intro W2 hp2; have z0 : W2.cell? ⟨w.heap.size, 0, none⟩ = some (.int .i64 0) := zvp hp2.here 0; have z1 : W2.cell? ⟨w.heap.size, 1, none⟩ = some (.slice none 0 0) := zvp hp2.here 1) | fail)
  have HBF := zvq (hp2.below HB0.out (zvs _))
  clear hp2
  exact bodyPost_ret (v := .tuple #[.agg #[.int .i64 0, .slice none 0 0], .int .i64 14]) (by simp [results, Tryz.results46, go_sem, z0, z1]) rfl (by rw [HR.out]; exact js.zero HBF.out _)
 ·have HSC := zvq hsc
  clear hsc
  by_cases hlong : s.length ≤ 8192
  ·have HL := zvq hlong
   have hq : ¬ 8192 < S.size := by omega
   have hq2 : ¬ (8192 : Int) < (S.size : Int) := by omega
   have HS : Hid (S.size < 4294967281) := zvq (by omega)
   have HPL : Hid (∀ x ∈ Lib.split s V.orT, x.length ≤ 100000) := zvq (fun x hx => by
     have := zhf V.orT _ s x hx
     omega)
   have HLL : Hid ((Lib.split s V.orT).length ≤ 10000) := zvq (by have := zhw s; omega)
   have HAN : Hid (V.xt n (Lib.split s V.orT) = none -> V.parP n s = (0, [], 2)) := zvq (fun h => V.zm9 HSC.out HL.out h)
   have HUN : Hid (∀ xs, V.xt n (Lib.split s V.orT) = some xs -> V.ja n [] xs = none -> V.parP n s = (0, [], 3)) := zvq (fun xs h g => V.zj8 HSC.out HL.out h g)
   have HUS : Hid (∀ xs l, V.xt n (Lib.split s V.orT) = some xs -> V.ja n [] xs = some l -> V.parP n s = (n, l, 0)) := zvq (fun xs l h g => V.ztz HSC.out HL.out h g)
   clear hlong hs hsz
   go_wp2_with fail
   refine (zik S w0 (HM.out.below HB0.out) HS.out).mono ?_
   rintro e W0 ⟨rfl, hW0⟩
   rw [HSD.out] at hW0 ⊢
   have hb1 : Below w0.heap.size w0 W0 := by rw [hW0]; exact (zvt _ _).alloc (zvs _) _
   have HB1 := zvr HB0 hb1
   have K1 := zvq (kr hb1 K0.out)
   have hz0 : w0.heap.size = w.heap.size + 1 := HZ0.out
   have HTX : Hid (∀ j (h : j < (Lib.split s V.orT).length), W0.cell? ⟨w.heap.size + 1, j, none⟩ = some (.string ⟨(Lib.split s V.orT)[j].toArray⟩)) := zvq (fun j hj => by
     rw [hW0, ← hz0, World.cell?_alloc_new]; exact yj _ j hj)
   have HZ1 : Hid (W0.heap.size = w.heap.size + 2) := zvq (by rw [hW0]; simp; omega)
   clear hb1 hW0
   rw [hz0]
   clear hz0
   have hll : (Lib.split s V.orT).length ≤ 10000 := HLL.out
   have HA0 := zvq (V.zhu n (Lib.split s V.orT))
   generalize Lib.split s V.orT = P at *
   go_wp2_with fail
   go_loopw [7, 8] (fun v iv wx => ∃ (k : Nat) (us : List Sl) (xs : List (List V.Itv)), k ≤ P.length /\ iv = .int .i64 k /\ us.length = k /\ V.zbo n P k xs /\ SetRow n W0.heap.size wx v us xs /\ Below W0.heap.size W0 wx) (fun _ iv _ => P.length - (intOf iv).toNat)
   case atStart => exact ⟨0, [], [], Nat.zero_le _, rfl, rfl, HA0.out, SetRow.nil _ _ _, zvt _ _⟩
   case round =>
    obtain ⟨k, us, xs, hk, rfl, hku, hto, hrow, hbx⟩ := hrel
    have HTO := zvq hto
    have HROW := zvq hrow
    have HKU := zvq hku
    have HBX := zvq hbx
    have HBF := zvr HB1 hbx
    have KR := zvq (kr (hbx.mono (zvs _)) K1.out)
    clear hto hrow hku hbx
    by_cases hlt : k < P.length
    ·have hc := za HBX.out (HTX.out k hlt)
     have hi1 : (0 : Int) ≤ (k : Int) := by omega
     have hi2 : (k : Int) < (P.length : Int) := by omega
     have HLX := zvq (HPL.out _ (List.getElem_mem hlt))
     have HST := zvq (fun (y : List V.Itv) hy => V.zh4 (x := y) HTO.out hlt hy)
     have HNO := zvq (fun hy => V.zh8 HTO.out hlt hy)
     generalize P[k] = x at *
     go_wp2_with fail
     refine (zge n x wr (HM.out.below HBF.out) HSC.out HLX.out).mono ?_
     rintro e w2 ⟨m2, u, l, b, rfl, hor, hu, how, hb2⟩
     obtain ⟨p, q, rfl⟩ := hu.slice
     have HOR := zvq hor
     have HU := zvq hu
     have HOW := zvq how
     have HB2 := zvq hb2
     have KR2 := zvq (kr hb2 KR.out)
     clear hor hu how hb2 hc
     unfold setV
     have HBY := zvq ((zvt w2.heap.size w2).alloc (zvs _) (.cells #[.int .i64 m2, .slice p l.length q] 32))
     rcases b with _ | _
     ·have HR : Hid (V.parP n s = (0, [], 2)) := zvq (HAN.out (HNO.out (by
        rcases HOR.out with ⟨_, h⟩ | ⟨h, _⟩
        · exact h
        · cases h)))
      go_wp2_with (first | (refine zi rfl 32 _ _ rfl w.heap.size #[.int .i64 0, .slice none 0 0] _ (kr HBY.out KR2.out) rfl #[.int .i64 0, .slice none 0 0] rfl rfl (by kernel_rfl) (zt _ _ _ _) ?_; intro W5 hp5; have z0 : W5.cell? ⟨w.heap.size, 0, none⟩ = some (.int .i64 0) := zvp hp5.here 0; have z1 : W5.cell? ⟨w.heap.size, 1, none⟩ = some (.slice none 0 0) := zvp hp5.here 1) | fail)
      have HB5 := zvq (hp5.below (HBF.out.trans ((HB2.out.trans (HBY.out.mono HB2.out.size)).mono HBF.out.size)) (zvs _))
      clear hp5
      exact bodyPost_ret (v := .tuple #[.agg #[.int .i64 0, .slice none 0 0], .int .i64 2]) (by simp [results, Tryz.results46, go_sem, z0, z1]) rfl (by rw [HR.out]; exact js.zero HB5.out _)
     ·exact zv8
    ·obtain rfl : k = P.length := by omega
     have HAX := zvq (V.zjn HTO.out)
     have HONE := zvq (V.zez HSC.out HAX.out).2
     have HUX := zvq (fun h => HUN.out xs HAX.out h)
     have HUY := zvq (fun l h => HUS.out xs l HAX.out h)
     have HXL : Hid (us.length = xs.length) := zvq HROW.out.len
     obtain ⟨va, vc, rfl⟩ := GRow.slice HROW.out.row
     obtain ⟨wo, rfl⟩ : ∃ wo : World, wo = wr := ⟨_, rfl⟩
     have hulen : us.length ≤ 10000 := by have := HKU.out; omega
     have HX0 : Hid ((wo.alloc (.cells #[.int .i64 n, .slice none 0 0] 32)).heap[wo.heap.size]? = some (.cells #[.int .i64 n, .slice none 0 0] 32 (0, 0))) := zvq (by rw [heap_alloc, if_pos rfl])
     have HBX0 := zvq ((zvt wo.heap.size wo).alloc (zvs _) (.cells #[.int .i64 n, .slice none 0 0] 32))
     have HZB : Hid (w.heap.size < wo.heap.size) := zvq ((Array.getElem?_eq_some_iff.1 KR.out).1)
     go_wp2_with fail
     go_loopw [12] (fun iv wx => ∃ (k : Nat) (acc : List V.Itv) (u : Value), k ≤ xs.length /\ iv = .int .i64 k /\ V.ja n [] xs = V.ja n acc (xs.drop k) /\ V.Ok n acc /\ wx.heap[wo.heap.size]? = some (.cells #[.int .i64 n, u] 32 (0, 0)) /\ Itvs wx u acc /\ (∀ c, u.ownBlock = some c -> wo.heap.size < c) /\ Below wo.heap.size wo wx) (fun iv _ => us.length - (intOf iv).toNat)
     case atStart => exact ⟨0, [], _, Nat.zero_le _, rfl, rfl, V.zd9 HSC.out, HX0.out, Itvs.nil _, (fun c hc => by cases hc), HBX0.out⟩
     case round =>
      obtain ⟨k, acc, u, hk, rfl, heq, hok, hbox, hset, hown, hby⟩ := hrel
      obtain ⟨p, q, rfl⟩ := hset.slice
      have HE := zvq heq
      have HOK := zvq hok
      have HBOX := zvq hbox
      have HSET := zvq hset
      have HOWN := zvq hown
      have HBY := zvq hby
      obtain ⟨x0, x1⟩ := zhi hbox
      have HBYW := zvr HBF hby
      have KR1 := zvq (kr hby KR.out)
      have HZR : Hid (wo.heap.size < wr.heap.size) := zvq ((Array.getElem?_eq_some_iff.1 hbox).1)
      clear heq hok hbox hset hown
      by_cases hlt : k < xs.length
      ·have hlu : k < us.length := by have := HXL.out; omega
       have hrow := HROW.out.later hby
       obtain ⟨g, cap, e, _, _, hcell⟩ := GRow.at (zjd n) hrow.row k hlu
       cases e
       have c0 : wr.cell? ⟨g, k * 2, none⟩ = some (.int .i64 n) := hcell 0 _ rfl
       have c1 : wr.cell? ⟨g, k * 2 + 1, none⟩ = some us[k].v := hcell 1 _ rfl
       have HIT := (hrow.each k hlu hlt).1
       have HON := zvq (HONE.out _ (List.getElem_mem hlt))
       have HNX := zvq (V.zl3 (n := n) (acc := acc) hlt)
       have hi1 : (0 : Int) ≤ (k : Int) := by omega
       have hi2 : (k : Int) < (us.length : Int) := by omega
       clear hrow hcell hby
       generalize us[k].v = uv at *
       generalize xs[k] = y at *
       have HITV := zvq HIT
       obtain ⟨p2, q2, rfl⟩ := HIT.slice
       clear HIT
       have HCH := zvq (V.zpa HOK.out HON.out.ok)
       have HOPF : Hid (V.opP V.orF n acc n y = if V.chkP n acc n y = 0 then V.limP n (V.opL n V.orF acc y) else (0, [], V.chkP n acc n y)) := zvq rfl
       have HLA : Hid (acc.length ≤ maxLen) := zvq (by have := HOK.out.len; unfold maxLen; omega)
       have HLY : Hid (y.length ≤ maxLen) := zvq (by have := HON.out.one; unfold maxLen; omega)
       by_cases h32 : (V.opL n V.orF acc y).length ≤ 32
       ·have HOP : Hid (V.opP V.orF n acc n y = (n, V.opL n V.orF acc y, 0)) := zvq (by rw [HOPF.out, if_pos HCH.out]; unfold V.limP; rw [if_pos h32])
        have HOK5 := zvq (V.zjo V.orF HOK.out HON.out.ok h32)
        have HEQ : Hid (V.ja n [] xs = V.ja n (V.opL n V.orF acc y) (xs.drop (k + 1))) := zvq (by rw [HE.out, HNX.out, if_pos h32])
        clear h32
        go_wp2_with fail
        go_region_held3 (fun W' => Below wr.heap.size wr W' /\ W'.cell? ⟨wo.heap.size, 0, none⟩ = some (.int .i64 n) /\ W'.cell? ⟨wo.heap.size, 1, none⟩ = some (.slice p acc.length q) /\ W'.cell? ⟨g, k * 2, none⟩ = some (.int .i64 n) /\ W'.cell? ⟨g, k * 2 + 1, none⟩ = some (.slice p2 y.length q2))
         (first
           | (go_split_ands; exact ⟨Below.trans (by assumption) (hb5.mono (Below.size (by assumption))), zvw hb5, zvw hb5, zvw hb5, zvw hb5⟩)
           | (exact ⟨(zvt _ _).drew, x0, x1, c0, c1⟩)
           | (exact ⟨xf hQ5 _ _, za (xf hQ5 _ _) x0, za (xf hQ5 _ _) x1, za (xf hQ5 _ _) c0, za (xf hQ5 _ _) c1⟩)
           | (exact (fun hz : Below w5.heap.size w5 _ => ⟨hQ5.trans (hz.mono hQ5.size), za hz e0, za hz e1, za hz e2, za hz e3⟩) ((zvt _ _).alloc (zvs _) _))
           | (go_split_ands; refine ⟨Below.alloc (by assumption) (Below.size (by assumption)) _, ?_, ?_, ?_, ?_⟩ <;> go_keep)
           | (go_split_ands; refine ⟨Below.setCell (Below.setCell (by assumption) (zvs _) _) (zvs _) _, ?_, ?_, ?_, ?_⟩ <;> go_keep)
           | go_keep)
         (first | (go_at_call 73; refine (zhx n n (.slice p acc.length q) (.slice p2 y.length q2) acc y _ (HM.out.below (HBYW.out.trans (Below.mono (B := wr.heap.size) (by first | assumption | exact And.left (by assumption)) HBYW.out.size))) (HSET.out.below (by first | assumption | exact And.left (by assumption))) (HITV.out.below (by first | assumption | exact And.left (by assumption))) (zaf HOK.out) (zaf HON.out.ok) HLA.out HLY.out).mono ?_; rintro e w5 ⟨u5, rfl, hu5, how5, hb5⟩; rw [HOP.out] at hu5 ⊢; simp only at hu5 ⊢; obtain ⟨p5, q5, rfl⟩ := hu5.slice; unfold setV; have hQ5 : Below wr.heap.size wr w5 := Below.trans (by first | assumption | exact And.left (by assumption)) (hb5.mono (Below.size (B := wr.heap.size) (w := wr) (by first | assumption | exact And.left (by assumption)))); have e0 := za hQ5 x0; have e1 := za hQ5 x1; have e2 := za hQ5 c0; have e3 := za hQ5 c1; (first | (have q0 : w5.cell? ⟨wr.heap.size, 0, none⟩ = some (.int .i64 0) := za hb5 (newd0 wr _ _ _); have q1 : w5.cell? ⟨wr.heap.size, 1, none⟩ = some (.slice none 0 0) := za hb5 (newd1 wr _ _ _); have r0 : w5.frozen? ⟨wr.heap.size, 0, none⟩ = false := (hb5.frozen (p := ⟨wr.heap.size, 0, none⟩) (newdz wr _ _ _)).trans (newdf wr _ _ _ 0); have r1 : w5.frozen? ⟨wr.heap.size, 1, none⟩ = false := (hb5.frozen (p := ⟨wr.heap.size, 1, none⟩) (newdz wr _ _ _)).trans (newdf wr _ _ _ 1)) | (have q0 : w5.cell? ⟨wr.heap.size, 0, none⟩ = some (.int .i64 0) := za hb5 (newe0 wr _ _ _); have q1 : w5.cell? ⟨wr.heap.size, 1, none⟩ = some (.slice none 0 0) := za hb5 (newe1 wr _ _ _); have r0 : w5.frozen? ⟨wr.heap.size, 0, none⟩ = false := (hb5.frozen (p := ⟨wr.heap.size, 0, none⟩) (newez wr _ _ _)).trans (newef wr _ _ _ 0); have r1 : w5.frozen? ⟨wr.heap.size, 1, none⟩ = false := (hb5.frozen (p := ⟨wr.heap.size, 1, none⟩) (newez wr _ _ _)).trans (newef wr _ _ _ 1)) | skip)))
        ·rename_i hS
         have HBS := zvq (And.left hS)
         have HIV := zvq (Itvs.below hu5 ((zvt w5.heap.size w5).alloc (zvs _) (.cells #[.int .i64 n, .slice p5 (V.opL n V.orF acc y).length q5] 32)))
         exact zw9
        ·rename_i hS
         have HBS := zvq (And.left hS)
         have HIV := zvq (Itvs.set2 (b := wr.heap.size) (x := .int .i64 n) (y := .slice p5 (V.opL n V.orF acc y).length q5) hu5 (fun c hc => by have h1 := how5 c hc; simp at h1; omega))
         exact zw9
       ·have HOP : Hid (V.opP V.orF n acc n y = (0, [], 3)) := zvq (by rw [HOPF.out, if_pos HCH.out]; unfold V.limP; rw [if_neg h32])
        have HR : Hid (V.parP n s = (0, [], 3)) := zvq (HUX.out (by rw [HE.out, HNX.out, if_neg h32]))
        clear h32
        go_wp2_with fail
        go_region_held3 (fun W' => Below wr.heap.size wr W' /\ W'.cell? ⟨wo.heap.size, 0, none⟩ = some (.int .i64 n) /\ W'.cell? ⟨wo.heap.size, 1, none⟩ = some (.slice p acc.length q) /\ W'.cell? ⟨g, k * 2, none⟩ = some (.int .i64 n) /\ W'.cell? ⟨g, k * 2 + 1, none⟩ = some (.slice p2 y.length q2))
         (first
           | (go_split_ands; exact ⟨Below.trans (by assumption) (hb5.mono (Below.size (by assumption))), zvw hb5, zvw hb5, zvw hb5, zvw hb5⟩)
           | (exact ⟨(zvt _ _).drew, x0, x1, c0, c1⟩)
           | (exact ⟨xf hQ5 _ _, za (xf hQ5 _ _) x0, za (xf hQ5 _ _) x1, za (xf hQ5 _ _) c0, za (xf hQ5 _ _) c1⟩)
           | (exact (fun hz : Below w5.heap.size w5 _ => ⟨hQ5.trans (hz.mono hQ5.size), za hz e0, za hz e1, za hz e2, za hz e3⟩) ((zvt _ _).alloc (zvs _) _))
           | (go_split_ands; refine ⟨Below.alloc (by assumption) (Below.size (by assumption)) _, ?_, ?_, ?_, ?_⟩ <;> go_keep)
           | (go_split_ands; refine ⟨Below.setCell (Below.setCell (by assumption) (zvs _) _) (zvs _) _, ?_, ?_, ?_, ?_⟩ <;> go_keep)
           | go_keep)
         (first | (go_at_call 73; refine (zhx n n (.slice p acc.length q) (.slice p2 y.length q2) acc y _ (HM.out.below (HBYW.out.trans (Below.mono (B := wr.heap.size) (by first | assumption | exact And.left (by assumption)) HBYW.out.size))) (HSET.out.below (by first | assumption | exact And.left (by assumption))) (HITV.out.below (by first | assumption | exact And.left (by assumption))) (zaf HOK.out) (zaf HON.out.ok) HLA.out HLY.out).mono ?_; rintro e w5 ⟨u5, rfl, hu5, how5, hb5⟩; rw [HOP.out] at hu5 ⊢; simp only at hu5 ⊢; obtain ⟨p5, q5, rfl⟩ := hu5.slice; unfold setV; have hQ5 : Below wr.heap.size wr w5 := Below.trans (by first | assumption | exact And.left (by assumption)) (hb5.mono (Below.size (B := wr.heap.size) (w := wr) (by first | assumption | exact And.left (by assumption)))); have e0 := za hQ5 x0; have e1 := za hQ5 x1; have e2 := za hQ5 c0; have e3 := za hQ5 c1; (first | (have q0 : w5.cell? ⟨wr.heap.size, 0, none⟩ = some (.int .i64 0) := za hb5 (newd0 wr _ _ _); have q1 : w5.cell? ⟨wr.heap.size, 1, none⟩ = some (.slice none 0 0) := za hb5 (newd1 wr _ _ _); have r0 : w5.frozen? ⟨wr.heap.size, 0, none⟩ = false := (hb5.frozen (p := ⟨wr.heap.size, 0, none⟩) (newdz wr _ _ _)).trans (newdf wr _ _ _ 0); have r1 : w5.frozen? ⟨wr.heap.size, 1, none⟩ = false := (hb5.frozen (p := ⟨wr.heap.size, 1, none⟩) (newdz wr _ _ _)).trans (newdf wr _ _ _ 1)) | (have q0 : w5.cell? ⟨wr.heap.size, 0, none⟩ = some (.int .i64 0) := za hb5 (newe0 wr _ _ _); have q1 : w5.cell? ⟨wr.heap.size, 1, none⟩ = some (.slice none 0 0) := za hb5 (newe1 wr _ _ _); have r0 : w5.frozen? ⟨wr.heap.size, 0, none⟩ = false := (hb5.frozen (p := ⟨wr.heap.size, 0, none⟩) (newez wr _ _ _)).trans (newef wr _ _ _ 0); have r1 : w5.frozen? ⟨wr.heap.size, 1, none⟩ = false := (hb5.frozen (p := ⟨wr.heap.size, 1, none⟩) (newez wr _ _ _)).trans (newef wr _ _ _ 1)) | skip)))
        all_goals
         rename_i hS
         have HBS := zvq (And.left hS)
         clear hS hb5 hQ5 e0 e1 e2 e3 hu5 how5 x0 x1 c0 c1
         go_wp2_with (first | (refine zi rfl 32 _ _ rfl w.heap.size #[.int .i64 0, .slice none 0 0] _ (kr HBS.out KR1.out) rfl #[.int .i64 0, .slice none 0 0] rfl rfl (by kernel_rfl) (zt _ _ _ _) ?_; intro W7 hp7; have z0 : W7.cell? ⟨w.heap.size, 0, none⟩ = some (.int .i64 0) := zvp hp7.here 0; have z1 : W7.cell? ⟨w.heap.size, 1, none⟩ = some (.slice none 0 0) := zvp hp7.here 1) | fail)
         have HB7 := zvq (hp7.below (HBYW.out.trans (HBS.out.mono HBYW.out.size)) (zvs _))
         clear hp7
         exact bodyPost_ret (v := .tuple #[.agg #[.int .i64 0, .slice none 0 0], .int .i64 3]) (by simp [results, Tryz.results46, go_sem, z0, z1]) rfl (by rw [HR.out]; exact js.zero HB7.out _)
      ·obtain rfl : k = xs.length := by omega
       have HR : Hid (V.parP n s = (n, acc, 0)) := zvq (HUY.out acc (by rw [HE.out, List.drop_length]; rfl))
       have hnl : ¬ (xs.length : Int) < (us.length : Int) := by have := HXL.out; omega
       have hnl2 : ¬ xs.length < us.length := by have := HXL.out; omega
       clear hby
       go_wp2_with (first
         | (refine zi rfl 32 _ _ rfl w.heap.size #[.int .i64 0, .slice none 0 0] _ KR1.out rfl #[.int .i64 n, .slice p acc.length q] rfl rfl (by kernel_rfl) (zt _ _ _ _) ?_; intro W7 hp7; have z0 : W7.cell? ⟨w.heap.size, 0, none⟩ = some (.int .i64 n) := zvp hp7.here 0; have z1 : W7.cell? ⟨w.heap.size, 1, none⟩ = some (.slice p acc.length q) := zvp hp7.here 1)
         | fail)
       have HB7 := zvq (hp7.below HBYW.out (zvs _))
       have HI7 := zvq (hp7.itvs HSET.out (fun c hc => by have := HOWN.out c hc; have := HZB.out; omega))
       clear hp7
       exact bodyPost_ret (v := .tuple #[.agg #[.int .i64 n, .slice p acc.length q], .int .i64 0]) (by simp [results, Tryz.results46, go_sem, z0, z1]) rfl (by rw [HR.out]; exact ⟨_, rfl, HI7.out, (fun c hc => by have := HOWN.out c hc; have := HZB.out; omega), HB7.out⟩)
  ·have HR := zvq (V.zni HSC.out hlong)
   have hq : 8192 < S.size := by omega
   have hq2 : (8192 : Int) < (S.size : Int) := by omega
   clear hlong
   go_wp2_with (first | (refine zi rfl 32 _ _ rfl w.heap.size #[.int .i64 0, .slice none 0 0] _ K0.out rfl #[.int .i64 0, .slice none 0 0] rfl rfl (by kernel_rfl) (zt _ _ _ _) ?_; intro W2 hp2; have z0 : W2.cell? ⟨w.heap.size, 0, none⟩ = some (.int .i64 0) := zvp hp2.here 0; have z1 : W2.cell? ⟨w.heap.size, 1, none⟩ = some (.slice none 0 0) := zvp hp2.here 1) | fail)
   have HBF := zvq (hp2.below HB0.out (zvs _))
   clear hp2
   exact bodyPost_ret (v := .tuple #[.agg #[.int .i64 0, .slice none 0 0], .int .i64 3]) (by simp [results, Tryz.results46, go_sem, z0, z1]) rfl (by rw [HR.out]; exact js.zero HBF.out _)
end Go.Proofs.YtiloljoancdcbaaGreatDoor
