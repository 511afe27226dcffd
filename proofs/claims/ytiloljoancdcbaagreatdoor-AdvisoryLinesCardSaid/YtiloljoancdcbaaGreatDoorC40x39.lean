/-
  Lemmas for the law.
-/
import Derived.Test.YtiloljoancdcbaaGreatDoorC40x37
import Derived.Test.YtiloljoancdcbaaGreatDoorC40x38
import Derived.Test.YtiloljoancdcbaaGreatDoorC40x20
import Derived.Outline
set_option linter.all false
set_option maxRecDepth 100000
set_option maxHeartbeats 12800000
namespace Go.Proofs.YtiloljoancdcbaaGreatDoor
open Go.RowKit
theorem zhi {W : World} {X : Nat} {n : Int} {p : Option Addr} {m q : Nat} (h : W.heap[X]? = some (.cells #[.int .i64 n, .slice p m q] 32 (0, 0))) : W.cell? ⟨X, 0, none⟩ = some (.int .i64 n) /\ W.cell? ⟨X, 1, none⟩ = some (.slice p m q) :=
 ⟨zvp h 0, zvp h 1⟩
theorem zv8 {P : Prop} (h : P := by
 have hor2 : m2 = n /\ V.altP n x = some l := by
  rcases HOR.out with ⟨h, _⟩ | ⟨_, h1, h2⟩
  ·cases h
  ·exact ⟨h1, h2⟩
 obtain ⟨rfl, hal⟩ := hor2
 have HAL := zvq hal
 have hbZ : Below w2.heap.size w2 ((w2.alloc (.cells #[.int .i64 m2, .slice p l.length q] 32)).alloc (.cells #[.int .i64 m2, .slice p l.length q] 32)) := ((zvt _ _).alloc (zvs _) _).alloc (by simp) _
 have HBZ := zvr HB2 hbZ
 have HUZ := zvq (HU.out.below hbZ)
 have HRZ := zvq (HROW.out.later HBZ.out)
 have HKL : Hid (us.length ≤ 10000) := zvq (by have := HKU.out; omega)
 have HSEP : Hid (l ≠ [] -> ∀ c, (Value.slice p l.length q).ownBlock = some c -> ∀ v, SetRow m2 W0.heap.size wr v us xs -> v.ownBlock ≠ some c) := zvq (fun _ c hc v hv e => by
   have h1 := HOW.out c hc
   have h2 := GRow.lt hv.row c e
   omega)
 clear hal hbZ
 go_wp2_with (first | (refine uy (zjd m2) (by decide) (zt9 m2) ztm (by decide) rfl _ _ 106 rfl Tryz.underlying106 W0.heap.size _ us rfl HRZ.out.row (w2.heap.size + 1) ⟨p, l.length, q⟩ rfl (fun j u hj => by rw [ze]; simpa [slE, Sl.v] using hj) (by have := HKL.out; omega) (by have := HBX.out.size; have := HBZ.out.size; omega) ?_; intro v3 W3 hr3 hg3 ho3) | fail)
 have HR3 := zvq (HRZ.out.add (u := ⟨p, l.length, q⟩) hr3 hg3 ho3 HUZ.out (fun hl c hc => HSEP.out hl c hc _ HROW.out))
 have HB3 : Hid (Below W0.heap.size W0 W3) := zvq ((HBX.out.trans (HBZ.out.mono HBX.out.size)).trans ⟨hg3.os, hg3.tape, hg3.output, hg3.size, fun i hi => hg3.block i (by have := HBX.out.size; have := HBZ.out.size; omega) (fun e => by have := GRow.block HRZ.out.row i e.symm; omega)⟩)
 have HT3 := zvq (HST.out l HAL.out)
 clear hr3 hg3 ho3
 go_wp2_with fail
 go_roundw
 case rel => exact ⟨k + 1, _, _, by omega, by go_num, by rw [List.length_append, HKU.out]; rfl, HT3.out, HR3.out, HB3.out⟩
 case measure => simp [intOf]; omega) : P := h
theorem zrv (n : Int) (s : V.Bs) (w : World) (hm : zg w) (hs : s.length ≤ maxLen) :
  Calls Tryz.prog 99 #[.int .i64 n, .string ⟨s.toArray⟩] w (js (V.parP n s) w) := by
 have HM := zvq hm
 have hsz : (ByteArray.mk s.toArray).size = s.length := by simp [ByteArray.size]
 have HSD : Hid ((ByteArray.mk s.toArray).data.toList = s) := zvq rfl
 have hb0 : Below w.heap.size w (w.alloc (.cells #[.int .i64 0, .slice none 0 0] 32)) := (zvt _ w).alloc (zvs _) _
 have K0 : Hid ((w.alloc (.cells #[.int .i64 0, .slice none 0 0] 32)).heap[w.heap.size]? = some (.cells #[.int .i64 0, .slice none 0 0] 32 (0, 0))) := zvq (by rw [heap_alloc, if_pos rfl])
 have HB0 := zvq hb0
 have HZ0 : Hid ((w.alloc (.cells #[.int .i64 0, .slice none 0 0] 32)).heap.size = w.heap.size + 1) := zvq (by simp)
 unfold maxLen at hs
 clear hb0 hm
 generalize (ByteArray.mk s.toArray) = S at *
 go_enter Tryz.func99, Tryz.ntmps99
 go_wp2_with fail
 generalize w.alloc (.cells #[.int .i64 0, .slice none 0 0] 32) = w0 at *
 refine (za0 n w0).mono ?_
 rintro e w' ⟨rfl, rfl⟩
 rcases hsc : V.scheme n with _ | _
 ·have HR := zvq (V.zhy (s := s) hsc)
  clear hsc
  go_wp2_with (first | (refine zi rfl 32 _ _ rfl w.heap.size #[.int .i64 0, .slice none 0 0] _ K0.out rfl #[.int .i64 0, .slice none 0 0] rfl rfl (by kernel_rfl) (zt _ _ _ _) ?_; intro W2 hp2; have z0 : W2.cell? ⟨w.heap.size, 0, none⟩ = some (.int .i64 0) := zvp hp2.here 0; have z1 : W2.cell? ⟨w.heap.size, 1, none⟩ = some (.slice none 0 0) := zvp hp2.here 1) | fail)
  have HBF := zvq (hp2.below HB0.out (zvs _))
  clear hp2
  exact bodyPost_ret (v := .tuple #[.agg #[.int .i64 0, .slice none 0 0], .int .i64 14]) (by simp [results, Tryz.results99, go_sem, z0, z1]) rfl (by rw [HR.out]; exact js.zero HBF.out _)
 ·have HSC := zvq hsc
  clear hsc
  by_cases hlong : s.length ≤ 8192
  ·have HL := zvq hlong
   have hq : ¬ 8192 < S.size := by omega
   have hq2 : ¬ (8192 : Int) < (S.size : Int) := by omega
   have HS : Hid (S.size < 4294967281) := zvq (by omega)
   have HPL : Hid (∀ x ∈ Lib.split s V.orT, x.length ≤ 100000) := zvq (fun x hx => by
     have := zhf V.orT _ s x hx
     omega)
   have HLL : Hid ((Lib.split s V.orT).length ≤ 10000) := zvq (by have := zhw s; omega)
   have HAN : Hid (V.xt n (Lib.split s V.orT) = none -> V.parP n s = (0, [], 2)) := zvq (fun h => V.zm9 HSC.out HL.out h)
   have HUN : Hid (∀ xs, V.xt n (Lib.split s V.orT) = some xs -> V.ja n [] xs = none -> V.parP n s = (0, [], 3)) := zvq (fun xs h g => V.zj8 HSC.out HL.out h g)
   have HUS : Hid (∀ xs l, V.xt n (Lib.split s V.orT) = some xs -> V.ja n [] xs = some l -> V.parP n s = (n, l, 0)) := zvq (fun xs l h g => V.ztz HSC.out HL.out h g)
   clear hlong hs hsz
   go_wp2_with fail
   refine (zik S w' (HM.out.below HB0.out) HS.out).mono ?_
   rintro e W0 ⟨rfl, hW0⟩
   rw [HSD.out] at hW0 ⊢
   have hb1 : Below w'.heap.size w' W0 := by rw [hW0]; exact (zvt _ _).alloc (zvs _) _
   have HB1 := zvr HB0 hb1
   have K1 := zvq (kr hb1 K0.out)
   have hz0 : w'.heap.size = w.heap.size + 1 := HZ0.out
   have HTX : Hid (∀ j (h : j < (Lib.split s V.orT).length), W0.cell? ⟨w.heap.size + 1, j, none⟩ = some (.string ⟨(Lib.split s V.orT)[j].toArray⟩)) := zvq (fun j hj => by
     rw [hW0, ← hz0, World.cell?_alloc_new]; exact yj _ j hj)
   have HZ1 : Hid (W0.heap.size = w.heap.size + 2) := zvq (by rw [hW0]; simp; omega)
   clear hb1 hW0
   rw [hz0]
   clear hz0
   have hll : (Lib.split s V.orT).length ≤ 10000 := HLL.out
   have HA0 := zvq (V.zhu n (Lib.split s V.orT))
   generalize Lib.split s V.orT = P at *
   go_wp2_with fail
   go_loopw [6, 28] (fun v iv wx => ∃ (k : Nat) (us : List Sl) (xs : List (List V.Itv)), k ≤ P.length /\ iv = .int .i64 k /\ us.length = k /\ V.zbo n P k xs /\ SetRow n W0.heap.size wx v us xs /\ Below W0.heap.size W0 wx) (fun _ iv _ => P.length - (intOf iv).toNat)
   case atStart => exact ⟨0, [], [], Nat.zero_le _, rfl, rfl, HA0.out, SetRow.nil _ _ _, zvt _ _⟩
   case round =>
    obtain ⟨k, us, xs, hk, rfl, hku, hto, hrow, hbx⟩ := hrel
    have HTO := zvq hto
    have HROW := zvq hrow
    have HKU := zvq hku
    have HBX := zvq hbx
    have HBF := zvr HB1 hbx
    have KR := zvq (kr (hbx.mono (zvs _)) K1.out)
    clear hto hrow hku hbx
    by_cases hlt : k < P.length
    ·have hc := za HBX.out (HTX.out k hlt)
     have hi1 : (0 : Int) ≤ (k : Int) := by omega
     have hi2 : (k : Int) < (P.length : Int) := by omega
     have HLX := zvq (HPL.out _ (List.getElem_mem hlt))
     have HST := zvq (fun (y : List V.Itv) hy => V.zh4 (x := y) HTO.out hlt hy)
     have HNO := zvq (fun hy => V.zh8 HTO.out hlt hy)
     generalize P[k] = x at *
     go_wp2_with fail
     refine (zf0 n x wr (HM.out.below HBF.out) HSC.out HLX.out).mono ?_
     rintro e w2 ⟨m2, u, l, b, rfl, hor, hu, how, hb2⟩
     obtain ⟨p, q, rfl⟩ := hu.slice
     have HOR := zvq hor
     have HU := zvq hu
     have HOW := zvq how
     have HB2 := zvq hb2
     have KR2 := zvq (kr hb2 KR.out)
     clear hor hu how hb2 hc
     unfold setV
     have HBY := zvq ((zvt w2.heap.size w2).alloc (zvs _) (.cells #[.int .i64 m2, .slice p l.length q] 32))
     rcases b with _ | _
     ·have HR : Hid (V.parP n s = (0, [], 2)) := zvq (HAN.out (HNO.out (by
        rcases HOR.out with ⟨_, h⟩ | ⟨h, _⟩
        · exact h
        · cases h)))
      go_wp2_with (first | (refine zi rfl 32 _ _ rfl w.heap.size #[.int .i64 0, .slice none 0 0] _ (kr HBY.out KR2.out) rfl #[.int .i64 0, .slice none 0 0] rfl rfl (by kernel_rfl) (zt _ _ _ _) ?_; intro W5 hp5; have z0 : W5.cell? ⟨w.heap.size, 0, none⟩ = some (.int .i64 0) := zvp hp5.here 0; have z1 : W5.cell? ⟨w.heap.size, 1, none⟩ = some (.slice none 0 0) := zvp hp5.here 1) | fail)
      have HB5 := zvq (hp5.below (HBF.out.trans ((HB2.out.trans (HBY.out.mono HB2.out.size)).mono HBF.out.size)) (zvs _))
      clear hp5
      exact bodyPost_ret (v := .tuple #[.agg #[.int .i64 0, .slice none 0 0], .int .i64 2]) (by simp [results, Tryz.results99, go_sem, z0, z1]) rfl (by rw [HR.out]; exact js.zero HB5.out _)
     ·exact zv8
    ·obtain rfl : k = P.length := by omega
     have HAX := zvq (V.zjn HTO.out)
     have HONE := zvq (V.zez HSC.out HAX.out).2
     have HUX := zvq (fun h => HUN.out xs HAX.out h)
     have HUY := zvq (fun l h => HUS.out xs l HAX.out h)
     have HXL : Hid (us.length = xs.length) := zvq HROW.out.len
     obtain ⟨va, vc, rfl⟩ := GRow.slice HROW.out.row
     obtain ⟨wo, rfl⟩ : ∃ wo : World, wo = wr := ⟨_, rfl⟩
     have hulen : us.length ≤ 10000 := by have := HKU.out; omega
     have HX0 : Hid ((wo.alloc (.cells #[.int .i64 n, .slice none 0 0] 32)).heap[wo.heap.size]? = some (.cells #[.int .i64 n, .slice none 0 0] 32 (0, 0))) := zvq (by rw [heap_alloc, if_pos rfl])
     have HBX0 := zvq ((zvt wo.heap.size wo).alloc (zvs _) (.cells #[.int .i64 n, .slice none 0 0] 32))
     have HZB : Hid (w.heap.size < wo.heap.size) := zvq ((Array.getElem?_eq_some_iff.1 KR.out).1)
     go_wp2_with fail
     go_loopw [50] (fun iv wx => ∃ (k : Nat) (acc : List V.Itv) (u : Value), k ≤ xs.length /\ iv = .int .i64 k /\ V.ja n [] xs = V.ja n acc (xs.drop k) /\ V.Ok n acc /\ wx.heap[wo.heap.size]? = some (.cells #[.int .i64 n, u] 32 (0, 0)) /\ Itvs wx u acc /\ (∀ c, u.ownBlock = some c -> wo.heap.size < c) /\ Below wo.heap.size wo wx) (fun iv _ => us.length - (intOf iv).toNat)
     case atStart => exact ⟨0, [], _, Nat.zero_le _, rfl, rfl, V.zd9 HSC.out, HX0.out, Itvs.nil _, (fun c hc => by cases hc), HBX0.out⟩
     case round =>
      obtain ⟨k, acc, u, hk, rfl, heq, hok, hbox, hset, hown, hby⟩ := hrel
      obtain ⟨p, q, rfl⟩ := hset.slice
      have HE := zvq heq
      have HOK := zvq hok
      have HBOX := zvq hbox
      have HSET := zvq hset
      have HOWN := zvq hown
      have HBY := zvq hby
      obtain ⟨x0, x1⟩ := zhi hbox
      have HBYW := zvr HBF hby
      have KR1 := zvq (kr hby KR.out)
      have HZR : Hid (wo.heap.size < wr.heap.size) := zvq ((Array.getElem?_eq_some_iff.1 hbox).1)
      clear heq hok hbox hset hown
      by_cases hlt : k < xs.length
      ·have hlu : k < us.length := by have := HXL.out; omega
       have hrow := HROW.out.later hby
       obtain ⟨g, cap, e, _, _, hcell⟩ := GRow.at (zjd n) hrow.row k hlu
       cases e
       have c0 : wr.cell? ⟨g, k * 2, none⟩ = some (.int .i64 n) := hcell 0 _ rfl
       have c1 : wr.cell? ⟨g, k * 2 + 1, none⟩ = some us[k].v := hcell 1 _ rfl
       have HIT := (hrow.each k hlu hlt).1
       have HON := zvq (HONE.out _ (List.getElem_mem hlt))
       have HNX := zvq (V.zl3 (n := n) (acc := acc) hlt)
       have hi1 : (0 : Int) ≤ (k : Int) := by omega
       have hi2 : (k : Int) < (us.length : Int) := by omega
       clear hrow hcell hby
       generalize us[k].v = uv at *
       generalize xs[k] = y at *
       have HITV := zvq HIT
       obtain ⟨p2, q2, rfl⟩ := HIT.slice
       clear HIT
       have hbA : Below wr.heap.size wr (wr.alloc (.cells #[.int .i64 n, .slice p2 y.length q2] 32)) := (zvt _ _).alloc (zvs _) _
       have HBA := zvq hbA
       have y0 := za hbA x0
       have y1 := za hbA x1
       have HCH := zvq (V.zpa HOK.out HON.out.ok)
       have HOPF : Hid (V.opP V.orF n acc n y = if V.chkP n acc n y = 0 then V.limP n (V.opL n V.orF acc y) else (0, [], V.chkP n acc n y)) := zvq rfl
       clear hbA
       go_wp2_with fail
       refine (zqu n n (.slice p acc.length q) (.slice p2 y.length q2) acc y (wr.alloc (.cells #[.int .i64 n, .slice p2 y.length q2] 32)) (HM.out.below (HBYW.out.trans (HBA.out.mono HBYW.out.size))) (HSET.out.below HBA.out) (HITV.out.below HBA.out) (zaf HOK.out) (zaf HON.out.ok) (by have := HOK.out.len; unfold maxLen; omega) (by have := HON.out.one; unfold maxLen; omega)).mono ?_
       rintro e w5 ⟨u5, rfl, hu5, how5, hb5⟩
       obtain ⟨p5, q5, rfl⟩ := hu5.slice
       have HB5 := zvr HBA hb5
       have HBOX5 := zvq (kr HB5.out HBOX.out)
       have KR5 := zvq (kr HB5.out KR1.out)
       have HBW5 := zvq (HBYW.out.trans (HB5.out.mono HBYW.out.size))
       have HBO5 := zvq (HBY.out.trans (HB5.out.mono HBY.out.size))
       have HU5 := zvq hu5
       have HOW5 := zvq (fun c hc => by have h1 := how5 c hc; have h2 := HBA.out.size; have h3 := HZR.out; exact (show wo.heap.size < c by omega))
       clear hu5 how5 hb5 x0 x1 y0 y1 c0 c1
       by_cases h32 : (V.opL n V.orF acc y).length ≤ 32
       ·have HOP : Hid (V.opP V.orF n acc n y = (n, V.opL n V.orF acc y, 0)) := zvq (by rw [HOPF.out, if_pos HCH.out]; unfold V.limP; rw [if_pos h32])
        have HOK5 := zvq (V.zjo V.orF HOK.out HON.out.ok h32)
        have HEQ : Hid (V.ja n [] xs = V.ja n (V.opL n V.orF acc y) (xs.drop (k + 1))) := zvq (by rw [HE.out, HNX.out, if_pos h32])
        clear h32
        rw [HOP.out] at HU5 HOW5 ⊢
        simp only at HU5 HOW5 ⊢
        unfold setV
        go_wp2_with (first | (refine zi rfl 32 _ _ rfl wo.heap.size _ _ HBOX5.out rfl #[.int .i64 n, .slice p5 (V.opL n V.orF acc y).length q5] rfl rfl (by kernel_rfl) (zt _ _ _ _) ?_; intro W6 hp6) | fail)
        have H6 := zvq hp6.here
        have HI6 := zvq (hp6.itvs HU5.out (fun c hc => by have := HOW5.out c hc; omega))
        have HB6 := zvq (hp6.below HBO5.out (zvs _))
        clear hp6
        go_roundw
        case rel => exact ⟨k + 1, _, _, by omega, by go_num, HEQ.out, HOK5.out, H6.out, HI6.out, HOW5.out, HB6.out⟩
        case measure => simp [intOf]; omega
       ·have HOP : Hid (V.opP V.orF n acc n y = (0, [], 3)) := zvq (by rw [HOPF.out, if_pos HCH.out]; unfold V.limP; rw [if_neg h32])
        have HR : Hid (V.parP n s = (0, [], 3)) := zvq (HUX.out (by rw [HE.out, HNX.out, if_neg h32]))
        clear h32
        rw [HOP.out] at HU5 HOW5 ⊢
        simp only at HU5 HOW5 ⊢
        unfold setV
        go_wp2_with (first
          | (refine zi rfl 32 _ _ rfl wo.heap.size _ _ HBOX5.out rfl #[.int .i64 0, .slice p5 ([] : List V.Itv).length q5] rfl rfl (by kernel_rfl) (zt _ _ _ _) ?_; intro W6 hp6; have KR6 := zvq (hp6.other KR5.out (by have := HZB.out; omega)); have HB6 := zvq (hp6.below HBW5.out (by have := HZB.out; omega)); clear hp6)
          | (refine zi rfl 32 _ _ rfl w.heap.size #[.int .i64 0, .slice none 0 0] _ KR6.out rfl #[.int .i64 0, .slice none 0 0] rfl rfl (by kernel_rfl) (zt _ _ _ _) ?_; intro W7 hp7; have z0 : W7.cell? ⟨w.heap.size, 0, none⟩ = some (.int .i64 0) := zvp hp7.here 0; have z1 : W7.cell? ⟨w.heap.size, 1, none⟩ = some (.slice none 0 0) := zvp hp7.here 1)
          | fail)
        have HB7 := zvq (hp7.below HB6.out (zvs _))
        clear hp7
        exact bodyPost_ret (v := .tuple #[.agg #[.int .i64 0, .slice none 0 0], .int .i64 3]) (by simp [results, Tryz.results99, go_sem, z0, z1]) rfl (by rw [HR.out]; exact js.zero HB7.out _)
      ·obtain rfl : k = xs.length := by omega
       have HR : Hid (V.parP n s = (n, acc, 0)) := zvq (HUY.out acc (by rw [HE.out, List.drop_length]; rfl))
       have hnl : ¬ (xs.length : Int) < (us.length : Int) := by have := HXL.out; omega
       have hnl2 : ¬ xs.length < us.length := by have := HXL.out; omega
       clear hby
       go_wp2_with fail
       refine (zsn (.slice p acc.length q) acc wr HSET.out (by have := HOK.out.len; omega)).mono ?_
       rintro e w5 ⟨u5, rfl, hu5, how5, hb5⟩
       obtain ⟨p5, q5, rfl⟩ := hu5.slice
       have HBOX5 := zvq (kr hb5 HBOX.out)
       have KR5 := zvq (kr hb5 KR1.out)
       have HBW5 := zvr HBYW hb5
       have HU5 := zvq hu5
       have HOW5 := zvq (fun c hc => by have h1 := how5 c hc; have h3 := HZR.out; exact (show wo.heap.size < c by omega))
       clear hu5 how5 hb5 x0 x1
       go_wp2_with (first
         | (refine zad rfl 30 _ _ rfl wo.heap.size 1 #[.int .i64 n, .slice p acc.length q] _ HBOX5.out (by simp) rfl (.slice p5 acc.length q5) rfl zdt rfl ?_; intro W6 hp6; have x0 : W6.cell? ⟨wo.heap.size, 0, none⟩ = some (.int .i64 n) := zvp hp6.here 0; have x1 : W6.cell? ⟨wo.heap.size, 1, none⟩ = some (.slice p5 acc.length q5) := zvp hp6.here 1; have KR6 := zvq (hp6.other KR5.out (by have := HZB.out; omega)); have HB6 := zvq (hp6.below HBW5.out (by have := HZB.out; omega)); have HI6 := zvq (hp6.itvs HU5.out (fun c hc => by have := HOW5.out c hc; omega)); clear hp6)
         | (refine zi rfl 32 _ _ rfl w.heap.size #[.int .i64 0, .slice none 0 0] _ KR6.out rfl #[.int .i64 n, .slice p5 acc.length q5] rfl rfl (by kernel_rfl) (zt _ _ _ _) ?_; intro W7 hp7; have z0 : W7.cell? ⟨w.heap.size, 0, none⟩ = some (.int .i64 n) := zvp hp7.here 0; have z1 : W7.cell? ⟨w.heap.size, 1, none⟩ = some (.slice p5 acc.length q5) := zvp hp7.here 1)
         | fail)
       have HB7 := zvq (hp7.below HB6.out (zvs _))
       have HI7 := zvq (hp7.itvs HI6.out (fun c hc => by have := HOW5.out c hc; have := HZB.out; omega))
       clear hp7
       exact bodyPost_ret (v := .tuple #[.agg #[.int .i64 n, .slice p5 acc.length q5], .int .i64 0]) (by simp [results, Tryz.results99, go_sem, z0, z1]) rfl (by rw [HR.out]; exact ⟨_, rfl, HI7.out, (fun c hc => by have := HOW5.out c hc; have := HZB.out; omega), HB7.out⟩)
  ·have HR := zvq (V.zni HSC.out hlong)
   have hq : 8192 < S.size := by omega
   have hq2 : (8192 : Int) < (S.size : Int) := by omega
   clear hlong
   go_wp2_with (first | (refine zi rfl 32 _ _ rfl w.heap.size #[.int .i64 0, .slice none 0 0] _ K0.out rfl #[.int .i64 0, .slice none 0 0] rfl rfl (by kernel_rfl) (zt _ _ _ _) ?_; intro W2 hp2; have z0 : W2.cell? ⟨w.heap.size, 0, none⟩ = some (.int .i64 0) := zvp hp2.here 0; have z1 : W2.cell? ⟨w.heap.size, 1, none⟩ = some (.slice none 0 0) := zvp hp2.here 1) | fail)
   have HBF := zvq (hp2.below HB0.out (zvs _))
   clear hp2
   exact bodyPost_ret (v := .tuple #[.agg #[.int .i64 0, .slice none 0 0], .int .i64 3]) (by simp [results, Tryz.results99, go_sem, z0, z1]) rfl (by rw [HR.out]; exact js.zero HBF.out _)
def xm (l : List V.Bs) (w : World) (e : Ending) (w' : World) : Prop :=
 ∃ u, e = .returned (.tuple #[affV (V.vh l).1 u, .bool (V.vh l).2]) /\ Itvs w' u (V.vh l).1.its /\ (∀ c, u.ownBlock = some c -> w.heap.size ≤ c) /\ Below w.heap.size w w'
theorem xm.zero {l : List V.Bs} {w w' : World} (h : V.vh l = (V.zA, false)) (hb : Below w.heap.size w w') : xm l w (.returned (.tuple #[.agg #[.int .i64 0, .string ⟨#[]⟩, .int .i64 0, .slice none 0 0], .bool false])) w' :=
 ⟨.slice none 0 0, by rw [h]; rfl, by rw [h]; exact Itvs.nil _, (fun c hc => by cases hc), hb⟩
theorem zil (s : V.Bs) : 0 ≤ V.qh s /\ V.qh s ≤ 3 := by
 unfold V.qh
 repeat' split
 all_goals decide
theorem zde {l : List V.Bs} (h : l.length = 4) : ∃ a s n r, l = [a, s, n, r] := by
 match l, h with
 | [a, s, n, r], _ => exact ⟨a, s, n, r, rfl⟩
theorem zd4 {w : World} {v : Value} {a s n r : V.Bs} (h : Strs w v [a, s, n, r]) : ∃ b off cap, v = .slice (some ⟨b, off, none⟩) 4 cap /\ b < w.heap.size /\ w.cell? ⟨b, off, none⟩ = some (.string ⟨a.toArray⟩) /\ w.cell? ⟨b, off + 1, none⟩ = some (.string ⟨s.toArray⟩) /\ w.cell? ⟨b, off + 2, none⟩ = some (.string ⟨n.toArray⟩) /\ w.cell? ⟨b, off + 3, none⟩ = some (.string ⟨r.toArray⟩) := by
 obtain ⟨va, cap, rfl, hat⟩ := h
 obtain ⟨b, off, rfl, hlt, h0⟩ := hat 0 (by simp)
 have hk : ∀ j (hj : j < [a, s, n, r].length), w.cell? ⟨b, off + j, none⟩ = some (.string ⟨([a, s, n, r][j]).toArray⟩) := fun j hj => by
  obtain ⟨b', off', e, _, hc⟩ := hat j hj
  cases e
  exact hc
 exact ⟨b, off, cap, rfl, hlt, h0, hk 1 (by simp), hk 2 (by simp), hk 3 (by simp)⟩
theorem zwu {P : Prop} (h : P := by
 refine tk 11 ?_
 refine rd 12 fun K hK => ?_
 refine zhq rfl uj _ _ rfl w.heap.size #[.int .i64 0, .string ⟨#[]⟩, .int .i64 0, .slice none 0 0] 34 HK.out rfl (.int .i64 sc) (.string ⟨n.toArray⟩) (.int .i64 rs) (.slice up its.length uq) ⟨rfl, rfl, rfl, rfl⟩ rfl rfl ?_
 refine hK.out _ _ ?_ (fun hHeld => nx ?_)
 ·(try dsimp only); exact ⟨(qk _ _ _).cell hHeld.1 (fun e => HNE.out.1 (Option.some.inj e)), (qk _ _ _).cell hHeld.2.1 (fun e => HNE.out.2 (Option.some.inj e)), (qk _ _ _).cell hHeld.2.2 (fun e => HNE.out.2 (Option.some.inj e))⟩
 clear hK K
 refine tk 13 ?_
 refine wpAnyH_done (by kernel_rfl) ?_ _
 go_wp2
 refine bodyPost_ret (v := .tuple #[.agg #[.int .i64 sc, .string ⟨n.toArray⟩, .int .i64 rs, .slice up its.length uq], .bool false]) (jz Tryz.results69 rfl rfl (zdg Tryz.underlying34 uj (setRow_heap _ _ _ _ _ _ HK.out))) rfl ?_
 rw [HRF.out]
 exact ⟨_, rfl, HIT.out.row (qk _ _ _) (fun c hc e => by have := HOW.out c hc; have := HZ.out.1; omega), HOW2.out, qu HBF.out.drew w.heap.size _ (zvs _) HZ.out.2⟩) : P := h
theorem zxe {P : Prop} (h : P := by
 go_enter Tryz.func69, Tryz.ntmps69
 go_wp2_with (first | (refine qr rfl uj _ _ rfl w.heap.size #[.int .i64 0, .string ⟨#[]⟩, .int .i64 0, .slice none 0 0] 34 HK0.out rfl (.int .i64 0) (.string ⟨#[]⟩) (.int .i64 0) (.slice none 0 0) ⟨rfl, rfl, rfl, rfl⟩ rfl rfl ?_) | fail)
 refine bodyPost_ret (v := .tuple #[.agg #[.int .i64 0, .string ⟨#[]⟩, .int .i64 0, .slice none 0 0], .bool false]) (jz Tryz.results69 rfl rfl (zdg Tryz.underlying34 uj (setRow_heap _ _ _ _ _ _ HK0.out))) rfl ?_
 exact xm.zero HR.out (qu HB0.out w.heap.size _ (zvs _) (by have := HZ0.out; omega))) : P := h
theorem zix (v : Value) (l : List V.Bs) (w : World) (hm : zg w) (hv : Strs w v l) (hw : ∀ x ∈ l, x.length ≤ maxLen) :
  Calls Tryz.prog 69 #[v] w (xm l w) := by
 have hb0 : Below w.heap.size w (w.alloc (.cells #[.int .i64 0, .string ⟨#[]⟩, .int .i64 0, .slice none 0 0] 34)) := (zvt _ w).alloc (zvs _) _
 have HB0 := zvq hb0
 have HK0 : Hid ((w.alloc (.cells #[.int .i64 0, .string ⟨#[]⟩, .int .i64 0, .slice none 0 0] 34)).heap[w.heap.size]? = some (.cells #[.int .i64 0, .string ⟨#[]⟩, .int .i64 0, .slice none 0 0] 34 (0, 0))) := zvq (heap_alloc_new w _)
 have HM0 := zvq (hm.below hb0)
 have HZ0 : Hid ((w.alloc (.cells #[.int .i64 0, .string ⟨#[]⟩, .int .i64 0, .slice none 0 0] 34)).heap.size = w.heap.size + 1) := zvq (by simp)
 by_cases h4 : l.length = 4
 case neg =>
  have HR := zvq (V.zms h4)
  obtain ⟨va, cap, rfl, hjunk⟩ := hv
  have q1 : ((l.length : Int) != 4) = true := by simp; omega
  have q2 : ¬ (l.length : Int) = 4 := by omega
  clear hjunk hw h4 hb0 hm
  generalize l.length = m at *
  exact zxe
 obtain ⟨a, s, n, r, rfl⟩ := zde h4
 obtain ⟨b, off, cap, rfl, hblt, c0, c1, c2, c3⟩ := zd4 hv
 have x0 := zb hb0 c0
 have x1 := zb hb0 c1
 have x2 := zb hb0 c2
 have x3 := zb hb0 c3
 have hrl : r.length ≤ maxLen := hw r (by simp)
 have HRL := zvq hrl
 have HBL := zvq hblt
 clear hw hv hb0 h4 c0 c1 c2 c3 hrl hblt hm
 by_cases ha : a = V.affW
 case neg =>
  have HR := zvq (V.zj1 (s := s) (n := n) (r := r) ha)
  have hne : (a == [97, 102, 102, 101, 99, 116, 115]) = false := by rw [zvu]; exact ha
  clear ha x1 x2 x3
  exact zxe
 subst ha
 have hcw : (⟨V.affW.toArray⟩ : ByteArray) = ⟨#[97, 102, 102, 101, 99, 116, 115]⟩ := rfl
 rw [hcw] at x0
 clear hcw
 have HF := zvq (V.zfw s n r)
 have hsr := zil s
 go_enter Tryz.func69, Tryz.ntmps69
 go_wp2_with fail
 generalize w.alloc (.cells #[.int .i64 0, .string ⟨#[]⟩, .int .i64 0, .slice none 0 0] 34) = w0 at *
 refine (zqi ⟨s.toArray⟩ w0).mono ?_
 rintro e w1 ⟨rfl, hb1⟩
 rw [kk]
 replace x2 := zb hb1 x2
 replace x3 := zb hb1 x3
 have HB1 := zvr HB0 hb1
 have HM1 := zvq (HM0.out.below hb1)
 have hz1 : w.heap.size + 1 ≤ w1.heap.size := by have := hb1.size; have := HZ0.out; omega
 have HK1 := zvq ((hb1.block _ (by have := HZ0.out; omega)).trans HK0.out)
 clear hb1 x0 x1 HB0 HM0 HK0 HZ0
 generalize V.qh s = sc at *
 go_wp2_with fail
 refine (zrv sc r w1 HM1.out HRL.out).mono ?_
 rintro e w2 ⟨u, rfl, hu, how, hb2⟩
 obtain ⟨⟨rs, its, ec⟩, hpp⟩ : ∃ p, V.parP sc r = p := ⟨_, rfl⟩
 rw [hpp] at hu HF ⊢
 simp only at hu HF ⊢
 obtain ⟨up, uq, rfl⟩ := hu.slice
 unfold setV
 have hb3 : Below w1.heap.size w1 (w2.alloc (.cells #[.int .i64 rs, .slice up its.length uq] 32)) := hb2.alloc hb2.size _
 have s0 : (w2.alloc (.cells #[.int .i64 rs, .slice up its.length uq] 32)).cell? ⟨w2.heap.size, 0, none⟩ = some (.int .i64 rs) := by rw [World.cell?_alloc_new]; rfl
 have s1 : (w2.alloc (.cells #[.int .i64 rs, .slice up its.length uq] 32)).cell? ⟨w2.heap.size, 1, none⟩ = some (.slice up its.length uq) := by rw [World.cell?_alloc_new]; rfl
 have y2 := zb hb3 x2
 have HIT := zvq (hu.below ((zvt _ w2).alloc (zvs _) (.cells #[.int .i64 rs, .slice up its.length uq] 32)))
 have HOW : Hid (∀ c, (Value.slice up its.length uq).ownBlock = some c -> w1.heap.size ≤ c) := zvq how
 have hz2 := hb2.size
 have hz3 : (w2.alloc (.cells #[.int .i64 rs, .slice up its.length uq] 32)).heap.size = w2.heap.size + 1 := by simp
 have HBF := zvr HB1 hb3
 have HK := zvq ((hb3.block _ (by omega)).trans HK1.out)
 have HOW2 : Hid (∀ c, (Value.slice up its.length uq).ownBlock = some c -> w.heap.size ≤ c) := zvq (fun c hc => by have := how c hc; omega)
 clear hb2 hb3 hu how HB1 HM1 HK1 hpp x2 x3
 go_wp2_with fail
 generalize w2.alloc (.cells #[.int .i64 rs, .slice up its.length uq] 32) = w3 at *
 have HNE : Hid (b ≠ w.heap.size /\ w2.heap.size ≠ w.heap.size) := zvq ⟨by have := HBL.out; omega, by omega⟩
 have HZ : Hid (w.heap.size < w1.heap.size /\ w.heap.size < w3.drew.heap.size) := zvq ⟨by omega, by show _ < w3.heap.size; omega⟩
 generalize w2.heap.size = Y at *
 replace HK := zvq (show w3.drew.heap[w.heap.size]? = some (.cells #[.int .i64 0, .string ⟨#[]⟩, .int .i64 0, .slice none 0 0] 34 (0, 0)) from HK.out)
 replace HIT := zvq (HIT.out.below (zvt _ w3).drew)
 clear hz1 hz2 hz3
 by_cases hp : 0 < sc
 ·have HSC := zvq hp
  by_cases he : ec = 0
  ·have HEC := zvq he
   have HRF : Hid (xm [V.affW, s, n, r] w = fun e w' => ∃ u, e = .returned (.tuple #[affV ⟨sc, n, rs, its⟩ u, .bool true]) /\ Itvs w' u its /\ (∀ c, u.ownBlock = some c -> w.heap.size ≤ c) /\ Below w.heap.size w w') := zvq (by unfold xm; rw [HF.out]; simp [hp, he])
   clear hp he HF
   refine wp_region_held_drew (S := (fun W' => W'.cell? ⟨b, off + 2, none⟩ = some (.string ⟨n.toArray⟩) /\ W'.cell? ⟨Y, 0, none⟩ = some (.int .i64 rs) /\ W'.cell? ⟨Y, 1, none⟩ = some (.slice up its.length uq))) (by kernel_rfl) (by (try dsimp only); exact ⟨zb (zvt _ _).drew y2, zb (zvt _ _).drew s0, zb (zvt _ _).drew s1⟩) (fun hHeld => ?_)
   refine tk 0 ?_
   refine tk 1 ?_
   refine tk 2 ?_
   refine tk 3 ?_
   refine tk 4 ?_
   refine tk 5 ?_
   refine tk 6 ?_
   refine wpAnyH_take (i := 7) (v := (.bool true)) rfl (by kernel_rfl) (by kernel_rfl) (by kernel_rfl) (fun _ _ _ h => h) (Or.inl ⟨by rfl, fun w' hSw => by have e := HSC.out; go_simp; try rfl⟩) (by assumption) ?_
   try simp only [zvl, zvm, zvn, Act.put, zvo, List.set_cons_succ, List.set_cons_zero]
   refine tk 8 ?_
   refine tk 9 ?_
   refine wpAnyH_take (i := 10) (v := (.bool true)) rfl (by kernel_rfl) (by kernel_rfl) (by kernel_rfl) (fun _ _ _ h => h) (Or.inl ⟨by rfl, fun w' hSw => by have e := HEC.out; go_simp; try rfl⟩) (by assumption) ?_
   try simp only [zvl, zvm, zvn, Act.put, zvo, List.set_cons_succ, List.set_cons_zero]
   refine tk 11 ?_
   refine rd 12 fun K hK => ?_
   refine zhq rfl uj _ _ rfl w.heap.size #[.int .i64 0, .string ⟨#[]⟩, .int .i64 0, .slice none 0 0] 34 HK.out rfl (.int .i64 sc) (.string ⟨n.toArray⟩) (.int .i64 rs) (.slice up its.length uq) ⟨rfl, rfl, rfl, rfl⟩ rfl rfl ?_
   refine hK.out _ _ ?_ (fun hHeld => nx ?_)
   ·(try dsimp only); exact ⟨(qk _ _ _).cell hHeld.1 (fun e => HNE.out.1 (Option.some.inj e)), (qk _ _ _).cell hHeld.2.1 (fun e => HNE.out.2 (Option.some.inj e)), (qk _ _ _).cell hHeld.2.2 (fun e => HNE.out.2 (Option.some.inj e))⟩
   clear hK K
   refine tk 13 ?_
   refine wpAnyH_done (by kernel_rfl) ?_ _
   go_wp2
   refine bodyPost_ret (v := .tuple #[.agg #[.int .i64 sc, .string ⟨n.toArray⟩, .int .i64 rs, .slice up its.length uq], .bool true]) (jz Tryz.results69 rfl rfl (zdg Tryz.underlying34 uj (setRow_heap _ _ _ _ _ _ HK.out))) rfl ?_
   rw [HRF.out]
   exact ⟨_, rfl, HIT.out.row (qk _ _ _) (fun c hc e => by have := HOW.out c hc; have := HZ.out.1; omega), HOW2.out, qu HBF.out.drew w.heap.size _ (zvs _) HZ.out.2⟩
  ·have HEC := zvq he
   have HRF : Hid (xm [V.affW, s, n, r] w = fun e w' => ∃ u, e = .returned (.tuple #[affV ⟨sc, n, rs, its⟩ u, .bool false]) /\ Itvs w' u its /\ (∀ c, u.ownBlock = some c -> w.heap.size ≤ c) /\ Below w.heap.size w w') := zvq (by unfold xm; rw [HF.out]; simp [he])
   clear hp he HF
   refine wp_region_held_drew (S := (fun W' => W'.cell? ⟨b, off + 2, none⟩ = some (.string ⟨n.toArray⟩) /\ W'.cell? ⟨Y, 0, none⟩ = some (.int .i64 rs) /\ W'.cell? ⟨Y, 1, none⟩ = some (.slice up its.length uq))) (by kernel_rfl) (by (try dsimp only); exact ⟨zb (zvt _ _).drew y2, zb (zvt _ _).drew s0, zb (zvt _ _).drew s1⟩) (fun hHeld => ?_)
   refine tk 0 ?_
   refine tk 1 ?_
   refine tk 2 ?_
   refine tk 3 ?_
   refine tk 4 ?_
   refine tk 5 ?_
   refine tk 6 ?_
   refine wpAnyH_take (i := 7) (v := (.bool true)) rfl (by kernel_rfl) (by kernel_rfl) (by kernel_rfl) (fun _ _ _ h => h) (Or.inl ⟨by rfl, fun w' hSw => by have e := HSC.out; go_simp; try rfl⟩) (by assumption) ?_
   try simp only [zvl, zvm, zvn, Act.put, zvo, List.set_cons_succ, List.set_cons_zero]
   refine tk 8 ?_
   refine tk 9 ?_
   refine wpAnyH_take (i := 10) (v := (.bool false)) rfl (by kernel_rfl) (by kernel_rfl) (by kernel_rfl) (fun _ _ _ h => h) (Or.inl ⟨by rfl, fun w' hSw => by have e := HEC.out; go_simp; try rfl⟩) (by assumption) ?_
   try simp only [zvl, zvm, zvn, Act.put, zvo, List.set_cons_succ, List.set_cons_zero]
   exact zwu
 ·have HSC := zvq hp
  have HRF : Hid (xm [V.affW, s, n, r] w = fun e w' => ∃ u, e = .returned (.tuple #[affV ⟨sc, n, rs, its⟩ u, .bool false]) /\ Itvs w' u its /\ (∀ c, u.ownBlock = some c -> w.heap.size ≤ c) /\ Below w.heap.size w w') := zvq (by unfold xm; rw [HF.out]; simp [hp])
  clear hp HF
  refine wp_region_held_drew (S := (fun W' => W'.cell? ⟨b, off + 2, none⟩ = some (.string ⟨n.toArray⟩) /\ W'.cell? ⟨Y, 0, none⟩ = some (.int .i64 rs) /\ W'.cell? ⟨Y, 1, none⟩ = some (.slice up its.length uq))) (by kernel_rfl) (by (try dsimp only); exact ⟨zb (zvt _ _).drew y2, zb (zvt _ _).drew s0, zb (zvt _ _).drew s1⟩) (fun hHeld => ?_)
  refine tk 0 ?_
  refine tk 1 ?_
  refine tk 2 ?_
  refine tk 3 ?_
  refine tk 4 ?_
  refine tk 5 ?_
  refine tk 6 ?_
  refine wpAnyH_take (i := 7) (v := (.bool false)) rfl (by kernel_rfl) (by kernel_rfl) (by kernel_rfl) (fun _ _ _ h => h) (Or.inl ⟨by rfl, fun w' hSw => by have e := HSC.out; go_simp; try rfl⟩) (by assumption) ?_
  try simp only [zvl, zvm, zvn, Act.put, zvo, List.set_cons_succ, List.set_cons_zero]
  refine tk 8 ?_
  refine tu 9 ?_
  refine tu 10 ?_
  exact zwu
end Go.Proofs.YtiloljoancdcbaaGreatDoor
