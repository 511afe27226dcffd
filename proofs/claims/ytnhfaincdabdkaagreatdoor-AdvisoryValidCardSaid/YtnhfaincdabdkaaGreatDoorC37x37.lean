/-
  Lemmas for the law.
-/
import Derived.Test.YtnhfaincdabdkaaGreatDoorC37x35
import Derived.Outline
set_option linter.all false
set_option maxRecDepth 100000
set_option maxHeartbeats 12800000
namespace Go.Proofs.YtnhfaincdabdkaaGreatDoor
open Go.RowKit
theorem zsm {W : World} {X : Nat} {n : Int} {p : Option Addr} {m q : Nat} (h : W.heap[X]? = some (.cells #[.int .i64 n, .slice p m q] 48 (0, 0))) : W.cell? ⟨X, 0, none⟩ = some (.int .i64 n) /\ W.cell? ⟨X, 1, none⟩ = some (.slice p m q) :=
 ⟨zs7 h 0, zs7 h 1⟩
theorem zo1 (n : Int) (s : V.Bs) (w : World) (hm : zk w) (hs : s.length ≤ maxLen) :
  Calls Tryz.prog 151 #[.int .i64 n, .string ⟨s.toArray⟩] w (ux (V.parP n s) w) := by
 have HM := zs8 hm
 have hsz : (ByteArray.mk s.toArray).size = s.length := by simp [ByteArray.size]
 have HSD : Hid ((ByteArray.mk s.toArray).data.toList = s) := zs8 rfl
 have hb0 : Below w.heap.size w (w.alloc (.cells #[.int .i64 0, .slice none 0 0] 48)) := (ztb _ w).alloc (zta _) _
 have K0 : Hid ((w.alloc (.cells #[.int .i64 0, .slice none 0 0] 48)).heap[w.heap.size]? = some (.cells #[.int .i64 0, .slice none 0 0] 48 (0, 0))) := zs8 (by rw [heap_alloc, if_pos rfl])
 have HB0 := zs8 hb0
 have HZ0 : Hid ((w.alloc (.cells #[.int .i64 0, .slice none 0 0] 48)).heap.size = w.heap.size + 1) := zs8 (by simp)
 unfold maxLen at hs
 clear hb0 hm
 generalize (ByteArray.mk s.toArray) = S at *
 go_enter Tryz.func151, Tryz.ntmps151
 go_wp2_with fail
 generalize w.alloc (.cells #[.int .i64 0, .slice none 0 0] 48) = w0 at *
 refine (vy n w0).mono ?_
 rintro e w' ⟨rfl, rfl⟩
 rcases hsc : V.scheme n with _ | _
 ·have HR := zs8 (V.zm3 (s := s) hsc)
  clear hsc
  go_wp2_with (first | (refine zy rfl 48 _ _ rfl w.heap.size #[.int .i64 0, .slice none 0 0] _ K0.out rfl #[.int .i64 0, .slice none 0 0] rfl rfl (by kernel_rfl) (jd _ _ _ _) ?_; intro W2 hp2; have z0 : W2.cell? ⟨w.heap.size, 0, none⟩ = some (.int .i64 0) := zs7 hp2.here 0; have z1 : W2.cell? ⟨w.heap.size, 1, none⟩ = some (.slice none 0 0) := zs7 hp2.here 1) | fail)
  have HBF := zs8 (hp2.below HB0.out (zta _))
  clear hp2
  exact bodyPost_ret (v := .tuple #[.agg #[.int .i64 0, .slice none 0 0], .int .i64 14]) (by simp [results, Tryz.results151, go_sem, z0, z1]) rfl (by rw [HR.out]; exact ux.zero HBF.out _)
 ·have HSC := zs8 hsc
  clear hsc
  by_cases hlong : s.length ≤ 8192
  ·have HL := zs8 hlong
   have hq : ¬ 8192 < S.size := by omega
   have hq2 : ¬ (8192 : Int) < (S.size : Int) := by omega
   have HS : Hid (S.size < 4294967281) := zs8 (by omega)
   have HPL : Hid (∀ x ∈ Lib.split s V.orT, x.length ≤ 100000) := zs8 (fun x hx => by
     have := zkc V.orT _ s x hx
     omega)
   have HLL : Hid ((Lib.split s V.orT).length ≤ 10000) := zs8 (by have := zm2 s; omega)
   have HAN : Hid (V.xx n (Lib.split s V.orT) = none -> V.parP n s = (0, [], 2)) := zs8 (fun h => V.zr9 HSC.out HL.out h)
   have HUN : Hid (∀ xs, V.xx n (Lib.split s V.orT) = some xs -> V.jq n [] xs = none -> V.parP n s = (0, [], 3)) := zs8 (fun xs h g => V.zpr HSC.out HL.out h g)
   have HUS : Hid (∀ xs l, V.xx n (Lib.split s V.orT) = some xs -> V.jq n [] xs = some l -> V.parP n s = (n, l, 0)) := zs8 (fun xs l h g => V.parP_ok HSC.out HL.out h g)
   clear hlong hs hsz
   go_wp2_with fail
   refine (zn1 S w' (HM.out.below HB0.out) HS.out).mono ?_
   rintro e W0 ⟨rfl, hW0⟩
   rw [HSD.out] at hW0 ⊢
   have hb1 : Below w'.heap.size w' W0 := by rw [hW0]; exact (ztb _ _).alloc (zta _) _
   have HB1 := zs9 HB0 hb1
   have K1 := zs8 (za0 hb1 K0.out)
   have hz0 : w'.heap.size = w.heap.size + 1 := HZ0.out
   have HTX : Hid (∀ j (h : j < (Lib.split s V.orT).length), W0.cell? ⟨w.heap.size + 1, j, none⟩ = some (.string ⟨(Lib.split s V.orT)[j].toArray⟩)) := zs8 (fun j hj => by
     rw [hW0, ← hz0, World.cell?_alloc_new]; exact ve _ j hj)
   have HZ1 : Hid (W0.heap.size = w.heap.size + 2) := zs8 (by rw [hW0]; simp; omega)
   clear hb1 hW0
   rw [hz0]
   clear hz0
   have hll : (Lib.split s V.orT).length ≤ 10000 := HLL.out
   have HA0 := zs8 (V.zm0 n (Lib.split s V.orT))
   generalize Lib.split s V.orT = P at *
   go_wp2_with fail
   go_loopw [6, 28] (fun v iv wx => ∃ (k : Nat) (us : List Sl) (xs : List (List V.Itv)), k ≤ P.length /\ iv = .int .i64 k /\ us.length = k /\ V.zaw n P k xs /\ SetRow n W0.heap.size wx v us xs /\ Below W0.heap.size W0 wx) (fun _ iv _ => P.length - (intOf iv).toNat)
   case atStart => exact ⟨0, [], [], Nat.zero_le _, rfl, rfl, HA0.out, SetRow.nil _ _ _, ztb _ _⟩
   case round =>
    obtain ⟨k, us, xs, hk, rfl, hku, hto, hrow, hbx⟩ := hrel
    have HTO := zs8 hto
    have HROW := zs8 hrow
    have HKU := zs8 hku
    have HBX := zs8 hbx
    have HBF := zs9 HB1 hbx
    have KR := zs8 (za0 (hbx.mono (zta _)) K1.out)
    clear hto hrow hku hbx
    by_cases hlt : k < P.length
    ·have hc := za HBX.out (HTX.out k hlt)
     have hi1 : (0 : Int) ≤ (k : Int) := by omega
     have hi2 : (k : Int) < (P.length : Int) := by omega
     have HLX := zs8 (HPL.out _ (List.getElem_mem hlt))
     have HST := zs8 (fun (y : List V.Itv) hy => V.zm8 (x := y) HTO.out hlt hy)
     have HNO := zs8 (fun hy => V.zne HTO.out hlt hy)
     generalize P[k] = x at *
     go_wp2_with fail
     refine (zd1 n x wr (HM.out.below HBF.out) HSC.out HLX.out).mono ?_
     rintro e w2 ⟨m2, u, l, b, rfl, hor, hu, how, hb2⟩
     obtain ⟨p, q, rfl⟩ := hu.slice
     have HOR := zs8 hor
     have HU := zs8 hu
     have HOW := zs8 how
     have HB2 := zs8 hb2
     have KR2 := zs8 (za0 hb2 KR.out)
     clear hor hu how hb2 hc
     unfold setV
     have HBY := zs8 ((ztb w2.heap.size w2).alloc (zta _) (.cells #[.int .i64 m2, .slice p l.length q] 48))
     rcases b with _ | _
     ·have HR : Hid (V.parP n s = (0, [], 2)) := zs8 (HAN.out (HNO.out (by
        rcases HOR.out with ⟨_, h⟩ | ⟨h, _⟩
        · exact h
        · cases h)))
      go_wp2_with (first | (refine zy rfl 48 _ _ rfl w.heap.size #[.int .i64 0, .slice none 0 0] _ (za0 HBY.out KR2.out) rfl #[.int .i64 0, .slice none 0 0] rfl rfl (by kernel_rfl) (jd _ _ _ _) ?_; intro W5 hp5; have z0 : W5.cell? ⟨w.heap.size, 0, none⟩ = some (.int .i64 0) := zs7 hp5.here 0; have z1 : W5.cell? ⟨w.heap.size, 1, none⟩ = some (.slice none 0 0) := zs7 hp5.here 1) | fail)
      have HB5 := zs8 (hp5.below (HBF.out.trans ((HB2.out.trans (HBY.out.mono HB2.out.size)).mono HBF.out.size)) (zta _))
      clear hp5
      exact bodyPost_ret (v := .tuple #[.agg #[.int .i64 0, .slice none 0 0], .int .i64 2]) (by simp [results, Tryz.results151, go_sem, z0, z1]) rfl (by rw [HR.out]; exact ux.zero HB5.out _)
     ·have hor2 : m2 = n /\ V.altP n x = some l := by
       rcases HOR.out with ⟨h, _⟩ | ⟨_, h1, h2⟩
       ·cases h
       ·exact ⟨h1, h2⟩
      obtain ⟨rfl, hal⟩ := hor2
      have HAL := zs8 hal
      have hbZ : Below w2.heap.size w2 ((w2.alloc (.cells #[.int .i64 m2, .slice p l.length q] 48)).alloc (.cells #[.int .i64 m2, .slice p l.length q] 48)) := ((ztb _ _).alloc (zta _) _).alloc (by simp) _
      have HBZ := zs9 HB2 hbZ
      have HUZ := zs8 (HU.out.below hbZ)
      have HRZ := zs8 (HROW.out.later HBZ.out)
      have HKL : Hid (us.length ≤ 10000) := zs8 (by have := HKU.out; omega)
      have HSEP : Hid (l ≠ [] -> ∀ c, (Value.slice p l.length q).ownBlock = some c -> ∀ v, SetRow m2 W0.heap.size wr v us xs -> v.ownBlock ≠ some c) := zs8 (fun _ c hc v hv e => by
        have h1 := HOW.out c hc
        have h2 := GRow.lt hv.row c e
        omega)
      clear hal hbZ
      go_wp2_with (first | (refine zfu (zq8 m2) (by decide) (slE_one m2) setInfo (by decide) rfl _ _ 150 rfl Tryz.underlying150 W0.heap.size _ us rfl HRZ.out.row (w2.heap.size + 1) ⟨p, l.length, q⟩ rfl (fun j u hj => by rw [zd]; simpa [slE, Sl.v] using hj) (by have := HKL.out; omega) (by have := HBX.out.size; have := HBZ.out.size; omega) ?_; intro v3 W3 hr3 hg3 ho3) | fail)
      have HR3 := zs8 (HRZ.out.add (u := ⟨p, l.length, q⟩) hr3 hg3 ho3 HUZ.out (fun hl c hc => HSEP.out hl c hc _ HROW.out))
      have HB3 : Hid (Below W0.heap.size W0 W3) := zs8 ((HBX.out.trans (HBZ.out.mono HBX.out.size)).trans ⟨hg3.os, hg3.tape, hg3.output, hg3.size, fun i hi => hg3.block i (by have := HBX.out.size; have := HBZ.out.size; omega) (fun e => by have := GRow.block HRZ.out.row i e.symm; omega)⟩)
      have HT3 := zs8 (HST.out l HAL.out)
      clear hr3 hg3 ho3
      go_wp2_with fail
      go_roundw
      case rel => exact ⟨k + 1, _, _, by omega, by go_num, by rw [List.length_append, HKU.out]; rfl, HT3.out, HR3.out, HB3.out⟩
      case measure => simp [intOf]; omega
    ·obtain rfl : k = P.length := by omega
     have HAX := zs8 (V.zo7 HTO.out)
     have HONE := zs8 (V.zff HSC.out HAX.out).2
     have HUX := zs8 (fun h => HUN.out xs HAX.out h)
     have HUY := zs8 (fun l h => HUS.out xs l HAX.out h)
     have HXL : Hid (us.length = xs.length) := zs8 HROW.out.len
     obtain ⟨va, vc, rfl⟩ := GRow.slice HROW.out.row
     obtain ⟨wo, rfl⟩ : ∃ wo : World, wo = wr := ⟨_, rfl⟩
     have hulen : us.length ≤ 10000 := by have := HKU.out; omega
     have HX0 : Hid ((wo.alloc (.cells #[.int .i64 n, .slice none 0 0] 48)).heap[wo.heap.size]? = some (.cells #[.int .i64 n, .slice none 0 0] 48 (0, 0))) := zs8 (by rw [heap_alloc, if_pos rfl])
     have HBX0 := zs8 ((ztb wo.heap.size wo).alloc (zta _) (.cells #[.int .i64 n, .slice none 0 0] 48))
     have HZB : Hid (w.heap.size < wo.heap.size) := zs8 ((Array.getElem?_eq_some_iff.1 KR.out).1)
     go_wp2_with fail
     go_loopw [50] (fun iv wx => ∃ (k : Nat) (acc : List V.Itv) (u : Value), k ≤ xs.length /\ iv = .int .i64 k /\ V.jq n [] xs = V.jq n acc (xs.drop k) /\ V.Ok n acc /\ wx.heap[wo.heap.size]? = some (.cells #[.int .i64 n, u] 48 (0, 0)) /\ Itvs wx u acc /\ (∀ c, u.ownBlock = some c -> wo.heap.size < c) /\ Below wo.heap.size wo wx) (fun iv _ => us.length - (intOf iv).toNat)
     case atStart => exact ⟨0, [], _, Nat.zero_le _, rfl, rfl, V.zdv HSC.out, HX0.out, Itvs.nil _, (fun c hc => by cases hc), HBX0.out⟩
     case round =>
      obtain ⟨k, acc, u, hk, rfl, heq, hok, hbox, hset, hown, hby⟩ := hrel
      obtain ⟨p, q, rfl⟩ := hset.slice
      have HE := zs8 heq
      have HOK := zs8 hok
      have HBOX := zs8 hbox
      have HSET := zs8 hset
      have HOWN := zs8 hown
      have HBY := zs8 hby
      obtain ⟨x0, x1⟩ := zsm hbox
      have HBYW := zs9 HBF hby
      have KR1 := zs8 (za0 hby KR.out)
      have HZR : Hid (wo.heap.size < wr.heap.size) := zs8 ((Array.getElem?_eq_some_iff.1 hbox).1)
      clear heq hok hbox hset hown
      by_cases hlt : k < xs.length
      ·have hlu : k < us.length := by have := HXL.out; omega
       have hrow := HROW.out.later hby
       obtain ⟨g, cap, e, _, _, hcell⟩ := GRow.at (zq8 n) hrow.row k hlu
       cases e
       have c0 : wr.cell? ⟨g, k * 2, none⟩ = some (.int .i64 n) := hcell 0 _ rfl
       have c1 : wr.cell? ⟨g, k * 2 + 1, none⟩ = some us[k].v := hcell 1 _ rfl
       have HIT := (hrow.each k hlu hlt).1
       have HON := zs8 (HONE.out _ (List.getElem_mem hlt))
       have HNX := zs8 (V.zqr (n := n) (acc := acc) hlt)
       have hi1 : (0 : Int) ≤ (k : Int) := by omega
       have hi2 : (k : Int) < (us.length : Int) := by omega
       clear hrow hcell hby
       generalize us[k].v = uv at *
       generalize xs[k] = y at *
       have HITV := zs8 HIT
       obtain ⟨p2, q2, rfl⟩ := HIT.slice
       clear HIT
       have hbA : Below wr.heap.size wr (wr.alloc (.cells #[.int .i64 n, .slice p2 y.length q2] 48)) := (ztb _ _).alloc (zta _) _
       have HBA := zs8 hbA
       have y0 := za hbA x0
       have y1 := za hbA x1
       have HCH := zs8 (V.chk_of HOK.out HON.out.ok)
       have HOPF : Hid (V.opP V.orF n acc n y = if V.chkP n acc n y = 0 then V.limP n (V.opL n V.orF acc y) else (0, [], V.chkP n acc n y)) := zs8 rfl
       clear hbA
       go_wp2_with fail
       refine (znt n n (.slice p acc.length q) (.slice p2 y.length q2) acc y (wr.alloc (.cells #[.int .i64 n, .slice p2 y.length q2] 48)) (HM.out.below (HBYW.out.trans (HBA.out.mono HBYW.out.size))) (HSET.out.below HBA.out) (HITV.out.below HBA.out) (zgq HOK.out) (zgq HON.out.ok) (by have := HOK.out.len; unfold maxLen; omega) (by have := HON.out.one; unfold maxLen; omega)).mono ?_
       rintro e w5 ⟨u5, rfl, hu5, how5, hb5⟩
       obtain ⟨p5, q5, rfl⟩ := hu5.slice
       have HB5 := zs9 HBA hb5
       have HBOX5 := zs8 (za0 HB5.out HBOX.out)
       have KR5 := zs8 (za0 HB5.out KR1.out)
       have HBW5 := zs8 (HBYW.out.trans (HB5.out.mono HBYW.out.size))
       have HBO5 := zs8 (HBY.out.trans (HB5.out.mono HBY.out.size))
       have HU5 := zs8 hu5
       have HOW5 := zs8 (fun c hc => by have h1 := how5 c hc; have h2 := HBA.out.size; have h3 := HZR.out; exact (show wo.heap.size < c by omega))
       clear hu5 how5 hb5 x0 x1 y0 y1 c0 c1
       by_cases h32 : (V.opL n V.orF acc y).length ≤ 32
       ·have HOP : Hid (V.opP V.orF n acc n y = (n, V.opL n V.orF acc y, 0)) := zs8 (by rw [HOPF.out, if_pos HCH.out]; unfold V.limP; rw [if_pos h32])
        have HOK5 := zs8 (V.zpa V.orF HOK.out HON.out.ok h32)
        have HEQ : Hid (V.jq n [] xs = V.jq n (V.opL n V.orF acc y) (xs.drop (k + 1))) := zs8 (by rw [HE.out, HNX.out, if_pos h32])
        clear h32
        rw [HOP.out] at HU5 HOW5 ⊢
        simp only at HU5 HOW5 ⊢
        unfold setV
        go_wp2_with (first | (refine zy rfl 48 _ _ rfl wo.heap.size _ _ HBOX5.out rfl #[.int .i64 n, .slice p5 (V.opL n V.orF acc y).length q5] rfl rfl (by kernel_rfl) (jd _ _ _ _) ?_; intro W6 hp6) | fail)
        have H6 := zs8 hp6.here
        have HI6 := zs8 (hp6.itvs HU5.out (fun c hc => by have := HOW5.out c hc; omega))
        have HB6 := zs8 (hp6.below HBO5.out (zta _))
        clear hp6
        go_roundw
        case rel => exact ⟨k + 1, _, _, by omega, by go_num, HEQ.out, HOK5.out, H6.out, HI6.out, HOW5.out, HB6.out⟩
        case measure => simp [intOf]; omega
       ·have HOP : Hid (V.opP V.orF n acc n y = (0, [], 3)) := zs8 (by rw [HOPF.out, if_pos HCH.out]; unfold V.limP; rw [if_neg h32])
        have HR : Hid (V.parP n s = (0, [], 3)) := zs8 (HUX.out (by rw [HE.out, HNX.out, if_neg h32]))
        clear h32
        rw [HOP.out] at HU5 HOW5 ⊢
        simp only at HU5 HOW5 ⊢
        unfold setV
        go_wp2_with (first
          | (refine zy rfl 48 _ _ rfl wo.heap.size _ _ HBOX5.out rfl #[.int .i64 0, .slice p5 ([] : List V.Itv).length q5] rfl rfl (by kernel_rfl) (jd _ _ _ _) ?_; intro W6 hp6; have KR6 := zs8 (hp6.other KR5.out (by have := HZB.out; omega)); have HB6 := zs8 (hp6.below HBW5.out (by have := HZB.out; omega)); clear hp6)
          | (refine zy rfl 48 _ _ rfl w.heap.size #[.int .i64 0, .slice none 0 0] _ KR6.out rfl #[.int .i64 0, .slice none 0 0] rfl rfl (by kernel_rfl) (jd _ _ _ _) ?_; intro W7 hp7; have z0 : W7.cell? ⟨w.heap.size, 0, none⟩ = some (.int .i64 0) := zs7 hp7.here 0; have z1 : W7.cell? ⟨w.heap.size, 1, none⟩ = some (.slice none 0 0) := zs7 hp7.here 1)
          | fail)
        have HB7 := zs8 (hp7.below HB6.out (zta _))
        clear hp7
        exact bodyPost_ret (v := .tuple #[.agg #[.int .i64 0, .slice none 0 0], .int .i64 3]) (by simp [results, Tryz.results151, go_sem, z0, z1]) rfl (by rw [HR.out]; exact ux.zero HB7.out _)
      ·obtain rfl : k = xs.length := by omega
       have HR : Hid (V.parP n s = (n, acc, 0)) := zs8 (HUY.out acc (by rw [HE.out, List.drop_length]; rfl))
       have hnl : ¬ (xs.length : Int) < (us.length : Int) := by have := HXL.out; omega
       have hnl2 : ¬ xs.length < us.length := by have := HXL.out; omega
       clear hby
       go_wp2_with fail
       refine (zp0 (.slice p acc.length q) acc wr HSET.out (by have := HOK.out.len; omega)).mono ?_
       rintro e w5 ⟨u5, rfl, hu5, how5, hb5⟩
       obtain ⟨p5, q5, rfl⟩ := hu5.slice
       have HBOX5 := zs8 (za0 hb5 HBOX.out)
       have KR5 := zs8 (za0 hb5 KR1.out)
       have HBW5 := zs9 HBYW hb5
       have HU5 := zs8 hu5
       have HOW5 := zs8 (fun c hc => by have h1 := how5 c hc; have h3 := HZR.out; exact (show wo.heap.size < c by omega))
       clear hu5 how5 hb5 x0 x1
       go_wp2_with (first
         | (refine vw rfl 46 _ _ rfl wo.heap.size 1 #[.int .i64 n, .slice p acc.length q] _ HBOX5.out (by simp) rfl (.slice p5 acc.length q5) rfl zd5 rfl ?_; intro W6 hp6; have x0 : W6.cell? ⟨wo.heap.size, 0, none⟩ = some (.int .i64 n) := zs7 hp6.here 0; have x1 : W6.cell? ⟨wo.heap.size, 1, none⟩ = some (.slice p5 acc.length q5) := zs7 hp6.here 1; have KR6 := zs8 (hp6.other KR5.out (by have := HZB.out; omega)); have HB6 := zs8 (hp6.below HBW5.out (by have := HZB.out; omega)); have HI6 := zs8 (hp6.itvs HU5.out (fun c hc => by have := HOW5.out c hc; omega)); clear hp6)
         | (refine zy rfl 48 _ _ rfl w.heap.size #[.int .i64 0, .slice none 0 0] _ KR6.out rfl #[.int .i64 n, .slice p5 acc.length q5] rfl rfl (by kernel_rfl) (jd _ _ _ _) ?_; intro W7 hp7; have z0 : W7.cell? ⟨w.heap.size, 0, none⟩ = some (.int .i64 n) := zs7 hp7.here 0; have z1 : W7.cell? ⟨w.heap.size, 1, none⟩ = some (.slice p5 acc.length q5) := zs7 hp7.here 1)
         | fail)
       have HB7 := zs8 (hp7.below HB6.out (zta _))
       have HI7 := zs8 (hp7.itvs HI6.out (fun c hc => by have := HOW5.out c hc; have := HZB.out; omega))
       clear hp7
       exact bodyPost_ret (v := .tuple #[.agg #[.int .i64 n, .slice p5 acc.length q5], .int .i64 0]) (by simp [results, Tryz.results151, go_sem, z0, z1]) rfl (by rw [HR.out]; exact ⟨_, rfl, HI7.out, (fun c hc => by have := HOW5.out c hc; have := HZB.out; omega), HB7.out⟩)
  ·have HR := zs8 (V.zse HSC.out hlong)
   have hq : 8192 < S.size := by omega
   have hq2 : (8192 : Int) < (S.size : Int) := by omega
   clear hlong
   go_wp2_with (first | (refine zy rfl 48 _ _ rfl w.heap.size #[.int .i64 0, .slice none 0 0] _ K0.out rfl #[.int .i64 0, .slice none 0 0] rfl rfl (by kernel_rfl) (jd _ _ _ _) ?_; intro W2 hp2; have z0 : W2.cell? ⟨w.heap.size, 0, none⟩ = some (.int .i64 0) := zs7 hp2.here 0; have z1 : W2.cell? ⟨w.heap.size, 1, none⟩ = some (.slice none 0 0) := zs7 hp2.here 1) | fail)
   have HBF := zs8 (hp2.below HB0.out (zta _))
   clear hp2
   exact bodyPost_ret (v := .tuple #[.agg #[.int .i64 0, .slice none 0 0], .int .i64 3]) (by simp [results, Tryz.results151, go_sem, z0, z1]) rfl (by rw [HR.out]; exact ux.zero HBF.out _)
end Go.Proofs.YtnhfaincdabdkaaGreatDoor
