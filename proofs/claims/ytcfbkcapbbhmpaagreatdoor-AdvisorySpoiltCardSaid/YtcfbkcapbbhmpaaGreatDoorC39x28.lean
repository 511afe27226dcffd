import Derived.Test.YtcfbkcapbbhmpaaGreatDoorC39x24
import Derived.Test.YtcfbkcapbbhmpaaGreatDoorC39x23
import Derived.Deep.RegionHeld3
import Derived.Outline
set_option linter.all false
set_option maxRecDepth 100000
set_option maxHeartbeats 12800000
namespace Go.Proofs.YtcfbkcapbbhmpaaGreatDoor
open Go.RowKit
theorem zmx (y : V.Bs) (w : World) (hs : y.length ≤ 1000000) : Calls Tryz.prog 55 #[.string ⟨y.toArray⟩] w fun e w' => e = .returned (.tuple #[.string ⟨(V.unwP y).1.toArray⟩, .bool (V.unwP y).2]) /\ Below w.heap.size w w' := by
 have := zj0 ⟨y.toArray⟩ w (by rw [yo]; exact hs)
 rwa [kn] at this
theorem zta (w : World) (u : Lsl) : ∀ j v, (lslE u)[j]? = some v -> (w.alloc (.cells #[u.v] 41)).cell? ⟨w.heap.size, j, none⟩ = some v := fun j v h => by
 rw [World.cell?_alloc_new]
 simpa [lslE] using h
theorem zzb {P : Prop} (h : P := by
 go_enter Tryz.func27, Tryz.ntmps27
 go_wp2
 go_ret2
 exact xx.err HP.out (zwh _ _)) : P := h
theorem zk4 (v : Value) (bs : V.Bs) (w : World) (hm : zg w) (hv : wl w v bs) (hl : bs.length ≤ maxLen) :
  Calls Tryz.prog 27 #[v] w (xx bs w) := by
 obtain ⟨va, vc, rfl, hcap, hat⟩ := hv
 have HM := zwe hm
 unfold maxLen at hl
 clear hm
 by_cases hbig : 262144 < bs.length
 ·have HP : Hid (V.decP bs = ([], 3)) := zwe (by unfold V.decP; rw [if_pos hbig])
  have hn : (262144 : Int) < (bs.length : Int) := by omega
  clear hat
  exact zzb
 have hn : ¬ (262144 : Int) < (bs.length : Int) := by omega
 by_cases h0 : bs.length = 0
 ·have HP : Hid (V.decP bs = ([], 0)) := zwe (by rw [List.length_eq_zero_iff.1 h0]; exact V.zfy)
  have hz : ((bs.length : Int) == 0) = true := by rw [h0]; rfl
  clear hat
  exact zzb
 have hz : ((bs.length : Int) == 0) = false := by rw [zwi]; omega
 have hne : bs ≠ [] := fun e => h0 (by rw [e]; rfl)
 obtain ⟨b, c, hbc⟩ : ∃ b c, bs = b ++ [c] := ⟨bs.dropLast, bs.getLast hne, (List.dropLast_concat_getLast hne).symm⟩
 have hlen : bs.length = b.length + 1 := by rw [hbc]; simp
 obtain ⟨g, off, rfl, hg, hcm0⟩ := hat b.length (by omega)
 have hcm : w.cell? ⟨g, off + b.length, none⟩ = some (.int .u8 c.toNat) := by
  rw [hcm0]
  simp [hbc]
 have HAT : Hid (∀ j (h : j < b.length), w.cell? ⟨g, off + j, none⟩ = some (.int .u8 (b[j]).toNat)) := zwe (fun j h => by
   obtain ⟨g2, off2, e, _, hc⟩ := hat j (by omega)
   cases e
   rw [hc]
   simp [hbc, List.getElem_append_left h])
 obtain ⟨m, hmb⟩ : ∃ m, m = b.length := ⟨_, rfl⟩
 obtain ⟨n, hnb⟩ : ∃ n, n = bs.length := ⟨_, rfl⟩
 rw [← hmb] at hcm
 rw [← hnb] at hn hz hcap ⊢
 have hq : IntKind.i64.wrap ((n : Int) - 1) = (m : Int) := by unfold IntKind.wrap; simp [IntKind.signed, IntKind.bits]; omega
 have hi1 : (0 : Int) ≤ (m : Int) := by omega
 have hi2 : (m : Int) < (n : Int) := by omega
 have hi3 : (m : Int) ≤ (vc : Int) := by omega
 have hmn : m ≤ 262143 := by omega
 have hmv : m ≤ vc := by omega
 clear hcm0 hat
 by_cases hc10 : c = 10
 ·subst hc10
  have hcv := zf5 w g off m vc b hmb.symm HAT.out
  have HDP : Hid (V.decP bs = match V.xd (V.zd 10 b) with | none => ([], 2) | some ls => if V.encE ls = 0 then (ls, 0) else ([], 2)) := zwe (by
    rw [hbc]
    exact V.decP_ref (by rw [← hbc]; omega))
  have HMB := zwe hmb
  clear hmb hnb hlen hne h0 hbig HAT hl hcap hbc
  go_enter Tryz.func27, Tryz.ntmps27
  go_wp2_with fail
  refine (zlc 10 b w HM.out (by have := HMB.out; omega)).mono ?_
  rintro e w1 ⟨rfl, hw1⟩
  have hb1 : Below w.heap.size w w1 := by rw [hw1]; exact (zwh _ w).alloc (zwg _) _
  have hs1 : Strs w1 (.slice (some ⟨w.heap.size, 0, none⟩) (V.zd 10 b).length (V.zd 10 b).length) (V.zd 10 b) := by rw [hw1]; exact zcl w _
  have HB1 := zwe hb1
  have HS1 := zwe hs1
  have HRM : Hid (∀ x ∈ V.zd 10 b, x.length ≤ 262143) := zwe (fun x hx => by
    have := V.zdl 10 hx
    have := HMB.out
    omega)
  have HRL : Hid ((V.zd 10 b).length ≤ 262144) := zwe (by have := V.zf9 10 b; have := HMB.out; omega)
  have HDZ : Hid (∀ ls, V.xd (V.zd 10 b) = some ls -> V.jp ls ls.length ≤ 9000000) := zwe (fun ls h => by
    rw [V.doc_sz h]
    have := HMB.out
    omega)
  clear hb1 hs1 hw1 hcv hcm HMB hq hi1 hi2 hi3 hmn hmv hn hz
  generalize V.zd 10 b = R at *
  generalize w.heap.size = g1 at HS1 ⊢
  have hrl := HRL.out
  go_wp2
  go_loopw [5, 6] (fun ov iv wx => ∃ (k : Nat) (us : List Lsl) (ls : List (List V.Bs)), k ≤ R.length /\ iv = .int .i64 k /\ LRow w1.heap.size wx ov us ls /\ V.xd R = (V.xd (R.drop k)).map (ls ++ ·) /\ Below w1.heap.size w1 wx /\ ls.length = k) (fun _ iv _ => R.length - (intOf iv).toNat)
  case atStart => exact ⟨0, [], [], Nat.zero_le _, rfl, LRow.nil _ _, by simp, zwh _ _, rfl⟩
  case round =>
   obtain ⟨k, us, ls, hk, rfl, hrow, hpr, hbr, hlk⟩ := hrel
   obtain ⟨oa, oc, rfl⟩ := hrow.slice
   have HR := zwe hrow
   have HPR := zwe hpr
   have HBR := zwe hbr
   have HLK := zwe hlk
   clear hrow hpr hbr hlk
   have hzr := HBR.out.size
   by_cases hlt : k < R.length
   ·have HRA := zwe (V.rows_at HPR.out hlt)
    have hxl := HRM.out _ (List.getElem_mem hlt)
    obtain ⟨ga, gc, ge, gat⟩ := HS1.out
    cases ge
    obtain ⟨b1, off1, e1, hlt1, hc1⟩ := gat k hlt
    cases e1
    have hc := (HBR.out.cell (p := ⟨g1, 0 + k, none⟩) hlt1).trans hc1
    rw [Nat.zero_add] at hc
    have hj1 : (0 : Int) ≤ (k : Int) := by omega
    have hj2 : (k : Int) < (R.length : Int) := by omega
    generalize R[k] = x at *
    clear hc1 gat
    go_wp2_with fail
    refine (zlc 32 x wr (HM.out.below (HB1.out.trans (HBR.out.mono HB1.out.size))) (by omega)).mono ?_
    rintro e w2 ⟨rfl, hw2⟩
    have hb2 : Below wr.heap.size wr w2 := by rw [hw2]; exact (zwh _ wr).alloc (zwg _) _
    have hs2 : Strs w2 (.slice (some ⟨wr.heap.size, 0, none⟩) (V.zd 32 x).length (V.zd 32 x).length) (V.zd 32 x) := by rw [hw2]; exact zcl wr _
    have HS2 := zwe hs2
    have HR2 := zwe (HR.out.later hb2)
    have HB2 := zwe (HBR.out.trans (hb2.mono hzr))
    have HPM : Hid (∀ y ∈ V.zd 32 x, y.length ≤ 262143) := zwe (fun y hy => by
      have := V.zdl 32 hy
      omega)
    have HPL : Hid ((V.zd 32 x).length ≤ 262144) := zwe (by have := V.zf9 32 x; omega)
    have hz2 : wr.heap.size < w2.heap.size := by rw [hw2]; simp
    have hvl : ∀ q, (Value.slice oa ls.length oc).ownBlock = some q -> q < wr.heap.size := HR.out.row.lt
    have HVL := zwe hvl
    have HZ2 := zwe hz2
    clear hb2 hs2 hw2 hc hvl hz2
    generalize V.zd 32 x = P at *
    have HBR2 := HBR
    clear HR HBR
    generalize wr.heap.size = g2 at *
    have hpl := HPL.out
    go_wp2
    go_loopw [8, 9] (fun ov jv wx => ∃ (j : Nat) (l : List V.Bs), j ≤ P.length /\ jv = .int .i64 j /\ GRow 9 1 wrdE wx w2.heap.size ov l /\ V.qg P = (V.qg (P.drop j)).map (l ++ ·) /\ Below w2.heap.size w2 wx /\ l.length = j) (fun _ jv _ => P.length - (intOf jv).toNat)
    case atStart => exact ⟨0, [], Nat.zero_le _, rfl, GRow.nil _ _, by simp, zwh _ _, rfl⟩
    case round =>
     obtain ⟨j, l, hj, rfl, hrw, hpw, hbw, hlj⟩ := hrel
     obtain ⟨oa2, oc2, rfl⟩ := GRow.slice hrw
     have HW := zwe hrw
     have HPW := zwe hpw
     have HBW := zwe hbw
     have HLJ := zwe hlj
     clear hrw hpw hbw hlj
     have hzw := HBW.out.size
     by_cases hjl : j < P.length
     ·have HWA := zwe (V.words_at HPW.out hjl)
      have hyl := HPM.out _ (List.getElem_mem hjl)
      obtain ⟨ga2, gc2, ge2, gat2⟩ := HS2.out
      cases ge2
      obtain ⟨b3, off3, e3, hlt3, hc3⟩ := gat2 j hjl
      cases e3
      have hc4 := (HBW.out.cell (p := ⟨g2, 0 + j, none⟩) hlt3).trans hc3
      rw [Nat.zero_add] at hc4
      have hq1 : (0 : Int) ≤ (j : Int) := by omega
      have hq2 : (j : Int) < (P.length : Int) := by omega
      generalize P[j] = y at *
      clear hc3 gat2
      go_wp2_with fail
      refine (zmx y wr (by omega)).mono ?_
      rintro e w4 ⟨rfl, hb4⟩
      have HB4 := zwe (HBW.out.trans (hb4.mono hzw))
      have HW4 := zwe (GRow.below HW.out hb4)
      clear hb4 HW HBW hc4
      rcases V.zfw y with hu | ⟨wd, hu, _⟩
      ·have HP : Hid (V.decP bs = ([], 2)) := zwe (by rw [HDP.out, HRA.out.1 (HWA.out.1 hu)])
       have HBE := zwe (HB1.out.trans ((HB2.out.trans (HB4.out.mono HB2.out.size)).mono HB1.out.size))
       rw [hu]
       clear hu
       go_wp2
       go_ret2
       exact xx.err HP.out HBE.out
      ·have HNX := zwe (HWA.out.2 wd hu)
       rw [hu]
       clear hu HWA
       have hzw4 := HB4.out.size
       have hb5 : Below w4.heap.size w4 (w4.alloc (.cells #[.string ⟨wd.toArray⟩] 9)) := (zwh _ w4).alloc (zwg _) _
       have HW5 := zwe (GRow.below HW4.out hb5)
       have HB5 := zwe (HB4.out.trans (hb5.mono hzw4))
       have HNW : Hid (∀ i u, (wrdE wd)[i]? = some u -> (w4.alloc (.cells #[.string ⟨wd.toArray⟩] 9)).cell? ⟨w4.heap.size, i, none⟩ = some u) := zwe (fun i u hu => by
         rw [World.cell?_alloc_new]
         simpa [wrdE] using hu)
       have hz5 := hb5.size
       clear hb5 HW4 HB4
       go_wp2_with (first | (refine zkf zsb (by decide) zr3 zu0 (by decide) rfl _ _ 41 rfl Tryz.underlying41 w2.heap.size (.slice oa2 l.length oc2) l rfl HW5.out w4.heap.size wd rfl HNW.out (by have := HLJ.out; omega) (by omega) ?_; intro v9 w9 hr9 hg9 ho9) | fail)
       have HW9 := zwe hr9
       have HB9 := zwe (HB5.out.trans (zk hg9 HW5.out.block (zwg _) (by omega)))
       have hl9 : (l ++ [wd]).length = j + 1 := by have := HLJ.out; simp; omega
       have HL9 := zwe hl9
       clear hr9 hg9 ho9 HNW HW5 HB5 hl9
       go_wp2
       go_roundw
       case rel => exact ⟨j + 1, l ++ [wd], by omega, by go_num, HW9.out, HNX.out, HB9.out, HL9.out⟩
       case measure => simp [intOf]; omega
     ·obtain rfl : j = P.length := by omega
      have HWP : Hid (V.qg P = some l) := zwe (by rw [HPW.out, List.drop_length]; simp [V.qg])
      have HNX := zwe (HRA.out.2 l HWP.out)
      have HU := zwe (zr6 HW.out)
      have HRW := zwe (HR2.out.later HBW.out)
      have hBb : ∀ q, (Value.slice oa2 l.length oc2).ownBlock = some q -> w2.heap.size ≤ q := HW.out.block
      have HBB := zwe hBb
      have HBX := zwe (HB2.out.trans (HBW.out.mono HB2.out.size))
      have hb5 : Below wr.heap.size wr (wr.alloc (.cells #[(⟨oa2, l.length, oc2⟩ : Lsl).v] 41)) := (zwh _ wr).alloc (zwg _) _
      have HRW5 := zwe (HRW.out.later hb5)
      have HU5 := zwe (xt HU.out hb5)
      have HB5 := zwf HBX hb5
      have HCL := zwe (zta wr ⟨oa2, l.length, oc2⟩)
      have hz5 := hb5.size
      have hzx := HBX.out.size
      have hrl2 := HRL.out
      have hN1 : w1.heap.size ≤ (wr.alloc (.cells #[(⟨oa2, l.length, oc2⟩ : Lsl).v] 41)).heap.size := by omega
      have hul : us.length ≤ 1000000 := by rw [HRW5.out.len, HLK.out]; omega
      clear hBb hb5 HW HPW HRW HU HBX
      go_wp2_with (first | (refine zkf zec (by decide) zg5 zem (by decide) rfl _ _ 42 rfl Tryz.underlying42 w1.heap.size (.slice oa ls.length oc) us rfl HRW5.out.row wr.heap.size ⟨oa2, l.length, oc2⟩ rfl HCL.out hul hN1 ?_; intro v9 w9 hr9 hg9 ho9) | fail)
      have HN9 := zwe (HRW5.out.add hr9 hg9 ho9 HU5.out (fun _ q hq e => by
        have h1 := HBB.out q hq
        have h2 := HVL.out q e
        have h3 := HZ2.out
        omega))
      have HB9 := zwe (HB5.out.trans (zk hg9 HRW5.out.row.block (zwg _) hN1))
      have hl9 : (ls ++ [l]).length = k + 1 := by have := HLK.out; simp; omega
      have HL9 := zwe hl9
      clear hr9 hg9 ho9 HCL HRW5 HB5 HU5 hl9
      go_wp2
      go_roundw
      case rel => exact ⟨k + 1, _, ls ++ [l], by omega, by go_num, HN9.out, HNX.out, HB9.out, HL9.out⟩
      case measure => simp [intOf]; omega
   ·obtain rfl : k = R.length := by omega
    have HRP : Hid (V.xd R = some ls) := zwe (by rw [HPR.out, List.drop_length]; simp [V.xd])
    have HLN := zwe HR.out.lines
    have HCP := zwe HR.out.cap
    have HMX : Hid (∀ l ∈ ls, ∀ x ∈ l, x.length ≤ maxLen) := zwe (fun l hl x hx => by
      have := V.zrn HRP.out HRM.out l hl x hx
      unfold maxLen
      omega)
    have HDP2 : Hid (V.decP bs = if V.encE ls = 0 then (ls, 0) else ([], 2)) := zwe (by rw [HDP.out, HRP.out])
    go_wp2_with fail
    refine (zqz _ ls wr HLN.out HMX.out (HDZ.out ls HRP.out)).mono ?_
    intro e w3 he
    have HBE := zwe (HB1.out.trans ((HBR.out.trans (he.2.2.mono hzr)).mono HB1.out.size))
    by_cases hz : V.encE ls = 0
    ·obtain ⟨u, rfl, _⟩ := he.1 hz
     have HP : Hid (V.decP bs = (ls, 0)) := zwe (by rw [HDP2.out, if_pos hz])
     have HL3 := zwe (HLN.out.below he.2.2)
     clear he hz
     go_wp2
     go_ret2
     exact ⟨_, by rw [HP.out]; rfl, by rw [HP.out]; exact HL3.out, HCP.out, HBE.out⟩
    ·have hq := he.2.1 hz
     subst hq
     have HP : Hid (V.decP bs = ([], 2)) := zwe (by rw [HDP2.out, if_neg hz])
     have hzb : (V.encE ls == 0) = false := by rw [zwi]; exact hz
     clear he
     generalize V.encE ls = ee at *
     go_wp2
     go_ret2
     exact xx.err HP.out HBE.out
 ·have HP : Hid (V.decP bs = ([], 2)) := zwe (V.zu8 hne (by rw [hbc]; simpa using hc10) (by omega))
  have hqc : ((c.toNat : Int) == 10) = false := by
   rw [zwi]
   intro e
   exact hc10 (by apply UInt8.toNat_inj.1; have : c.toNat = 10 := by omega
                  rw [this]; rfl)
  clear hmb hnb hlen hne h0 hbig HAT hl hcap hbc
  exact zzb
theorem Itvs.set2 {w : World} {u : Value} {l : List V.Itv} {b : Nat} {x y : Value} (h : Itvs w u l) (hs : ∀ c, u.ownBlock = some c -> c ≠ b) : Itvs ((w.setCell ⟨b, 0, none⟩ x).setCell ⟨b, 1, none⟩ y) u l := by
 have g : ∀ (W : World) (o : Nat) (z : Value), W.grownBy (W.setCell ⟨b, o, none⟩ z) (some b) := fun W o z => ⟨rfl, rfl, rfl, by simp [World.setCell], fun k _ hk => Below.heap_setCell _ _ _ _ (fun e => hk (by rw [e]))⟩
 exact (h.grown (g _ _ _) (fun _ c hc e => hs c hc (Option.some.inj e).symm)).grown (g _ _ _) (fun _ c hc e => hs c hc (Option.some.inj e).symm)
theorem xi {w w5 : World} (h : Below w.heap.size w w5) (a b : Value) : Below w.heap.size w ((w5.setCell ⟨w.heap.size, 0, none⟩ a).setCell ⟨w.heap.size, 1, none⟩ b) := (h.setCell (zwg _) _).setCell (zwg _) _
theorem newd0 (w : World) (a b : Value) (t : TypeId) : (w.drew.alloc (.cells #[a, b] t)).cell? ⟨w.heap.size, 0, none⟩ = some a := by simp [ze]
theorem newd1 (w : World) (a b : Value) (t : TypeId) : (w.drew.alloc (.cells #[a, b] t)).cell? ⟨w.heap.size, 1, none⟩ = some b := by simp [ze]
theorem newdz (w : World) (a b : Value) (t : TypeId) : w.heap.size < (w.drew.alloc (.cells #[a, b] t)).heap.size := by simp
theorem newdf (w : World) (a b : Value) (t : TypeId) (i : Nat) : (w.drew.alloc (.cells #[a, b] t)).frozen? ⟨w.heap.size, i, none⟩ = false := by simp [zz]
theorem zxr {P : Prop} (h : P := by
 have HOW5 := zwe (fun c hc => by have h1 := how5 c hc; have h3 := HZR.out; simp at h1; exact (show wo.heap.size < c by omega))
 clear hS hb5 hQ5 e0 e1 e2 e3 hu5 how5 x0 x1 c0 c1
 go_wp2_with (first | (refine zi rfl 45 _ _ rfl wo.heap.size _ _ (ku HBS.out HBOX.out) rfl #[.int .i64 n, .slice p5 (V.opL n V.orF acc y).length q5] rfl rfl (by kernel_rfl) (zt _ _ _ _) ?_; intro W6 hp6) | fail)
 have H6 := zwe hp6.here
 have HI6 := zwe (hp6.itvs HIV.out (fun c hc => by have := HOW5.out c hc; omega))
 have HB6 := zwe (hp6.below (HBY.out.trans (HBS.out.mono HBY.out.size)) (zwg _))
 clear hp6
 go_roundw
 case rel => exact ⟨k + 1, _, _, by omega, by go_num, HEQ.out, HOK5.out, H6.out, HI6.out, HOW5.out, HB6.out⟩
 case measure => simp [intOf]; omega) : P := h
theorem zau (n : Int) (s : V.Bs) (w : World) (hm : zg w) (hs : s.length ≤ maxLen) :
  Calls Tryz.prog 30 #[.int .i64 n, .string ⟨s.toArray⟩] w (ju (V.parP n s) w) := by
 have HM := zwe hm
 have hsz : (ByteArray.mk s.toArray).size = s.length := by simp [ByteArray.size]
 have HSD : Hid ((ByteArray.mk s.toArray).data.toList = s) := zwe rfl
 have hb0 : Below w.heap.size w (w.alloc (.cells #[.int .i64 0, .slice none 0 0] 45)) := (zwh _ w).alloc (zwg _) _
 have K0 : Hid ((w.alloc (.cells #[.int .i64 0, .slice none 0 0] 45)).heap[w.heap.size]? = some (.cells #[.int .i64 0, .slice none 0 0] 45 (0, 0))) := zwe (by rw [heap_alloc, if_pos rfl])
 have HB0 := zwe hb0
 have HZ0 : Hid ((w.alloc (.cells #[.int .i64 0, .slice none 0 0] 45)).heap.size = w.heap.size + 1) := zwe (by simp)
 unfold maxLen at hs
 clear hb0 hm
 generalize (ByteArray.mk s.toArray) = S at *
 go_enter Tryz.func30, Tryz.ntmps30
 go_wp2_with fail
 generalize w.alloc (.cells #[.int .i64 0, .slice none 0 0] 45) = w0 at *
 refine (zcg n w0).mono ?_
 rintro e w' ⟨rfl, rfl⟩
 rcases hsc : V.scheme n with _ | _
 ·have HR := zwe (V.zib (s := s) hsc)
  clear hsc
  go_wp2_with (first | (refine zi rfl 45 _ _ rfl w.heap.size #[.int .i64 0, .slice none 0 0] _ K0.out rfl #[.int .i64 0, .slice none 0 0] rfl rfl (by kernel_rfl) (zt _ _ _ _) ?_; intro W2 hp2; have z0 : W2.cell? ⟨w.heap.size, 0, none⟩ = some (.int .i64 0) := zwd hp2.here 0; have z1 : W2.cell? ⟨w.heap.size, 1, none⟩ = some (.slice none 0 0) := zwd hp2.here 1) | fail)
  have HBF := zwe (hp2.below HB0.out (zwg _))
  clear hp2
  exact bodyPost_ret (v := .tuple #[.agg #[.int .i64 0, .slice none 0 0], .int .i64 14]) (by simp [results, Tryz.results30, go_sem, z0, z1]) rfl (by rw [HR.out]; exact ju.zero HBF.out _)
 ·have HSC := zwe hsc
  clear hsc
  by_cases hlong : s.length ≤ 8192
  ·have HL := zwe hlong
   have hq : ¬ 8192 < S.size := by omega
   have hq2 : ¬ (8192 : Int) < (S.size : Int) := by omega
   have HS : Hid (S.size < 4294967281) := zwe (by omega)
   have HPL : Hid (∀ x ∈ Lib.split s V.orT, x.length ≤ 100000) := zwe (fun x hx => by
     have := zhu V.orT _ s x hx
     omega)
   have HLL : Hid ((Lib.split s V.orT).length ≤ 10000) := zwe (by have := zh9 s; omega)
   have HAN : Hid (V.ya n (Lib.split s V.orT) = none -> V.parP n s = (0, [], 2)) := zwe (fun h => V.zns HSC.out HL.out h)
   have HUN : Hid (∀ xs, V.ya n (Lib.split s V.orT) = some xs -> V.jb n [] xs = none -> V.parP n s = (0, [], 3)) := zwe (fun xs h g => V.zkr HSC.out HL.out h g)
   have HUS : Hid (∀ xs l, V.ya n (Lib.split s V.orT) = some xs -> V.jb n [] xs = some l -> V.parP n s = (n, l, 0)) := zwe (fun xs l h g => V.zuo HSC.out HL.out h g)
   clear hlong hs hsz
   go_wp2_with fail
   refine (ziz S w0 (HM.out.below HB0.out) HS.out).mono ?_
   rintro e W0 ⟨rfl, hW0⟩
   rw [HSD.out] at hW0 ⊢
   have hb1 : Below w0.heap.size w0 W0 := by rw [hW0]; exact (zwh _ _).alloc (zwg _) _
   have HB1 := zwf HB0 hb1
   have K1 := zwe (ku hb1 K0.out)
   have hz0 : w0.heap.size = w.heap.size + 1 := HZ0.out
   have HTX : Hid (∀ j (h : j < (Lib.split s V.orT).length), W0.cell? ⟨w.heap.size + 1, j, none⟩ = some (.string ⟨(Lib.split s V.orT)[j].toArray⟩)) := zwe (fun j hj => by
     rw [hW0, ← hz0, World.cell?_alloc_new]; exact yp _ j hj)
   have HZ1 : Hid (W0.heap.size = w.heap.size + 2) := zwe (by rw [hW0]; simp; omega)
   clear hb1 hW0
   rw [hz0]
   clear hz0
   have hll : (Lib.split s V.orT).length ≤ 10000 := HLL.out
   have HA0 := zwe (V.zh7 n (Lib.split s V.orT))
   generalize Lib.split s V.orT = P at *
   go_wp2_with fail
   go_loopw [7, 8] (fun v iv wx => ∃ (k : Nat) (us : List Sl) (xs : List (List V.Itv)), k ≤ P.length /\ iv = .int .i64 k /\ us.length = k /\ V.zbx n P k xs /\ SetRow n W0.heap.size wx v us xs /\ Below W0.heap.size W0 wx) (fun _ iv _ => P.length - (intOf iv).toNat)
   case atStart => exact ⟨0, [], [], Nat.zero_le _, rfl, rfl, HA0.out, SetRow.nil _ _ _, zwh _ _⟩
   case round =>
    obtain ⟨k, us, xs, hk, rfl, hku, hto, hrow, hbx⟩ := hrel
    have HTO := zwe hto
    have HROW := zwe hrow
    have HKU := zwe hku
    have HBX := zwe hbx
    have HBF := zwf HB1 hbx
    have KR := zwe (ku (hbx.mono (zwg _)) K1.out)
    clear hto hrow hku hbx
    by_cases hlt : k < P.length
    ·have hc := za HBX.out (HTX.out k hlt)
     have hi1 : (0 : Int) ≤ (k : Int) := by omega
     have hi2 : (k : Int) < (P.length : Int) := by omega
     have HLX := zwe (HPL.out _ (List.getElem_mem hlt))
     have HST := zwe (fun (y : List V.Itv) hy => V.zif (x := y) HTO.out hlt hy)
     have HNO := zwe (fun hy => V.zik HTO.out hlt hy)
     generalize P[k] = x at *
     go_wp2_with fail
     refine (zgq n x wr (HM.out.below HBF.out) HSC.out HLX.out).mono ?_
     rintro e w2 ⟨m2, u, l, b, rfl, hor, hu, how, hb2⟩
     obtain ⟨p, q, rfl⟩ := hu.slice
     have HOR := zwe hor
     have HU := zwe hu
     have HOW := zwe how
     have HB2 := zwe hb2
     have KR2 := zwe (ku hb2 KR.out)
     clear hor hu how hb2 hc
     unfold setV
     have HBY := zwe ((zwh w2.heap.size w2).alloc (zwg _) (.cells #[.int .i64 m2, .slice p l.length q] 45))
     rcases b with _ | _
     ·have HR : Hid (V.parP n s = (0, [], 2)) := zwe (HAN.out (HNO.out (by
        rcases HOR.out with ⟨_, h⟩ | ⟨h, _⟩
        · exact h
        · cases h)))
      go_wp2_with (first | (refine zi rfl 45 _ _ rfl w.heap.size #[.int .i64 0, .slice none 0 0] _ (ku HBY.out KR2.out) rfl #[.int .i64 0, .slice none 0 0] rfl rfl (by kernel_rfl) (zt _ _ _ _) ?_; intro W5 hp5; have z0 : W5.cell? ⟨w.heap.size, 0, none⟩ = some (.int .i64 0) := zwd hp5.here 0; have z1 : W5.cell? ⟨w.heap.size, 1, none⟩ = some (.slice none 0 0) := zwd hp5.here 1) | fail)
      have HB5 := zwe (hp5.below (HBF.out.trans ((HB2.out.trans (HBY.out.mono HB2.out.size)).mono HBF.out.size)) (zwg _))
      clear hp5
      exact bodyPost_ret (v := .tuple #[.agg #[.int .i64 0, .slice none 0 0], .int .i64 2]) (by simp [results, Tryz.results30, go_sem, z0, z1]) rfl (by rw [HR.out]; exact ju.zero HB5.out _)
     ·exact zwy
    ·obtain rfl : k = P.length := by omega
     have HAX := zwe (V.zj3 HTO.out)
     have HONE := zwe (V.zfa HSC.out HAX.out).2
     have HUX := zwe (fun h => HUN.out xs HAX.out h)
     have HUY := zwe (fun l h => HUS.out xs l HAX.out h)
     have HXL : Hid (us.length = xs.length) := zwe HROW.out.len
     obtain ⟨va, vc, rfl⟩ := GRow.slice HROW.out.row
     obtain ⟨wo, rfl⟩ : ∃ wo : World, wo = wr := ⟨_, rfl⟩
     have hulen : us.length ≤ 10000 := by have := HKU.out; omega
     have HX0 : Hid ((wo.alloc (.cells #[.int .i64 n, .slice none 0 0] 45)).heap[wo.heap.size]? = some (.cells #[.int .i64 n, .slice none 0 0] 45 (0, 0))) := zwe (by rw [heap_alloc, if_pos rfl])
     have HBX0 := zwe ((zwh wo.heap.size wo).alloc (zwg _) (.cells #[.int .i64 n, .slice none 0 0] 45))
     have HZB : Hid (w.heap.size < wo.heap.size) := zwe ((Array.getElem?_eq_some_iff.1 KR.out).1)
     go_wp2_with fail
     go_loopw [12] (fun iv wx => ∃ (k : Nat) (acc : List V.Itv) (u : Value), k ≤ xs.length /\ iv = .int .i64 k /\ V.jb n [] xs = V.jb n acc (xs.drop k) /\ V.Ok n acc /\ wx.heap[wo.heap.size]? = some (.cells #[.int .i64 n, u] 45 (0, 0)) /\ Itvs wx u acc /\ (∀ c, u.ownBlock = some c -> wo.heap.size < c) /\ Below wo.heap.size wo wx) (fun iv _ => us.length - (intOf iv).toNat)
     case atStart => exact ⟨0, [], _, Nat.zero_le _, rfl, rfl, V.zen HSC.out, HX0.out, Itvs.nil _, (fun c hc => by cases hc), HBX0.out⟩
     case round =>
      obtain ⟨k, acc, u, hk, rfl, heq, hok, hbox, hset, hown, hby⟩ := hrel
      obtain ⟨p, q, rfl⟩ := hset.slice
      have HE := zwe heq
      have HOK := zwe hok
      have HBOX := zwe hbox
      have HSET := zwe hset
      have HOWN := zwe hown
      have HBY := zwe hby
      obtain ⟨x0, x1⟩ := zaj hbox
      have HBYW := zwf HBF hby
      have KR1 := zwe (ku hby KR.out)
      have HZR : Hid (wo.heap.size < wr.heap.size) := zwe ((Array.getElem?_eq_some_iff.1 hbox).1)
      clear heq hok hbox hset hown
      by_cases hlt : k < xs.length
      ·have hlu : k < us.length := by have := HXL.out; omega
       have hrow := HROW.out.later hby
       obtain ⟨g, cap, e, _, _, hcell⟩ := GRow.at (zjs n) hrow.row k hlu
       cases e
       have c0 : wr.cell? ⟨g, k * 2, none⟩ = some (.int .i64 n) := hcell 0 _ rfl
       have c1 : wr.cell? ⟨g, k * 2 + 1, none⟩ = some us[k].v := hcell 1 _ rfl
       have HIT := (hrow.each k hlu hlt).1
       have HON := zwe (HONE.out _ (List.getElem_mem hlt))
       have HNX := zwe (V.zmm (n := n) (acc := acc) hlt)
       have hi1 : (0 : Int) ≤ (k : Int) := by omega
       have hi2 : (k : Int) < (us.length : Int) := by omega
       clear hrow hcell hby
       generalize us[k].v = uv at *
       generalize xs[k] = y at *
       have HITV := zwe HIT
       obtain ⟨p2, q2, rfl⟩ := HIT.slice
       clear HIT
       have HCH := zwe (V.zpy HOK.out HON.out.ok)
       have HOPF : Hid (V.opP V.orF n acc n y = if V.chkP n acc n y = 0 then V.limP n (V.opL n V.orF acc y) else (0, [], V.chkP n acc n y)) := zwe rfl
       have HLA : Hid (acc.length ≤ maxLen) := zwe (by have := HOK.out.len; unfold maxLen; omega)
       have HLY : Hid (y.length ≤ maxLen) := zwe (by have := HON.out.one; unfold maxLen; omega)
       by_cases h32 : (V.opL n V.orF acc y).length ≤ 32
       ·have HOP : Hid (V.opP V.orF n acc n y = (n, V.opL n V.orF acc y, 0)) := zwe (by rw [HOPF.out, if_pos HCH.out]; unfold V.limP; rw [if_pos h32])
        have HOK5 := zwe (V.zj4 V.orF HOK.out HON.out.ok h32)
        have HEQ : Hid (V.jb n [] xs = V.jb n (V.opL n V.orF acc y) (xs.drop (k + 1))) := zwe (by rw [HE.out, HNX.out, if_pos h32])
        clear h32
        go_wp2_with fail
        go_region_held3 (fun W' => Below wr.heap.size wr W' /\ W'.cell? ⟨wo.heap.size, 0, none⟩ = some (.int .i64 n) /\ W'.cell? ⟨wo.heap.size, 1, none⟩ = some (.slice p acc.length q) /\ W'.cell? ⟨g, k * 2, none⟩ = some (.int .i64 n) /\ W'.cell? ⟨g, k * 2 + 1, none⟩ = some (.slice p2 y.length q2))
         (first
           | (go_split_ands; exact ⟨Below.trans (by assumption) (hb5.mono (Below.size (by assumption))), zwk hb5, zwk hb5, zwk hb5, zwk hb5⟩)
           | (exact ⟨(zwh _ _).drew, x0, x1, c0, c1⟩)
           | (exact ⟨xi hQ5 _ _, za (xi hQ5 _ _) x0, za (xi hQ5 _ _) x1, za (xi hQ5 _ _) c0, za (xi hQ5 _ _) c1⟩)
           | (exact (fun hz : Below w5.heap.size w5 _ => ⟨hQ5.trans (hz.mono hQ5.size), za hz e0, za hz e1, za hz e2, za hz e3⟩) ((zwh _ _).alloc (zwg _) _))
           | (go_split_ands; refine ⟨Below.alloc (by assumption) (Below.size (by assumption)) _, ?_, ?_, ?_, ?_⟩ <;> go_keep)
           | (go_split_ands; refine ⟨Below.setCell (Below.setCell (by assumption) (zwg _) _) (zwg _) _, ?_, ?_, ?_, ?_⟩ <;> go_keep)
           | go_keep)
         (first | (go_at_call 58; refine (zia n n (.slice p acc.length q) (.slice p2 y.length q2) acc y _ (HM.out.below (HBYW.out.trans (Below.mono (B := wr.heap.size) (by first | assumption | exact And.left (by assumption)) HBYW.out.size))) (HSET.out.below (by first | assumption | exact And.left (by assumption))) (HITV.out.below (by first | assumption | exact And.left (by assumption))) (ux HOK.out) (ux HON.out.ok) HLA.out HLY.out).mono ?_; rintro e w5 ⟨u5, rfl, hu5, how5, hb5⟩; rw [HOP.out] at hu5 ⊢; simp only at hu5 ⊢; obtain ⟨p5, q5, rfl⟩ := hu5.slice; unfold setV; have hQ5 : Below wr.heap.size wr w5 := Below.trans (by first | assumption | exact And.left (by assumption)) (hb5.mono (Below.size (B := wr.heap.size) (w := wr) (by first | assumption | exact And.left (by assumption)))); have e0 := za hQ5 x0; have e1 := za hQ5 x1; have e2 := za hQ5 c0; have e3 := za hQ5 c1; (first | (have q0 : w5.cell? ⟨wr.heap.size, 0, none⟩ = some (.int .i64 0) := za hb5 (newd0 wr _ _ _); have q1 : w5.cell? ⟨wr.heap.size, 1, none⟩ = some (.slice none 0 0) := za hb5 (newd1 wr _ _ _); have r0 : w5.frozen? ⟨wr.heap.size, 0, none⟩ = false := (hb5.frozen (p := ⟨wr.heap.size, 0, none⟩) (newdz wr _ _ _)).trans (newdf wr _ _ _ 0); have r1 : w5.frozen? ⟨wr.heap.size, 1, none⟩ = false := (hb5.frozen (p := ⟨wr.heap.size, 1, none⟩) (newdz wr _ _ _)).trans (newdf wr _ _ _ 1)) | (have q0 : w5.cell? ⟨wr.heap.size, 0, none⟩ = some (.int .i64 0) := za hb5 (newe0 wr _ _ _); have q1 : w5.cell? ⟨wr.heap.size, 1, none⟩ = some (.slice none 0 0) := za hb5 (newe1 wr _ _ _); have r0 : w5.frozen? ⟨wr.heap.size, 0, none⟩ = false := (hb5.frozen (p := ⟨wr.heap.size, 0, none⟩) (newez wr _ _ _)).trans (newef wr _ _ _ 0); have r1 : w5.frozen? ⟨wr.heap.size, 1, none⟩ = false := (hb5.frozen (p := ⟨wr.heap.size, 1, none⟩) (newez wr _ _ _)).trans (newef wr _ _ _ 1)) | skip)))
        ·rename_i hS
         have HBS := zwe (And.left hS)
         have HIV := zwe (Itvs.below hu5 ((zwh w5.heap.size w5).alloc (zwg _) (.cells #[.int .i64 n, .slice p5 (V.opL n V.orF acc y).length q5] 45)))
         exact zxr
        ·rename_i hS
         have HBS := zwe (And.left hS)
         have HIV := zwe (Itvs.set2 (b := wr.heap.size) (x := .int .i64 n) (y := .slice p5 (V.opL n V.orF acc y).length q5) hu5 (fun c hc => by have h1 := how5 c hc; simp at h1; omega))
         exact zxr
       ·have HOP : Hid (V.opP V.orF n acc n y = (0, [], 3)) := zwe (by rw [HOPF.out, if_pos HCH.out]; unfold V.limP; rw [if_neg h32])
        have HR : Hid (V.parP n s = (0, [], 3)) := zwe (HUX.out (by rw [HE.out, HNX.out, if_neg h32]))
        clear h32
        go_wp2_with fail
        go_region_held3 (fun W' => Below wr.heap.size wr W' /\ W'.cell? ⟨wo.heap.size, 0, none⟩ = some (.int .i64 n) /\ W'.cell? ⟨wo.heap.size, 1, none⟩ = some (.slice p acc.length q) /\ W'.cell? ⟨g, k * 2, none⟩ = some (.int .i64 n) /\ W'.cell? ⟨g, k * 2 + 1, none⟩ = some (.slice p2 y.length q2))
         (first
           | (go_split_ands; exact ⟨Below.trans (by assumption) (hb5.mono (Below.size (by assumption))), zwk hb5, zwk hb5, zwk hb5, zwk hb5⟩)
           | (exact ⟨(zwh _ _).drew, x0, x1, c0, c1⟩)
           | (exact ⟨xi hQ5 _ _, za (xi hQ5 _ _) x0, za (xi hQ5 _ _) x1, za (xi hQ5 _ _) c0, za (xi hQ5 _ _) c1⟩)
           | (exact (fun hz : Below w5.heap.size w5 _ => ⟨hQ5.trans (hz.mono hQ5.size), za hz e0, za hz e1, za hz e2, za hz e3⟩) ((zwh _ _).alloc (zwg _) _))
           | (go_split_ands; refine ⟨Below.alloc (by assumption) (Below.size (by assumption)) _, ?_, ?_, ?_, ?_⟩ <;> go_keep)
           | (go_split_ands; refine ⟨Below.setCell (Below.setCell (by assumption) (zwg _) _) (zwg _) _, ?_, ?_, ?_, ?_⟩ <;> go_keep)
           | go_keep)
         (first | (go_at_call 58; refine (zia n n (.slice p acc.length q) (.slice p2 y.length q2) acc y _ (HM.out.below (HBYW.out.trans (Below.mono (B := wr.heap.size) (by first | assumption | exact And.left (by assumption)) HBYW.out.size))) (HSET.out.below (by first | assumption | exact And.left (by assumption))) (HITV.out.below (by first | assumption | exact And.left (by assumption))) (ux HOK.out) (ux HON.out.ok) HLA.out HLY.out).mono ?_; rintro e w5 ⟨u5, rfl, hu5, how5, hb5⟩; rw [HOP.out] at hu5 ⊢; simp only at hu5 ⊢; obtain ⟨p5, q5, rfl⟩ := hu5.slice; unfold setV; have hQ5 : Below wr.heap.size wr w5 := Below.trans (by first | assumption | exact And.left (by assumption)) (hb5.mono (Below.size (B := wr.heap.size) (w := wr) (by first | assumption | exact And.left (by assumption)))); have e0 := za hQ5 x0; have e1 := za hQ5 x1; have e2 := za hQ5 c0; have e3 := za hQ5 c1; (first | (have q0 : w5.cell? ⟨wr.heap.size, 0, none⟩ = some (.int .i64 0) := za hb5 (newd0 wr _ _ _); have q1 : w5.cell? ⟨wr.heap.size, 1, none⟩ = some (.slice none 0 0) := za hb5 (newd1 wr _ _ _); have r0 : w5.frozen? ⟨wr.heap.size, 0, none⟩ = false := (hb5.frozen (p := ⟨wr.heap.size, 0, none⟩) (newdz wr _ _ _)).trans (newdf wr _ _ _ 0); have r1 : w5.frozen? ⟨wr.heap.size, 1, none⟩ = false := (hb5.frozen (p := ⟨wr.heap.size, 1, none⟩) (newdz wr _ _ _)).trans (newdf wr _ _ _ 1)) | (have q0 : w5.cell? ⟨wr.heap.size, 0, none⟩ = some (.int .i64 0) := za hb5 (newe0 wr _ _ _); have q1 : w5.cell? ⟨wr.heap.size, 1, none⟩ = some (.slice none 0 0) := za hb5 (newe1 wr _ _ _); have r0 : w5.frozen? ⟨wr.heap.size, 0, none⟩ = false := (hb5.frozen (p := ⟨wr.heap.size, 0, none⟩) (newez wr _ _ _)).trans (newef wr _ _ _ 0); have r1 : w5.frozen? ⟨wr.heap.size, 1, none⟩ = false := (hb5.frozen (p := ⟨wr.heap.size, 1, none⟩) (newez wr _ _ _)).trans (newef wr _ _ _ 1)) | skip)))
        all_goals
         rename_i hS
         have HBS := zwe (And.left hS)
         clear hS hb5 hQ5 e0 e1 e2 e3 hu5 how5 x0 x1 c0 c1
         go_wp2_with (first | (refine zi rfl 45 _ _ rfl w.heap.size #[.int .i64 0, .slice none 0 0] _ (ku HBS.out KR1.out) rfl #[.int .i64 0, .slice none 0 0] rfl rfl (by kernel_rfl) (zt _ _ _ _) ?_; intro W7 hp7; have z0 : W7.cell? ⟨w.heap.size, 0, none⟩ = some (.int .i64 0) := zwd hp7.here 0; have z1 : W7.cell? ⟨w.heap.size, 1, none⟩ = some (.slice none 0 0) := zwd hp7.here 1) | fail)
         have HB7 := zwe (hp7.below (HBYW.out.trans (HBS.out.mono HBYW.out.size)) (zwg _))
         clear hp7
         exact bodyPost_ret (v := .tuple #[.agg #[.int .i64 0, .slice none 0 0], .int .i64 3]) (by simp [results, Tryz.results30, go_sem, z0, z1]) rfl (by rw [HR.out]; exact ju.zero HB7.out _)
      ·obtain rfl : k = xs.length := by omega
       have HR : Hid (V.parP n s = (n, acc, 0)) := zwe (HUY.out acc (by rw [HE.out, List.drop_length]; rfl))
       have hnl : ¬ (xs.length : Int) < (us.length : Int) := by have := HXL.out; omega
       have hnl2 : ¬ xs.length < us.length := by have := HXL.out; omega
       clear hby
       go_wp2_with (first
         | (refine zi rfl 45 _ _ rfl w.heap.size #[.int .i64 0, .slice none 0 0] _ KR1.out rfl #[.int .i64 n, .slice p acc.length q] rfl rfl (by kernel_rfl) (zt _ _ _ _) ?_; intro W7 hp7; have z0 : W7.cell? ⟨w.heap.size, 0, none⟩ = some (.int .i64 n) := zwd hp7.here 0; have z1 : W7.cell? ⟨w.heap.size, 1, none⟩ = some (.slice p acc.length q) := zwd hp7.here 1)
         | fail)
       have HB7 := zwe (hp7.below HBYW.out (zwg _))
       have HI7 := zwe (hp7.itvs HSET.out (fun c hc => by have := HOWN.out c hc; have := HZB.out; omega))
       clear hp7
       exact bodyPost_ret (v := .tuple #[.agg #[.int .i64 n, .slice p acc.length q], .int .i64 0]) (by simp [results, Tryz.results30, go_sem, z0, z1]) rfl (by rw [HR.out]; exact ⟨_, rfl, HI7.out, (fun c hc => by have := HOWN.out c hc; have := HZB.out; omega), HB7.out⟩)
  ·have HR := zwe (V.zn1 HSC.out hlong)
   have hq : 8192 < S.size := by omega
   have hq2 : (8192 : Int) < (S.size : Int) := by omega
   clear hlong
   go_wp2_with (first | (refine zi rfl 45 _ _ rfl w.heap.size #[.int .i64 0, .slice none 0 0] _ K0.out rfl #[.int .i64 0, .slice none 0 0] rfl rfl (by kernel_rfl) (zt _ _ _ _) ?_; intro W2 hp2; have z0 : W2.cell? ⟨w.heap.size, 0, none⟩ = some (.int .i64 0) := zwd hp2.here 0; have z1 : W2.cell? ⟨w.heap.size, 1, none⟩ = some (.slice none 0 0) := zwd hp2.here 1) | fail)
   have HBF := zwe (hp2.below HB0.out (zwg _))
   clear hp2
   exact bodyPost_ret (v := .tuple #[.agg #[.int .i64 0, .slice none 0 0], .int .i64 3]) (by simp [results, Tryz.results30, go_sem, z0, z1]) rfl (by rw [HR.out]; exact ju.zero HBF.out _)
end Go.Proofs.YtcfbkcapbbhmpaaGreatDoor
