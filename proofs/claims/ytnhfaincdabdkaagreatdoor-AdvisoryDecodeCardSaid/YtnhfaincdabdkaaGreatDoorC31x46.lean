/-
  Lemmas for the law.
-/
import Derived.Test.YtnhfaincdabdkaaGreatDoorC31x40
set_option linter.all false
set_option maxRecDepth 100000
set_option maxHeartbeats 6400000
namespace Go.Proofs.YtnhfaincdabdkaaGreatDoor
open Go.RowKit
theorem zly (y : V.Bs) (w : World) (hs : y.length ≤ 1000000) : Calls Tryz.prog 98 #[.string ⟨y.toArray⟩] w fun e w' => e = .returned (.tuple #[.string ⟨(V.unwP y).1.toArray⟩, .bool (V.unwP y).2]) /\ Below w.heap.size w w' := by
 have := zi5 ⟨y.toArray⟩ w (by rw [yh]; exact hs)
 rwa [kk] at this
theorem zry (w : World) (u : Lsl) : ∀ j v, (lslE u)[j]? = some v -> (w.alloc (.cells #[u.v] 61)).cell? ⟨w.heap.size, j, none⟩ = some v := fun j v h => by
 rw [World.cell?_alloc_new]
 simpa [lslE] using h
theorem zxm {P : Prop} (h : P := by
 go_enter Tryz.func49, Tryz.ntmps49
 go_wp2
 go_ret2
 exact xo.err HP.out (zu1 _ _)) : P := h
theorem zj6 (v : Value) (bs : V.Bs) (w : World) (hm : zg w) (hv : yt w v bs) (hl : bs.length ≤ maxLen) :
  Calls Tryz.prog 49 #[v] w (xo bs w) := by
 obtain ⟨va, vc, rfl, hcap, hat⟩ := hv
 have HM := zuy hm
 unfold maxLen at hl
 clear hm
 by_cases hbig : 262144 < bs.length
 ·have HP : Hid (V.decP bs = ([], 3)) := zuy (by unfold V.decP; rw [if_pos hbig])
  have hn : (262144 : Int) < (bs.length : Int) := by omega
  clear hat
  exact zxm
 have hn : ¬ (262144 : Int) < (bs.length : Int) := by omega
 by_cases h0 : bs.length = 0
 ·have HP : Hid (V.decP bs = ([], 0)) := zuy (by rw [List.length_eq_zero_iff.1 h0]; exact V.zfc)
  have hz : ((bs.length : Int) == 0) = true := by rw [h0]; rfl
  clear hat
  exact zxm
 have hz : ((bs.length : Int) == 0) = false := by rw [zu2]; omega
 have hne : bs ≠ [] := fun e => h0 (by rw [e]; rfl)
 obtain ⟨b, c, hbc⟩ : ∃ b c, bs = b ++ [c] := ⟨bs.dropLast, bs.getLast hne, (List.dropLast_concat_getLast hne).symm⟩
 have hlen : bs.length = b.length + 1 := by rw [hbc]; simp
 obtain ⟨g, off, rfl, hg, hcm0⟩ := hat b.length (by omega)
 have hcm : w.cell? ⟨g, off + b.length, none⟩ = some (.int .u8 c.toNat) := by
  rw [hcm0]
  simp [hbc]
 have HAT : Hid (∀ j (h : j < b.length), w.cell? ⟨g, off + j, none⟩ = some (.int .u8 (b[j]).toNat)) := zuy (fun j h => by
   obtain ⟨g2, off2, e, _, hc⟩ := hat j (by omega)
   cases e
   rw [hc]
   simp [hbc, List.getElem_append_left h])
 obtain ⟨m, hmb⟩ : ∃ m, m = b.length := ⟨_, rfl⟩
 obtain ⟨n, hnb⟩ : ∃ n, n = bs.length := ⟨_, rfl⟩
 rw [← hmb] at hcm
 rw [← hnb] at hn hz hcap ⊢
 have hq : IntKind.i64.wrap ((n : Int) - 1) = (m : Int) := by unfold IntKind.wrap; simp [IntKind.signed, IntKind.bits]; omega
 have hi1 : (0 : Int) ≤ (m : Int) := by omega
 have hi2 : (m : Int) < (n : Int) := by omega
 have hi3 : (m : Int) ≤ (vc : Int) := by omega
 have hmn : m ≤ 262143 := by omega
 have hmv : m ≤ vc := by omega
 clear hcm0 hat
 by_cases hc10 : c = 10
 ·subst hc10
  have hcv := zfg w g off m vc b hmb.symm HAT.out
  have HDP : Hid (V.decP bs = match V.kx (V.zd 10 b) with | none => ([], 2) | some ls => if V.encE ls = 0 then (ls, 0) else ([], 2)) := zuy (by
    rw [hbc]
    exact V.decP_ref (by rw [← hbc]; omega))
  have HMB := zuy hmb
  clear hmb hnb hlen hne h0 hbig HAT hl hcap hbc
  go_enter Tryz.func49, Tryz.ntmps49
  go_wp2_with fail
  refine (zkd 10 b w HM.out (by have := HMB.out; omega)).mono ?_
  rintro e w1 ⟨rfl, hw1⟩
  have hb1 : Below w.heap.size w w1 := by rw [hw1]; exact (zu1 _ w).alloc (zu0 _) _
  have hs1 : Strs w1 (.slice (some ⟨w.heap.size, 0, none⟩) (V.zd 10 b).length (V.zd 10 b).length) (V.zd 10 b) := by rw [hw1]; exact zb2 w _
  have HB1 := zuy hb1
  have HS1 := zuy hs1
  have HRM : Hid (∀ x ∈ V.zd 10 b, x.length ≤ 262143) := zuy (fun x hx => by
    have := V.zcy 10 hx
    have := HMB.out
    omega)
  have HRL : Hid ((V.zd 10 b).length ≤ 262144) := zuy (by have := V.zfk 10 b; have := HMB.out; omega)
  have HDZ : Hid (∀ ls, V.kx (V.zd 10 b) = some ls -> V.jo ls ls.length ≤ 9000000) := zuy (fun ls h => by
    rw [V.doc_sz h]
    have := HMB.out
    omega)
  clear hb1 hs1 hw1 hcv hcm HMB hq hi1 hi2 hi3 hmn hmv hn hz
  generalize V.zd 10 b = R at *
  generalize w.heap.size = g1 at HS1 ⊢
  have hrl := HRL.out
  go_wp2
  go_loopw [5, 6] (fun ov iv wx => ∃ (k : Nat) (us : List Lsl) (ls : List (List V.Bs)), k ≤ R.length /\ iv = .int .i64 k /\ LRow w1.heap.size wx ov us ls /\ V.kx R = (V.kx (R.drop k)).map (ls ++ ·) /\ Below w1.heap.size w1 wx /\ ls.length = k) (fun _ iv _ => R.length - (intOf iv).toNat)
  case atStart => exact ⟨0, [], [], Nat.zero_le _, rfl, LRow.nil _ _, by simp, zu1 _ _, rfl⟩
  case round =>
   obtain ⟨k, us, ls, hk, rfl, hrow, hpr, hbr, hlk⟩ := hrel
   obtain ⟨oa, oc, rfl⟩ := hrow.slice
   have HR := zuy hrow
   have HPR := zuy hpr
   have HBR := zuy hbr
   have HLK := zuy hlk
   clear hrow hpr hbr hlk
   have hzr := HBR.out.size
   by_cases hlt : k < R.length
   ·have HRA := zuy (V.rows_at HPR.out hlt)
    have hxl := HRM.out _ (List.getElem_mem hlt)
    obtain ⟨ga, gc, ge, gat⟩ := HS1.out
    cases ge
    obtain ⟨b1, off1, e1, hlt1, hc1⟩ := gat k hlt
    cases e1
    have hc := (HBR.out.cell (p := ⟨g1, 0 + k, none⟩) hlt1).trans hc1
    rw [Nat.zero_add] at hc
    have hj1 : (0 : Int) ≤ (k : Int) := by omega
    have hj2 : (k : Int) < (R.length : Int) := by omega
    generalize R[k] = x at *
    clear hc1 gat
    go_wp2_with fail
    refine (zkd 32 x wr (HM.out.below (HB1.out.trans (HBR.out.mono HB1.out.size))) (by omega)).mono ?_
    rintro e w2 ⟨rfl, hw2⟩
    have hb2 : Below wr.heap.size wr w2 := by rw [hw2]; exact (zu1 _ wr).alloc (zu0 _) _
    have hs2 : Strs w2 (.slice (some ⟨wr.heap.size, 0, none⟩) (V.zd 32 x).length (V.zd 32 x).length) (V.zd 32 x) := by rw [hw2]; exact zb2 wr _
    have HS2 := zuy hs2
    have HR2 := zuy (HR.out.later hb2)
    have HB2 := zuy (HBR.out.trans (hb2.mono hzr))
    have HPM : Hid (∀ y ∈ V.zd 32 x, y.length ≤ 262143) := zuy (fun y hy => by
      have := V.zcy 32 hy
      omega)
    have HPL : Hid ((V.zd 32 x).length ≤ 262144) := zuy (by have := V.zfk 32 x; omega)
    have hz2 : wr.heap.size < w2.heap.size := by rw [hw2]; simp
    have hvl : ∀ q, (Value.slice oa ls.length oc).ownBlock = some q -> q < wr.heap.size := HR.out.row.lt
    have HVL := zuy hvl
    have HZ2 := zuy hz2
    clear hb2 hs2 hw2 hc hvl hz2
    generalize V.zd 32 x = P at *
    have HBR2 := HBR
    clear HR HBR
    generalize wr.heap.size = g2 at *
    have hpl := HPL.out
    go_wp2
    go_loopw [8, 9] (fun ov jv wx => ∃ (j : Nat) (l : List V.Bs), j ≤ P.length /\ jv = .int .i64 j /\ GRow 9 1 wrdE wx w2.heap.size ov l /\ V.qg P = (V.qg (P.drop j)).map (l ++ ·) /\ Below w2.heap.size w2 wx /\ l.length = j) (fun _ jv _ => P.length - (intOf jv).toNat)
    case atStart => exact ⟨0, [], Nat.zero_le _, rfl, GRow.nil _ _, by simp, zu1 _ _, rfl⟩
    case round =>
     obtain ⟨j, l, hj, rfl, hrw, hpw, hbw, hlj⟩ := hrel
     obtain ⟨oa2, oc2, rfl⟩ := GRow.slice hrw
     have HW := zuy hrw
     have HPW := zuy hpw
     have HBW := zuy hbw
     have HLJ := zuy hlj
     clear hrw hpw hbw hlj
     have hzw := HBW.out.size
     by_cases hjl : j < P.length
     ·have HWA := zuy (V.words_at HPW.out hjl)
      have hyl := HPM.out _ (List.getElem_mem hjl)
      obtain ⟨ga2, gc2, ge2, gat2⟩ := HS2.out
      cases ge2
      obtain ⟨b3, off3, e3, hlt3, hc3⟩ := gat2 j hjl
      cases e3
      have hc4 := (HBW.out.cell (p := ⟨g2, 0 + j, none⟩) hlt3).trans hc3
      rw [Nat.zero_add] at hc4
      have hq1 : (0 : Int) ≤ (j : Int) := by omega
      have hq2 : (j : Int) < (P.length : Int) := by omega
      generalize P[j] = y at *
      clear hc3 gat2
      go_wp2_with fail
      refine (zly y wr (by omega)).mono ?_
      rintro e w4 ⟨rfl, hb4⟩
      have HB4 := zuy (HBW.out.trans (hb4.mono hzw))
      have HW4 := zuy (GRow.below HW.out hb4)
      clear hb4 HW HBW hc4
      rcases V.zfa y with hu | ⟨wd, hu, _⟩
      ·have HP : Hid (V.decP bs = ([], 2)) := zuy (by rw [HDP.out, HRA.out.1 (HWA.out.1 hu)])
       have HBE := zuy (HB1.out.trans ((HB2.out.trans (HB4.out.mono HB2.out.size)).mono HB1.out.size))
       rw [hu]
       clear hu
       go_wp2
       go_ret2
       exact xo.err HP.out HBE.out
      ·have HNX := zuy (HWA.out.2 wd hu)
       rw [hu]
       clear hu HWA
       have hzw4 := HB4.out.size
       have hb5 : Below w4.heap.size w4 (w4.alloc (.cells #[.string ⟨wd.toArray⟩] 9)) := (zu1 _ w4).alloc (zu0 _) _
       have HW5 := zuy (GRow.below HW4.out hb5)
       have HB5 := zuy (HB4.out.trans (hb5.mono hzw4))
       have HNW : Hid (∀ i u, (wrdE wd)[i]? = some u -> (w4.alloc (.cells #[.string ⟨wd.toArray⟩] 9)).cell? ⟨w4.heap.size, i, none⟩ = some u) := zuy (fun i u hu => by
         rw [World.cell?_alloc_new]
         simpa [wrdE] using hu)
       have hz5 := hb5.size
       clear hb5 HW4 HB4
       go_wp2_with (first | (refine zji zq0 (by decide) zqr ztn (by decide) rfl _ _ 61 rfl Tryz.underlying61 w2.heap.size (.slice oa2 l.length oc2) l rfl HW5.out w4.heap.size wd rfl HNW.out (by have := HLJ.out; omega) (by omega) ?_; intro v9 w9 hr9 hg9 ho9) | fail)
       have HW9 := zuy hr9
       have HB9 := zuy (HB5.out.trans (zp hg9 HW5.out.block (zu0 _) (by omega)))
       have hl9 : (l ++ [wd]).length = j + 1 := by have := HLJ.out; simp; omega
       have HL9 := zuy hl9
       clear hr9 hg9 ho9 HNW HW5 HB5 hl9
       go_wp2
       go_roundw
       case rel => exact ⟨j + 1, l ++ [wd], by omega, by go_num, HW9.out, HNX.out, HB9.out, HL9.out⟩
       case measure => simp [intOf]; omega
     ·obtain rfl : j = P.length := by omega
      have HWP : Hid (V.qg P = some l) := zuy (by rw [HPW.out, List.drop_length]; simp [V.qg])
      have HNX := zuy (HRA.out.2 l HWP.out)
      have HU := zuy (zqv HW.out)
      have HRW := zuy (HR2.out.later HBW.out)
      have hBb : ∀ q, (Value.slice oa2 l.length oc2).ownBlock = some q -> w2.heap.size ≤ q := HW.out.block
      have HBB := zuy hBb
      have HBX := zuy (HB2.out.trans (HBW.out.mono HB2.out.size))
      have hb5 : Below wr.heap.size wr (wr.alloc (.cells #[(⟨oa2, l.length, oc2⟩ : Lsl).v] 61)) := (zu1 _ wr).alloc (zu0 _) _
      have HRW5 := zuy (HRW.out.later hb5)
      have HU5 := zuy (xn HU.out hb5)
      have HB5 := zuz HBX hb5
      have HCL := zuy (zry wr ⟨oa2, l.length, oc2⟩)
      have hz5 := hb5.size
      have hzx := HBX.out.size
      have hrl2 := HRL.out
      have hN1 : w1.heap.size ≤ (wr.alloc (.cells #[(⟨oa2, l.length, oc2⟩ : Lsl).v] 61)).heap.size := by omega
      have hul : us.length ≤ 1000000 := by rw [HRW5.out.len, HLK.out]; omega
      clear hBb hb5 HW HPW HRW HU HBX
      go_wp2_with (first | (refine zji zdq (by decide) zge zd0 (by decide) rfl _ _ 64 rfl Tryz.underlying64 w1.heap.size (.slice oa ls.length oc) us rfl HRW5.out.row wr.heap.size ⟨oa2, l.length, oc2⟩ rfl HCL.out hul hN1 ?_; intro v9 w9 hr9 hg9 ho9) | fail)
      have HN9 := zuy (HRW5.out.add hr9 hg9 ho9 HU5.out (fun _ q hq e => by
        have h1 := HBB.out q hq
        have h2 := HVL.out q e
        have h3 := HZ2.out
        omega))
      have HB9 := zuy (HB5.out.trans (zp hg9 HRW5.out.row.block (zu0 _) hN1))
      have hl9 : (ls ++ [l]).length = k + 1 := by have := HLK.out; simp; omega
      have HL9 := zuy hl9
      clear hr9 hg9 ho9 HCL HRW5 HB5 HU5 hl9
      go_wp2
      go_roundw
      case rel => exact ⟨k + 1, _, ls ++ [l], by omega, by go_num, HN9.out, HNX.out, HB9.out, HL9.out⟩
      case measure => simp [intOf]; omega
   ·obtain rfl : k = R.length := by omega
    have HRP : Hid (V.kx R = some ls) := zuy (by rw [HPR.out, List.drop_length]; simp [V.kx])
    have HLN := zuy HR.out.lines
    have HCP := zuy HR.out.cap
    have HMX : Hid (∀ l ∈ ls, ∀ x ∈ l, x.length ≤ maxLen) := zuy (fun l hl x hx => by
      have := V.zqc HRP.out HRM.out l hl x hx
      unfold maxLen
      omega)
    have HDP2 : Hid (V.decP bs = if V.encE ls = 0 then (ls, 0) else ([], 2)) := zuy (by rw [HDP.out, HRP.out])
    go_wp2_with fail
    refine (zhp _ ls wr HLN.out HMX.out (HDZ.out ls HRP.out)).mono ?_
    intro e w3 he
    have HBE := zuy (HB1.out.trans ((HBR.out.trans (he.2.2.mono hzr)).mono HB1.out.size))
    by_cases hz : V.encE ls = 0
    ·obtain ⟨u, rfl, _⟩ := he.1 hz
     have HP : Hid (V.decP bs = (ls, 0)) := zuy (by rw [HDP2.out, if_pos hz])
     have HL3 := zuy (HLN.out.below he.2.2)
     clear he hz
     go_wp2
     go_ret2
     exact ⟨_, by rw [HP.out]; rfl, by rw [HP.out]; exact HL3.out, HCP.out, HBE.out⟩
    ·have hq := he.2.1 hz
     subst hq
     have HP : Hid (V.decP bs = ([], 2)) := zuy (by rw [HDP2.out, if_neg hz])
     have hzb : (V.encE ls == 0) = false := by rw [zu2]; exact hz
     clear he
     generalize V.encE ls = ee at *
     go_wp2
     go_ret2
     exact xo.err HP.out HBE.out
 ·have HP : Hid (V.decP bs = ([], 2)) := zuy (V.ztv hne (by rw [hbc]; simpa using hc10) (by omega))
  have hqc : ((c.toNat : Int) == 10) = false := by
   rw [zu2]
   intro e
   exact hc10 (by apply UInt8.toNat_inj.1; have : c.toNat = 10 := by omega
                  rw [this]; rfl)
  clear hmb hnb hlen hne h0 hbig HAT hl hcap hbc
  exact zxm
end Go.Proofs.YtnhfaincdabdkaaGreatDoor
