/-
  Lemmas for the law.
-/
import Derived.Test.YtiloljoancdcbaaGreatDoorC38x36
import Derived.Test.YtiloljoancdcbaaGreatDoorC38x17
import Derived.Test.YtiloljoancdcbaaGreatDoorC38x06
import Derived.Test.YtiloljoancdcbaaGreatDoorC38x20
import Derived.Test.YtiloljoancdcbaaGreatDoorC38x22
import Derived.Deep.RegionHeld3
import Derived.Lib.BufferRead
set_option linter.all false
set_option maxRecDepth 100000
set_option maxHeartbeats 3200000
namespace Go.Proofs.YtiloljoancdcbaaGreatDoor
open Go.RowKit
theorem zxz {P : Prop} (h : P := by
 go_wp2
 go_ret2
 exact ⟨fun h => (by rw [HE.out] at h; cases h), fun _ => by rw [HE.out]; rfl, HBE.out⟩) : P := h
theorem zpz (v : Value) (ls : List (List V.Bs)) (w : World) (hv : Lines w v ls) (hx : ∀ l ∈ ls, ∀ x ∈ l, x.length ≤ maxLen) (hsz : V.kb ls ls.length ≤ 9000000) :
  Calls Tryz.prog 21 #[v] w (EncZ ls w) := by
 obtain ⟨va, vc, rfl, hat⟩ := hv
 have HA := zvr hat
 by_cases h1000 : 1000 < ls.length
 ·have HE := zvr (V.encE_many h1000)
  have hn1 : (1000 : Int) < (ls.length : Int) := by omega
  clear hat hx
  go_enter Tryz.func21, Tryz.ntmps21
  exact z0m
 have HXL := zvr hx
 have hmax := hsz
 have hn1 : ¬ (1000 : Int) < (ls.length : Int) := by omega
 have HBAD := zvr (V.encE_bad h1000 (ls := ls))
 have HBIG := zvr (V.encE_big h1000 (ls := ls))
 have HOKE := zvr (V.encE_ok h1000 (ls := ls))
 clear hat hx hsz
 go_enter Tryz.func21, Tryz.ntmps21
 go_wp2
 go_loopw [4, 5] (fun ov iv wx => ∃ k : Nat, k ≤ ls.length /\ iv = .int .i64 k /\ BufZ w.heap.size ov (V.zbv ls k) w wx /\ V.zx ls = V.zx (ls.drop k) /\ (∀ j (h : j < ls.length), j < k -> V.chk ls[j] = 0)) (fun _ iv _ => ls.length - (intOf iv).toNat)
 case atStart => exact ⟨0, Nat.zero_le _, rfl, BufZ.nil (zvu _ _) (zvt _), rfl, fun j h hj => absurd hj (by omega)⟩
 case round =>
  obtain ⟨k, hk, rfl, hbuf, hfb, hpre⟩ := hrel
  have HB := zvr hbuf
  obtain ⟨oa, oc, rfl⟩ := hbuf.slice
  have HFB := zvr hfb
  have HPRE := zvr hpre
  have hlen0 : (V.zbv ls k).length = V.kb ls k := V.docTo_len2 k hk (fun j h hj => (V.zct.1 (hpre j h hj)).1)
  clear hbuf hfb hpre
  by_cases hlt : k < ls.length
  ·have HST := zvr (V.zc6 hlt)
   have hds := V.ym hlt
   have hle0 := V.zcl (ls := ls) (j := k + 1) (by omega) (zvt ls.length)
   have hlen1 : (V.zbv ls k).length + V.jt ls[k] ls[k].length ≤ 9000000 := by omega
   have HAT := zvr (V.zh2 hlt HFB.out)
   have HPN : Hid (V.chk ls[k] = 0 -> ∀ j (h : j < ls.length), j < k + 1 -> V.chk ls[j] = 0) := zvr (fun e j h hj => by
     rcases Nat.lt_or_ge j k with g | g
     · exact HPRE.out j h g
     · obtain rfl : j = k := by omega
       exact e)
   clear hds hle0 hlen0
   obtain ⟨b, off, u, rfl, hb0, hc0, hs⟩ := HA.out k hlt
   have hc := (HB.out.2.1.cell (p := ⟨b, off + k, none⟩) hb0).trans hc0
   have HC0 := zvr (And.intro hb0 hc0)
   have HS := zvr hs
   obtain ⟨ua, uc, rfl, _⟩ := hs
   clear hb0 hc0
   have HX := zvr (HXL.out _ (List.getElem_mem hlt))
   have hi1 : (0 : Int) ≤ (k : Int) := by omega
   have hi2 : (k : Int) < (ls.length : Int) := by omega
   have HLN : Hid (V.line ls[k] = V.jm ls[k] ls[k].length ++ [10]) := zvr rfl
   obtain ⟨A, hA⟩ : ∃ A, A = V.zbv ls k := ⟨_, rfl⟩
   rw [← hA] at HST hlen1 HB ⊢
   generalize ls[k] = l at *
   clear hA
   by_cases hx0 : l.length = 0
   ·have HC : Hid (V.chk l = 1) := zvr (by unfold V.chk; rw [if_pos hx0])
    have HE : Hid (V.encE ls = 1) := zvr (by
      have hf := HAT.out.2 (by rw [HC.out]; decide)
      rw [HBAD.out (by rw [hf, HC.out]; decide), hf, HC.out])
    have hq0 : ((l.length : Int) == 0) = true := by rw [hx0]; rfl
    have HBE := zvr HB.out.2.1
    exact zxz
   have hq0 : ((l.length : Int) == 0) = false := by rw [zvv]; omega
   by_cases hx1 : 120 < l.length
   ·have HC : Hid (V.chk l = 3) := zvr (by unfold V.chk; rw [if_neg hx0, if_pos hx1])
    have HE : Hid (V.encE ls = 3) := zvr (by
      have hf := HAT.out.2 (by rw [HC.out]; decide)
      rw [HBAD.out (by rw [hf, HC.out]; decide), hf, HC.out])
    have hq1 : (120 : Int) < (l.length : Int) := by omega
    have HBE := zvr HB.out.2.1
    exact zxz
   have hq1 : ¬ (120 : Int) < (l.length : Int) := by omega
   have hll := V.zf9 (l := l) (by omega)
   have HLONG : Hid (∀ j (h : j < l.length), 32768 < l[j].length -> V.encE ls = 3) := zvr (fun j h hj => by
     have hc3 : V.chk l = 3 := by
       unfold V.chk
       rw [if_neg hx0, if_neg hx1, if_neg]
       intro e
       rw [List.all_eq_true] at e
       have := e _ (List.getElem_mem h)
       simp at this
       omega
     have hf := HAT.out.2 (by rw [hc3]; decide)
     rw [HBAD.out (by rw [hf, hc3]; decide), hf, hc3])
   have HFINE : Hid ((∀ j (h : j < l.length), l[j].length ≤ 32768) -> V.chk l = 0) := zvr (fun h => by
     unfold V.chk
     rw [if_neg hx0, if_neg hx1, if_pos]
     rw [List.all_eq_true]
     intro x hx
     obtain ⟨j, hj, rfl⟩ := List.mem_iff_getElem.1 hx
     simpa using h j hj)
   go_wp2
   clear hc hq0 hq1
   go_loopw [4, 6] (fun ov iv wx => ∃ j : Nat, j ≤ l.length /\ iv = .int .i64 j /\ BufZ w.heap.size ov (A ++ V.jm l j) w wx /\ (∀ i (h : i < l.length), i < j -> l[i].length ≤ 32768)) (fun _ iv _ => l.length - (intOf iv).toNat)
   case atStart => exact ⟨0, Nat.zero_le _, rfl, by rw [show V.jm l 0 = [] from rfl, List.append_nil]; exact HB.out, fun i h hi => absurd hi (by omega)⟩
   case round =>
    obtain ⟨j, hj, rfl, hbuf, hpw⟩ := hrel
    have HB2 := zvr hbuf
    have HPW := zvr hpw
    clear hpw
    obtain ⟨oa2, oc2, rfl⟩ := hbuf.slice
    have hc := (HB2.out.2.1.cell (p := ⟨b, off + k, none⟩) HC0.out.1).trans HC0.out.2
    clear hbuf HB
    by_cases hjl : j < l.length
    ·obtain ⟨ua2, uc2, e2, hat2⟩ := HS.out
     cases e2
     obtain ⟨b2, off2, rfl, hb2, hc0⟩ := hat2 j hjl
     have hc2 := (HB2.out.2.1.cell (p := ⟨b2, off2 + j, none⟩) hb2).trans hc0
     have HC2 := zvr (And.intro hb2 hc0)
     have hxm := HX.out _ (List.getElem_mem hjl)
     have HLG := zvr (HLONG.out j hjl)
     have HPX : Hid (l[j].length ≤ 32768 -> ∀ i (h : i < l.length), i < j + 1 -> l[i].length ≤ 32768) := zvr (fun e i h hi => by
       rcases Nat.lt_or_ge i j with g | g
       · exact HPW.out i h g
       · obtain rfl : i = j := by omega
         exact e)
     have hj1 : (0 : Int) ≤ (j : Int) := by omega
     have hj2 : (j : Int) < (l.length : Int) := by omega
     have HT2 := zvr (V.zap l j)
     have hg : l.getD j [] = l[j] := by rw [List.getD_eq_getElem?_getD, List.getElem?_eq_getElem hjl]; rfl
     rw [hg] at HT2
     have hlen2 : A.length + (V.jm l j).length ≤ 9000001 := by
      have h1 := (V.zbl (l := l) j hj).1
      have h2 := V.zbj (l := l) hj (zvt l.length)
      omega
     obtain ⟨M, hM⟩ : ∃ M, M = A ++ V.jm l j := ⟨_, rfl⟩
     have HM := zvr hM
     have hml : M.length ≤ 9000001 := by rw [hM, List.length_append]; exact hlen2
     rw [← hM] at HB2 ⊢
     generalize l[j] = x at *
     have hxs := ww x
     unfold maxLen at hxm
     by_cases hbg : 32768 < x.length
     ·have HE := zvr (HLG.out hbg)
      have hx2 : (32768 : Int) < (x.length : Int) := by omega
      have hx3 : (32768 : Int) < ((ByteArray.mk x.toArray).size : Int) := by rw [hxs]; omega
      have HBE := zvr HB2.out.2.1
      exact zxz
     have hx : x.length ≤ 32768 := by omega
     have HPY := zvr (HPX.out hx)
     have hx2 : ¬ (32768 : Int) < (x.length : Int) := by omega
     have hx3 : ¬ (32768 : Int) < ((ByteArray.mk x.toArray).size : Int) := by rw [hxs]; omega
     clear hat2 hc0 hM hg hlen2 hb2
     by_cases hj0 : j = 0
     ·subst hj0
      rw [Nat.add_zero] at hc2
      go_wp2_with fail
      refine (zhh x wr (by omega)).mono ?_
      rintro e w3 ⟨rfl, hb3⟩
      have HB3 := zvr (HB2.out.below hb3)
      have hwl := V.vv x
      have hwl2 := V.xu x
      clear hb3 HB2
      go_wp2_with (first | (refine zpu rfl _ _ rfl w.heap.size (.slice oa2 M.length oc2) M w rfl HB3.out (V.word x) rfl (by omega) ?_; intro v9 w9 hb9) | fail)
      have HB9 := zvr hb9
      clear hb9 hwl hwl2
      go_wp2
      go_roundw
      case rel => exact ⟨0 + 1, by omega, by go_num, by
        have := HB9.out
        rw [HM.out, List.append_assoc] at this
        rw [HT2.out]
        exact this, HPY.out⟩
      case measure => simp [intOf]; omega
     ·have hjp : (0 : Int) < (j : Int) := by omega
      have hb4 : Below wr.heap.size wr (wr.alloc (.cells #[.int .u8 32] 5)) := (zvu _ wr).alloc (zvt _) _
      have HB4 := zvr (HB2.out.below hb4)
      have HBN := zvr (ya [32] wr)
      clear hb4
      go_wp2_with (first | (refine zmk rfl _ _ rfl w.heap.size (.slice oa2 M.length oc2) M w rfl HB4.out wr.heap.size 1 [32] rfl HBN.out (by simp; omega) ?_; intro v5 w5 hb5; have hc5 := (hb5.2.1.cell (p := ⟨b, off + k, none⟩) HC0.out.1).trans HC0.out.2; have hc6 := (hb5.2.1.cell (p := ⟨b2, off2 + j, none⟩) HC2.out.1).trans HC2.out.2) | fail)
      replace HB2 := zvr hb5
      clear hb5 HB4 HBN hc2 hc
      refine (zhh x w5 (by omega)).mono ?_
      rintro e w3 ⟨rfl, hb3⟩
      have HB3 := zvr (HB2.out.below hb3)
      have hwl := V.vv x
      have hwl2 := V.xu x
      clear hb3 HB2
      go_wp2_with (first | (refine zpu rfl _ _ rfl w.heap.size v5 (M ++ [32]) w rfl HB3.out (V.word x) rfl (by simp; omega) ?_; intro v9 w9 hb9) | fail)
      have HB9 := zvr hb9
      clear hb9 hwl hwl2
      go_wp2
      go_roundw
      case rel => exact ⟨j + 1, by omega, by go_num, by
        have := HB9.out
        rw [HM.out, List.append_assoc, List.append_assoc] at this
        rw [HT2.out, if_neg hj0]
        exact this, HPY.out⟩
      case measure => simp [intOf]; omega
    ·obtain rfl : j = l.length := by omega
     have HFN : Hid (V.zx ls = V.zx (ls.drop (k + 1)) /\ (∀ j (h : j < ls.length), j < k + 1 -> V.chk ls[j] = 0)) := zvr (by
       have := HFINE.out (fun i h => HPW.out i h h)
       exact ⟨HAT.out.1 this, HPN.out this⟩)
     have hlen3 : (A ++ V.jm l l.length).length ≤ 9000001 := by rw [List.length_append]; have h1 := (V.zbl (l := l) l.length (zvt _)).1; omega
     have hA10 : A ++ V.line l = (A ++ V.jm l l.length) ++ [10] := by rw [HLN.out, List.append_assoc]
     rw [hA10] at HST
     obtain ⟨M, hM⟩ : ∃ M, M = A ++ V.jm l l.length := ⟨_, rfl⟩
     rw [← hM] at HB2 HST hlen3 ⊢
     have hb4 : Below wr.heap.size wr (wr.alloc (.cells #[.int .u8 10] 5)) := (zvu _ wr).alloc (zvt _) _
     have HB4 := zvr (HB2.out.below hb4)
     have HBN := zvr (ya [10] wr)
     clear hb4 hA10 hM HB2
     go_wp2_with (first | (refine zmk rfl _ _ rfl w.heap.size (.slice oa2 M.length oc2) M w rfl HB4.out wr.heap.size 1 [10] rfl HBN.out (by simp; omega) ?_; intro v5 w5 hb5) | fail)
     have HB5 := zvr hb5
     clear hb5 HB4 HBN
     go_wp2
     go_roundw
     case rel => exact ⟨k + 1, by omega, by go_num, by rw [HST.out]; exact HB5.out, HFN.out.1, HFN.out.2⟩
     case measure => simp [intOf]; omega
  ·obtain rfl : k = ls.length := by omega
   have hfz : V.zx ls = 0 := by rw [HFB.out, List.drop_length]; rfl
   rw [V.zeu] at HB hlen0 ⊢
   by_cases hbg : 262144 < (V.doc ls).length
   ·have HE := zvr (HBIG.out hfz (by omega))
    have hbig : (262144 : Int) < ((V.doc ls).length : Int) := by omega
    have HBE := zvr HB.out.2.1
    clear hfz
    exact zxz
   ·have HE := zvr (HOKE.out hfz (by omega))
    have hbig : ¬ (262144 : Int) < ((V.doc ls).length : Int) := by omega
    clear hfz hlen0
    go_wp2
    go_ret2
    exact ⟨fun _ => ⟨.slice oa (V.doc ls).length oc, rfl, HB.out⟩, fun h => absurd HE.out h, HB.out.2.1⟩
open Go.RowKit
def V.unwP (s : V.Bs) : V.Bs × Bool := match V.unwR s with | some w => (w, true) | none => ([], false)
theorem digU_val : ∀ n : Fin 256, Lib.indexByte (ByteArray.mk #[48, 49, 50, 51, 52, 53, 54, 55, 56, 57, 65, 66, 67, 68, 69, 70]).data.toList (UInt8.ofNat n.val) = (match V.hexV (UInt8.ofNat n.val) with | some x => (x : Int) | none => -1) := by decide +kernel
def dvB (bad : Int) (c : UInt8) : Int := match V.hexV c with | some x => (x : Int) | none => bad
theorem zi6 (c : UInt8) (w : World) : Calls Tryz.prog 89 #[.string (ByteArray.mk #[48, 49, 50, 51, 52, 53, 54, 55, 56, 57, 65, 66, 67, 68, 69, 70]), .int .u8 c.toNat] w fun e w' => e = .returned (.int .i64 (dvB (-1) c)) /\ w' = w := by
 refine (Tryz.strings_IndexByte (ByteArray.mk #[48, 49, 50, 51, 52, 53, 54, 55, 56, 57, 65, 66, 67, 68, 69, 70]) c.toNat w).mono ?_
 rintro e w' ⟨rfl, rfl⟩
 refine ⟨?_, rfl⟩
 have h := digU_val ⟨c.toNat, c.toNat_lt⟩
 simp only [UInt8.ofNat_toNat] at h
 have e : ((c.toNat : Int)).toNat.toUInt8 = c := by simp
 rw [e, h]
 rfl
theorem unwP_end {S out : V.Bs} (h1 : S ≠ [126]) (h2 : V.jd S = some out) (h3 : out ≠ []) : V.unwP S = (out, true) := by
 unfold V.unwP V.unwR
 rw [if_neg h1, h2]
 simp [h3]
theorem zcq {S : V.Bs} (h1 : S ≠ [126]) (h2 : V.jd S = none) : V.unwP S = ([], false) := by
 unfold V.unwP V.unwR
 rw [if_neg h1, h2]
theorem zqu (w : World) : (convert 36 9 (.slice none 0 0)).run Tryz.prog w = .ok (.string ⟨#[]⟩) w :=
 Lib.run_convert_nil_bytes w _ _ _ 0 Tryz.underlying36 Tryz.underlying5 Tryz.underlying9
theorem zy4 {P : Prop} (h : P := by
 go_wp2
 go_ret2
 exact ⟨by rw [HUW.out]; rfl, HBE.out⟩) : P := h
theorem zls (s : ByteArray) (w : World) (hs : s.size ≤ 1000000) : Calls Tryz.prog 67 #[.string s] w fun e w' => e = .returned (.tuple #[.string ⟨(V.unwP s.data.toList).1.toArray⟩, .bool (V.unwP s.data.toList).2]) /\ Below w.heap.size w w' := by
 by_cases h126 : s.data.toList = [126]
 ·have hs1 : s = ⟨#[126]⟩ := jw (by rw [h126])
  subst hs1
  go_enter Tryz.func67, Tryz.ntmps67
  go_wp2
  go_ret2
  exact ⟨rfl, zvu _ _⟩
 ·have HN := zvr h126
  have hne : (s.data.toList == [126]) = false := zvv.2 h126
  have hne4 : (s.toList == [126]) = false := by rw [Lib.toList_data]; exact hne
  clear h126
  go_enter Tryz.func67, Tryz.ntmps67
  go_wp2
  go_loopw [4, 5] (fun ov iv wx => ∃ (k : Nat) (out : V.Bs), k ≤ s.size /\ iv = .int .i64 k /\ Buf w.heap.size ov out w wx /\ V.jd s.data.toList = (V.jd (s.data.toList.drop k)).map (out ++ ·) /\ out.length ≤ k /\ (0 < k -> out ≠ []) /\ (k = 0 -> ov = .slice none 0 0)) (fun _ iv _ => s.size - (intOf iv).toNat)
  case atStart => exact ⟨0, [], Nat.zero_le _, rfl, Buf.nil (zvu _ _) (zvt _), by simp, zvt _, fun h => absurd h (by omega), fun _ => rfl⟩
  case round =>
   obtain ⟨k, out, hk, rfl, hb, hg, hol, hpos, hk0⟩ := hrel
   have HB := zvr hb
   obtain ⟨oa, oc, rfl⟩ := hb.slice
   have hl := zf s
   clear hb
   by_cases hlt : k < s.size
   ·have hk0c := hk0
    clear hk0 hpos
    have HAT := zvr (V.unw_at hg (k := k) (by omega))
    have he : s.data.toList[k]'(by omega) = s[k] := by simp; rfl
    have hs1 : (0 : Int) ≤ (k : Int) := by omega
    have hs2 : (k : Int) < (s.size : Int) := by omega
    obtain ⟨c, hc⟩ : ∃ c, c = s[k] := ⟨_, rfl⟩
    rw [he, ← hc] at HAT
    have HC := zvr hc
    have hc256 := c.toNat_lt
    clear he hc hg hk0c
    go_wp2_with fail
    rw [← HC.out]
    refine (za0 c wr).mono ?_
    rintro e w2 ⟨rfl, rfl⟩
    rcases hp : V.jg c with _ | _
    ·by_cases hc37 : c = 37
     ·have hq37 : ((c.toNat : Int) == 37) = true := by rw [hc37]; rfl
      by_cases hsh : s.size < k + 3
      ·have HUW : Hid (V.unwP s.data.toList = ([], false)) := zvr (zcq HN.out (HAT.out.2.2.1 hc37 (by omega)))
       have hq1 : IntKind.i64.wrap ((k : Int) + 2) = (k : Int) + 2 := by unfold IntKind.wrap; simp [IntKind.signed, IntKind.bits]; omega
       have hq2 : (s.size : Int) ≤ (k : Int) + 2 := by omega
       have hq3 : IntKind.i64.wrap ((s.size : Int) - (k : Int)) = (s.size : Int) - (k : Int) := by unfold IntKind.wrap; simp [IntKind.signed, IntKind.bits]; omega
       have hq4 : (s.size : Int) - (k : Int) < 3 := by omega
       subst hc37
       have hq5 : s[k] = 37 := HC.out.symm
       have HBE := zvr HB.out.2.1
       clear hp HAT HC hq37
       exact zy4
      ·have he1 : s.data.toList[k + 1]'(by omega) = s[k + 1]'(by omega) := by simp; rfl
       have he2 : s.data.toList[k + 2]'(by omega) = s[k + 2]'(by omega) := by simp; rfl
       obtain ⟨c1, hc1⟩ : ∃ c1, c1 = s[k + 1]'(by omega) := ⟨_, rfl⟩
       obtain ⟨c2, hc2⟩ : ∃ c2, c2 = s[k + 2]'(by omega) := ⟨_, rfl⟩
       have HC1 : Hid (s.data.toList[((k : Int) + 1).toNat]? = some c1) := zvr (by rw [show ((k : Int) + 1).toNat = k + 1 by omega, List.getElem?_eq_getElem (by omega), he1, ← hc1])
       have HC2 : Hid (s.data.toList[((k : Int) + 2).toNat]? = some c2) := zvr (by rw [show ((k : Int) + 2).toNat = k + 2 by omega, List.getElem?_eq_getElem (by omega), he2, ← hc2])
       have A1 : Hid (V.hexV c1 = none ∨ V.hexV c2 = none -> V.jd s.data.toList = none) := zvr (fun h => HAT.out.2.2.2.1 (by omega) hc37 (by rw [he1, he2, ← hc1, ← hc2]; exact h))
       have h3 : k + 2 < s.data.toList.length := by omega
       have A2 := zvr (fun (x y : Nat) (hx : V.hexV c1 = some x) (hy : V.hexV c2 = some y) => HAT.out.2.2.2.2 h3 x y hc37 (by rw [he1, ← hc1]; exact hx) (by rw [he2, ← hc2]; exact hy))
       have hq1 : IntKind.i64.wrap ((k : Int) + 1) = (k : Int) + 1 := by unfold IntKind.wrap; simp [IntKind.signed, IntKind.bits]; omega
       have hq2 : IntKind.i64.wrap ((k : Int) + 2) = (k : Int) + 2 := by unfold IntKind.wrap; simp [IntKind.signed, IntKind.bits]; omega
       have hq3 : IntKind.i64.wrap ((s.size : Int) - (k : Int)) = (s.size : Int) - (k : Int) := by unfold IntKind.wrap; simp [IntKind.signed, IntKind.bits]; omega
       have hq4 : ¬ (s.size : Int) - (k : Int) < 3 := by omega
       have hq6 : ¬ (s.size : Int) ≤ (k : Int) + 2 := by omega
       have hle : k + 3 ≤ s.size := by omega
       subst hc37
       have hq5 : s[k] = 37 := HC.out.symm
       clear hp HAT HC hq37 hc1 hc2 he1 he2 hsh h3
       go_wp2_with fail
       refine wp_region_held_drew (S := (fun W' => Below w2.heap.size w2 W')) (by kernel_rfl) (by (try dsimp only); exact (zvu _ w2).drew) (fun hHeld => ?_)
       refine tk 0 ?_
       refine tk 1 ?_
       refine wpAnyH_take (i := 2) (v := (.int .i64 ((k : Int) + 1))) rfl (by kernel_rfl) (by kernel_rfl) (by kernel_rfl) (fun _ _ _ h => h) (Or.inl ⟨by rfl, fun w' hSw => by go_simp; try rfl⟩) (by assumption) ?_
       try simp only [zvm, zvn, zvo, Act.put, zvp, List.set_cons_succ, List.set_cons_zero]
       refine wpAnyH_take (i := 3) (v := (.int .u8 c1.toNat)) rfl (by kernel_rfl) (by kernel_rfl) (by kernel_rfl) (fun _ _ _ h => h) (Or.inl ⟨by rfl, fun w' hSw => uj rfl rfl rfl (by omega) HC1.out⟩) (by assumption) ?_
       try simp only [zvm, zvn, zvo, Act.put, zvp, List.set_cons_succ, List.set_cons_zero]
       refine tk 5 ?_
       refine tk 6 ?_
       refine wpAnyH_take (i := 7) (v := (.int .i64 ((k : Int) + 2))) rfl (by kernel_rfl) (by kernel_rfl) (by kernel_rfl) (fun _ _ _ h => h) (Or.inl ⟨by rfl, fun w' hSw => by go_simp; try rfl⟩) (by assumption) ?_
       try simp only [zvm, zvn, zvo, Act.put, zvp, List.set_cons_succ, List.set_cons_zero]
       refine wpAnyH_take (i := 8) (v := (.int .u8 c2.toNat)) rfl (by kernel_rfl) (by kernel_rfl) (by kernel_rfl) (fun _ _ _ h => h) (Or.inl ⟨by rfl, fun w' hSw => uj rfl rfl rfl (by omega) HC2.out⟩) (by assumption) ?_
       try simp only [zvm, zvn, zvo, Act.put, zvp, List.set_cons_succ, List.set_cons_zero]
       refine rd 4 fun K hK => ?_
       go_simp
       refine (zi6 c1 _).mono ?_
       rintro e wA ⟨rfl, rfl⟩
       try dsimp only
       refine hK.out _ _ ?_ (fun hHeld => nx ?_)
       ·(try dsimp only); exact (zvu _ w2).drew
       clear hK K
       refine rd 9 fun K hK => ?_
       go_simp
       refine (zi6 c2 _).mono ?_
       rintro e wB ⟨rfl, rfl⟩
       try dsimp only
       refine hK.out _ _ ?_ (fun hHeld => nx ?_)
       ·(try dsimp only); exact (zvu _ w2).drew
       clear hK K
       refine tk 10 ?_
       refine tk 11 ?_
       refine wpAnyH_done (by kernel_rfl) ?_ _
       have HBD := zvr (HB.out.below (zvu _ w2).drew)
       clear hHeld HB HC1 HC2
       generalize w2.drew = w3 at *
       rcases hx : V.hexV c1 with _ | x
       ·have HUW : Hid (V.unwP s.data.toList = ([], false)) := zvr (zcq HN.out (A1.out (.inl hx)))
        have hd1 : dvB (-1) c1 = (-1) := by unfold dvB; rw [hx]
        have HBE := zvr HBD.out.2.1
        clear hx A1 A2
        exact zy4
       ·have hd1 : dvB (-1) c1 = (x : Int) := by unfold dvB; rw [hx]
        have hx16 := V.zil hx
        have hxn : ¬ (x : Int) < 0 := by omega
        have hxe : ((x : Int) == 16) = false := by rw [zvv]; omega
        rcases hy : V.hexV c2 with _ | y
        ·have HUW : Hid (V.unwP s.data.toList = ([], false)) := zvr (zcq HN.out (A1.out (.inr hy)))
         have hd2 : dvB (-1) c2 = (-1) := by unfold dvB; rw [hy]
         have HBE := zvr HBD.out.2.1
         clear hx hy A1 A2
         exact zy4
        ·have hd2 : dvB (-1) c2 = (y : Int) := by unfold dvB; rw [hy]
         have hy16 := V.zil hy
         have hyn : ¬ (y : Int) < 0 := by omega
         have hye : ((y : Int) == 16) = false := by rw [zvv]; omega
         have HA := zvr (A2.out x y hx hy)
         clear hx hy A1 A2
         obtain ⟨v, hv⟩ : ∃ v, v = UInt8.ofNat (16 * x + y) := ⟨_, rfl⟩
         have hvv : (v.toNat : Int) = 16 * (x : Int) + (y : Int) := by rw [hv]; simp; omega
         rw [← hv] at HA
         clear hv
         have hw1 : IntKind.i64.wrap (16 * (x : Int)) = 16 * (x : Int) := by unfold IntKind.wrap; simp [IntKind.signed, IntKind.bits]; omega
         have hw2 : IntKind.i64.wrap (16 * (x : Int) + (y : Int)) = 16 * (x : Int) + (y : Int) := by unfold IntKind.wrap; simp [IntKind.signed, IntKind.bits]; omega
         have hw3 : IntKind.u8.wrap (16 * (x : Int) + (y : Int)) = 16 * (x : Int) + (y : Int) := by unfold IntKind.wrap; simp [IntKind.signed, IntKind.bits]; omega
         have HVV := zvr hvv
         clear hvv
         have HPL := za0 v w3
         rw [HVV.out] at HPL
         have HPL := zvr HPL
         go_wp2_with fail
         refine HPL.out.mono ?_
         rintro e w4 ⟨rfl, rfl⟩
         clear HPL
         rcases hp2 : V.jg v with _ | _
         ·have HNX := zvr (HA.out.2 hp2)
          have HB2 : Hid (Buf w.heap.size (.slice oa out.length oc) out w (w4.alloc (.cells #[.int .u8 (16 * (x : Int) + (y : Int))] 5))) := zvr (HBD.out.below ((zvu _ w4).alloc (zvt _) _))
          have HBN : Hid (∀ j u, (bvals [v])[j]? = some u -> (w4.alloc (.cells #[.int .u8 (16 * (x : Int) + (y : Int))] 5)).cell? ⟨w4.heap.size, j, none⟩ = some u) := zvr (by rw [← HVV.out]; exact ya [v] w4)
          clear hp2 HA
          go_wp2_with (first | (refine zcj rfl _ _ rfl w.heap.size (.slice oa out.length oc) out w rfl HB2.out w4.heap.size 1 [v] rfl HBN.out (by simp; omega) ?_; intro v9 w9 hb9) | fail)
          have HB9 := zvr hb9
          clear hb9 HB2 HBN HBD
          go_wp2
          go_roundw
          case rel => exact ⟨k + 3, out ++ [v], hle, by go_num, HB9.out, HNX.out, by simp; omega, fun _ => by simp, fun h => absurd h (by omega)⟩
          case measure => simp [intOf]; omega
         ·have HUW : Hid (V.unwP s.data.toList = ([], false)) := zvr (zcq HN.out (HA.out.1 hp2))
          have HBE := zvr HBD.out.2.1
          clear hp2 HA
          exact zy4
     ·have HUW : Hid (V.unwP s.data.toList = ([], false)) := zvr (zcq HN.out (HAT.out.2.1 hp hc37))
      have hq1 : ¬ ((c.toNat : Int) = 37) := fun e => hc37 (by apply UInt8.toNat_inj.1; have : c.toNat = 37 := by omega
                                                               rw [this]; rfl)
      have hq2 : ((c.toNat : Int) == 37) = false := zvv.2 hq1
      have HBE := zvr HB.out.2.1
      rw [HC.out] at hq1 hq2
      clear hp HAT
      exact zy4
    ·have HNX := zvr (HAT.out.1 hp)
     clear hp HAT
     have HB2 : Hid (Buf w.heap.size (.slice oa out.length oc) out w (w2.alloc (.cells #[.int .u8 s[k].toNat] 5))) := zvr (HB.out.below ((zvu _ w2).alloc (zvt _) _))
     have HBN : Hid (∀ j u, (bvals [c])[j]? = some u -> (w2.alloc (.cells #[.int .u8 s[k].toNat] 5)).cell? ⟨w2.heap.size, j, none⟩ = some u) := zvr (by rw [← HC.out]; exact ya [c] w2)
     go_wp2_with (first | (refine zcj rfl _ _ rfl w.heap.size (.slice oa out.length oc) out w rfl HB2.out w2.heap.size 1 [c] rfl HBN.out (by simp; omega) ?_; intro v9 w9 hb9) | fail)
     have HB9 := zvr hb9
     clear hb9 HB2 HBN HB HC
     go_wp2
     go_roundw
     case rel => exact ⟨k + 1, out ++ [c], by omega, by go_num, HB9.out, HNX.out, by simp; omega, fun _ => by simp, fun h => absurd h (by omega)⟩
     case measure => simp [intOf]; omega
   ·obtain rfl : k = s.size := by omega
    have hg2 : V.jd s.data.toList = some out := by
     rw [hg, List.drop_of_length_le (by omega)]
     simp [V.jd]
    clear hg
    have HOUT := zvr hg2
    by_cases hs0 : s.size = 0
    ·have hov := hk0 hs0
     have hcv := zqu wr
     have HUW : Hid (V.unwP s.data.toList = ([], false)) := zvr (by
       have : s.data.toList = [] := List.length_eq_zero_iff.1 (by rw [zf]; exact hs0)
       rw [this]; rfl)
     have HBE := zvr HB.out.2.1
     obtain rfl : out = [] := List.length_eq_zero_iff.1 (by omega)
     simp only [List.length_nil, Value.slice.injEq] at hov
     obtain ⟨rfl, -, rfl⟩ := hov
     exact zy4
    ·have HUW : Hid (V.unwP s.data.toList = (out, true)) := zvr (unwP_end HN.out HOUT.out (hpos (by omega)))
     have hcv := zfw HB.out (List.length_pos_iff.2 (hpos (by omega)))
     have hop := List.length_pos_iff.2 (hpos (by omega))
     have hop2 : (0 : Int) < (out.length : Int) := by omega
     have HBL := zvr HB.out.2.1
     go_wp2
     go_ret2
     exact ⟨by rw [HUW.out]; rfl, HBL.out⟩
open Go.RowKit
namespace V
theorem zjc (s : Bs) : unwP s = ([], false) ∨ ∃ w, unwP s = (w, true) /\ unwR s = some w := by
 unfold unwP
 cases unwR s with
 | none => exact .inl rfl
 | some w => exact .inr ⟨w, rfl, rfl⟩
theorem unwR_len {s w : Bs} (h : unwR s = some w) : w.length ≤ s.length := by
 have h1 := vv w
 rw [zmh h] at h1
 rw [h1]
 unfold ws
 have := le_sum w
 omega
theorem zso (c : UInt8) {s x : Bs} (h : x ∈ ze c s) : x.length ≤ s.length := by
 have h1 := zi0 c s
 have h2 : ∀ {l : List Bs} {x : Bs}, x ∈ l -> x.length + 1 ≤ (l.map fun x => x.length + 1).sum := by
  intro l x hx
  induction l with
  | nil => cases hx
  | cons y l ih =>
   rw [List.map_cons, List.sum_cons]
   rcases List.mem_cons.1 hx with rfl | hx
   ·omega
   ·have := ih hx; omega
 have := h2 h
 omega
theorem zsy (c : UInt8) (s : Bs) : (ze c s).length ≤ s.length + 1 := by
 have h1 := zi0 c s
 have h2 : ∀ l : List Bs, l.length ≤ (l.map fun x => x.length + 1).sum := by
  intro l
  induction l with
  | nil => simp
  | cons y l ih => rw [List.map_cons, List.sum_cons, List.length_cons]; omega
 have := h2 (ze c s)
 omega
theorem zmu : ∀ {P l : List Bs} {M : Nat}, jf P = some l -> (∀ s ∈ P, s.length ≤ M) -> ∀ w ∈ l, w.length ≤ M
 | [], l, M, h, _ => by cases h; intro w hw; cases hw
 | s :: P, l, M, h, hm => by
  rw [jf] at h
  cases hs : unwR s with
  | none => rw [hs] at h; cases h
  | some w =>
   rw [hs] at h
   simp only at h
   cases hr : jf P with
   | none => rw [hr] at h; cases h
   | some l' =>
    rw [hr] at h
    cases h
    intro x hx
    rcases List.mem_cons.1 hx with rfl | hx
    ·have := unwR_len hs
     have := hm s (List.mem_cons_self ..)
     omega
    ·exact zmu hr (fun s hs => hm s (List.mem_cons_of_mem _ hs)) x hx
end V
def zb2 (w : World) (v : Value) (bs : V.Bs) : Prop :=
 ∃ a cap, v = .slice a bs.length cap /\ bs.length ≤ cap /\ ∀ j (h : j < bs.length), ∃ b off, a = some ⟨b, off, none⟩ /\ b < w.heap.size /\ w.cell? ⟨b, off + j, none⟩ = some (.int .u8 (bs[j]).toNat)
theorem zb2.below {w w' : World} {v : Value} {bs : V.Bs} (h : zb2 w v bs) (hb : Below w.heap.size w w') : zb2 w' v bs := by
 obtain ⟨a, cap, e, hc, hat⟩ := h
 refine ⟨a, cap, e, hc, fun j hj => ?_⟩
 obtain ⟨b, off, ea, hlt, hr⟩ := hat j hj
 exact z0k
theorem zjr (w : World) (g off n cap : Nat) (bs : V.Bs) (hn : bs.length = n) (hc : ∀ j (h : j < bs.length), w.cell? ⟨g, off + j, none⟩ = some (.int .u8 (bs[j]).toNat)) :
  (convert 36 9 (.slice (some ⟨g, off, none⟩) n cap)).run Tryz.prog w = .ok (.string ⟨bs.toArray⟩) w := by
 subst hn
 have r := run_convert_bytes_arg (P := Tryz.prog) w 36 5 Tryz.underlying36 Tryz.underlying5 g off bs.length cap (bs.map fun b => (b.toNat : Int)) (by simp) (fun i hi => by
   rw [hc i hi, List.getD_eq_getElem?_getD, List.getElem?_map, List.getElem?_eq_getElem hi]
   rfl) 9 Tryz.underlying9
 refine r.trans (congrArg (fun x => Result.ok (Value.string x) w) (jw ?_))
 rw [strOfNums_data, List.map_map]
 simp only [zaz]
 conv => rhs; rw [← List.map_id bs]
 apply List.map_congr_left
 intro b _
 simp
def wrdE (s : V.Bs) : List Value := [.string ⟨s.toArray⟩]
theorem wrdE_len (s : V.Bs) : (wrdE s).length = 1 := rfl
theorem wrdE_one (s : V.Bs) : ∀ u ∈ wrdE s, u.oneCell' = true := by
 intro u hu
 simp [wrdE] at hu
 subst hu
 rfl
theorem wrdInfo : xt 9 1 16 := by
 have h : (match Tryz.prog.info? 9 with | some i => i.size == 1 && (i.bytes == 16 && (match i.zero with | some z => z.cells.size == 1 | none => false)) | none => false) = true := by kernel_rfl
 unfold xt
 cases hq : Tryz.prog.info? 9 with
 | none => rw [hq] at h; cases h
 | some i =>
  exact zwa
theorem wrd_strs {w : World} {N : Nat} {v : Value} {l : List V.Bs} (h : GRow 9 1 wrdE w N v l) : Strs w v l := by
 obtain ⟨a, cap, rfl⟩ := GRow.slice h
 refine ⟨a, cap, rfl, fun j hj => ?_⟩
 obtain ⟨g, cap2, e, hN, hg, hc⟩ := GRow.at wrdE_len h j hj
 cases e
 exact ⟨g, 0, rfl, hg, by simpa using hc 0 _ rfl⟩
theorem Lines.nil (w : World) : Lines w (.slice none 0 0) [] := ⟨none, 0, rfl, fun j h => by simp at h⟩
def CapOk (v : Value) : Prop := ∃ a n c, v = .slice a n c /\ n ≤ c
theorem LRow.cap {N : Nat} {w : World} {v : Value} {us : List Lsl} {ls : List (List V.Bs)} (h : LRow N w v us ls) : CapOk v := by
 rcases h.row.2 with ⟨rfl, hn⟩ | ⟨g, cap, cur, rfl, _, _, hc, _⟩
 ·exact ⟨_, _, _, rfl, zvt _⟩
 ·exact ⟨_, _, _, rfl, hc⟩
def zba (bs : V.Bs) (w : World) (e : Ending) (w' : World) : Prop :=
 ∃ u, e = .returned (.tuple #[u, .int .i64 (V.decP bs).2]) /\ Lines w' u (V.decP bs).1 /\ CapOk u /\ Below w.heap.size w w'
theorem zba.err {bs : V.Bs} {w w' : World} {c : Int} (h : V.decP bs = ([], c)) (hb : Below w.heap.size w w') : zba bs w (.returned (.tuple #[.slice none 0 0, .int .i64 c])) w' :=
 ⟨_, by rw [h], by rw [h]; exact Lines.nil _, ⟨_, _, _, rfl, zvt _⟩, hb⟩
open Go.RowKit
theorem Lines.at {w : World} {a : Option Addr} {n cap : Nat} {ls : List (List V.Bs)} (h : Lines w (.slice a n cap) ls) (j : Nat) (hj : j < ls.length) : ∃ b off u, a = some ⟨b, off, none⟩ /\ b < w.heap.size /\ w.cell? ⟨b, off + j, none⟩ = some u /\ Strs w u ls[j] := by
 obtain ⟨a', c, e, hc⟩ := h
 cases e
 exact hc j hj
theorem zrs {w : World} {B off cap m : Nat} {l0 : List V.Bs} {rest : List (List V.Bs)} (h : Lines w (.slice (some ⟨B, off, none⟩) m cap) (l0 :: rest)) (hm : m = rest.length + 1) (hc : m ≤ cap) :
  ∃ o', (if cap = 1 then some (⟨B, off, none⟩ : Addr) else some ⟨B, off + 1, none⟩) = some ⟨B, o', none⟩ /\ ∀ j (hj : j < rest.length), ∃ u, w.cell? ⟨B, o' + j, none⟩ = some u /\ Strs w u rest[j] := by
 by_cases h1 : cap = 1
 ·refine ⟨off, if_pos h1, fun j hj => by omega⟩
 ·refine ⟨off + 1, if_neg h1, fun j hj => ?_⟩
  obtain ⟨b, o, u, e, _, hu, hs⟩ := h.at (j + 1) (by simp; omega)
  cases e
  refine ⟨u, ?_, by simpa using hs⟩
  rw [Nat.add_assoc, Nat.add_comm 1 j]
  exact hu
theorem V.decP_words {bs : V.Bs} : ∀ l ∈ (V.decP bs).1, ∀ x ∈ l, x.length ≤ 32768 := by
 intro l hl x hx
 unfold V.decP at hl
 split at hl
 ·simp at hl
 ·split at hl
  ·rename_i ls hls
   split at hl
   ·simp only at hl
    have hp : ∀ (r : List V.Bs) (ls : List (List V.Bs)), V.js r = some ls -> ∀ l ∈ ls, V.chk l = 0 := by
     intro r
     induction r with
     | nil => intro ls h; simp [V.js] at h
     | cons x t ih =>
      intro ls h
      by_cases ht : t = []
      ·subst ht
       unfold V.js at h
       split at h
       ·cases h; intro l hl; simp at hl
       ·cases h
      ·rw [V.zd2 ht] at h
       split at h
       ·cases h
       ·rename_i l0 _
        split at h
        ·rename_i hc
         rw [Option.map_eq_some_iff] at h
         obtain ⟨ls', h1, rfl⟩ := h
         intro l hl
         rcases List.mem_cons.1 hl with rfl | hl
         ·exact hc
         ·exact ih _ h1 l hl
        ·cases h
    exact (V.zct.1 (hp _ _ hls l hl)).2.2 x hx
   ·simp at hl
  ·simp at hl
theorem V.decP_len (bs : V.Bs) : (V.decP bs).1.length ≤ 1000 := by
 unfold V.decP
 split
 ·simp
 ·split
  ·split
   ·assumption
   ·simp
  ·simp
end Go.Proofs.YtiloljoancdcbaaGreatDoor
