/-
  Walk: the reference's Encode of documents.
-/
import Derived.Test.YtpjjkbdkgaehkaaGreatDoorDE
namespace Go.Proofs.YtpjjkbdkgaehkaaGreatDoor
open Go.RowKit

set_option maxRecDepth 100000 in
set_option maxHeartbeats 3200000 in
theorem rdocEncode_any (v : Value) (ls : List (List V.Bs)) (w : World) (hv : Lines w v ls) (hd : V.DocOk ls) :
    Calls Tryz.prog 33 #[v] w fun e w' => ∃ u, e = .returned (.tuple #[u, .int .i64 0]) ∧ Buf w.heap.size u (V.doc ls) w w' := by
  obtain ⟨va, vc, rfl, hat⟩ := hv
  have HA := Lib.hid hat
  have HD := Lib.hid hd
  have hn := hd.lines
  have hmax := hd.size
  have hn1 : ¬ (1000 : Int) < (ls.length : Int) := by omega
  have HLEN : Hid (∀ k, k ≤ ls.length → (V.docTo ls k).length = V.docSz ls k) := Lib.hid (V.docTo_len (fun l hl => (hd.line l hl).1))
  clear hat hd
  go_enter Tryz.func33, Tryz.ntmps33
  go_wp2
  go_loopw [4, 5] (fun ov iv wx => ∃ k : Nat, k ≤ ls.length ∧ iv = .int .i64 k ∧ Buf w.heap.size ov (V.docTo ls k) w wx) (fun _ iv _ => ls.length - (intOf iv).toNat)
  case atStart => exact ⟨0, Nat.zero_le _, rfl, Buf.nil (Below.refl _ _) (Nat.le_refl _)⟩
  case round =>
    obtain ⟨k, hk, rfl, hbuf⟩ := hrel
    have HB := Lib.hid hbuf
    obtain ⟨oa, oc, rfl⟩ := hbuf.slice
    clear hbuf
    by_cases hlt : k < ls.length
    · have HST := Lib.hid (V.docTo_step hlt)
      have hlen1 : (V.docTo ls k).length + (V.line ls[k]).length ≤ 262144 := by
        have h1 := HLEN.out (k + 1) (by omega)
        have h2 := V.docSz_le (ls := ls) (j := k + 1) (by omega) (Nat.le_refl ls.length)
        rw [HST.out, List.length_append] at h1
        omega
      obtain ⟨b, off, u, rfl, hb0, hc0, hs⟩ := HA.out k hlt
      have hc := (HB.out.2.1.cell (p := ⟨b, off + k, none⟩) hb0).trans hc0
      have HC0 := Lib.hid (And.intro hb0 hc0)
      have HS := Lib.hid hs
      obtain ⟨ua, uc, rfl, _⟩ := hs
      clear hb0 hc0
      have HX := Lib.hid (HD.out.line _ (List.getElem_mem hlt))
      have hx0 := HX.out.1
      have hx1 := HX.out.2.1
      have hi1 : (0 : Int) ≤ (k : Int) := by omega
      have hi2 : (k : Int) < (ls.length : Int) := by omega
      have HLN : Hid (V.line ls[k] = V.lineTo ls[k] ls[k].length ++ [10]) := Lib.hid rfl
      have hll : (V.line ls[k]).length = (V.lineTo ls[k] ls[k].length).length + 1 := by unfold V.line; simp
      obtain ⟨A, hA⟩ : ∃ A, A = V.docTo ls k := ⟨_, rfl⟩
      rw [← hA] at HST hlen1 HB ⊢
      generalize ls[k] = l at *
      have hq0 : ((l.length : Int) == 0) = false := by rw [beq_eq_false_iff_ne]; omega
      have hq1 : ¬ (120 : Int) < (l.length : Int) := by omega
      clear hA
      go_wp2
      clear hc hq0 hq1
      go_loopw [4, 6] (fun ov iv wx => ∃ j : Nat, j ≤ l.length ∧ iv = .int .i64 j ∧ Buf w.heap.size ov (A ++ V.lineTo l j) w wx) (fun _ iv _ => l.length - (intOf iv).toNat)
      case atStart => exact ⟨0, Nat.zero_le _, rfl, by rw [show V.lineTo l 0 = [] from rfl, List.append_nil]; exact HB.out⟩
      case round =>
        obtain ⟨j, hj, rfl, hbuf⟩ := hrel
        have HB2 := Lib.hid hbuf
        obtain ⟨oa2, oc2, rfl⟩ := hbuf.slice
        have hc := (HB2.out.2.1.cell (p := ⟨b, off + k, none⟩) HC0.out.1).trans HC0.out.2
        clear hbuf HB
        by_cases hjl : j < l.length
        · obtain ⟨ua2, uc2, e2, hat2⟩ := HS.out
          cases e2
          obtain ⟨b2, off2, rfl, hb2, hc0⟩ := hat2 j hjl
          have hc2 := (HB2.out.2.1.cell (p := ⟨b2, off2 + j, none⟩) hb2).trans hc0
          have HC2 := Lib.hid (And.intro hb2 hc0)
          have hx := HX.out.2.2 _ (List.getElem_mem hjl)
          have hj1 : (0 : Int) ≤ (j : Int) := by omega
          have hj2 : (j : Int) < (l.length : Int) := by omega
          have HT2 := Lib.hid (V.lineTo_step l j)
          have hg : l.getD j [] = l[j] := by rw [List.getD_eq_getElem?_getD, List.getElem?_eq_getElem hjl]; rfl
          rw [hg] at HT2
          have hlen2 : A.length + (V.lineTo l j).length ≤ 270000 := by
            have h1 := (V.lineTo_len (l := l) j hj).1
            have h2 := V.lineSz_le (l := l) hj (Nat.le_refl l.length)
            have h3 := V.line_len (l := l) HX.out.1
            omega
          obtain ⟨M, hM⟩ : ∃ M, M = A ++ V.lineTo l j := ⟨_, rfl⟩
          have HM := Lib.hid hM
          have hml : M.length ≤ 270000 := by rw [hM, List.length_append]; exact hlen2
          rw [← hM] at HB2 ⊢
          generalize l[j] = x at *
          have hxs := sz_arr x
          have hx2 : ¬ (32768 : Int) < (x.length : Int) := by omega
          have hx3 : ¬ (32768 : Int) < ((ByteArray.mk x.toArray).size : Int) := by rw [hxs]; omega
          clear hat2 hc0 hM hg hlen2 hb2
          by_cases hj0 : j = 0
          · subst hj0
            rw [Nat.add_zero] at hc2
            go_wp2_with fail
            refine (rdocWord_bs x wr (by omega)).mono ?_
            rintro e w3 ⟨rfl, hb3⟩
            have HB3 := Lib.hid (HB2.out.below hb3)
            have hwl := V.word_len x
            have hwl2 := V.sizeW_le x
            clear hb3 HB2
            go_wp2_with (first | (refine wl_text rfl _ _ rfl w.heap.size (.slice oa2 M.length oc2) M w rfl HB3.out (V.word x) rfl (by omega) ?_; intro v9 w9 hb9) | fail)
            have HB9 := Lib.hid hb9
            clear hb9 hwl hwl2
            go_wp2
            go_roundw
            case rel => exact ⟨0 + 1, by omega, by go_num, by
              have := HB9.out
              rw [HM.out, List.append_assoc] at this
              rw [HT2.out]
              exact this⟩
            case measure => simp [intOf]; omega
          · have hjp : (0 : Int) < (j : Int) := by omega
            have hb4 : Below wr.heap.size wr (wr.alloc (.cells #[.int .u8 32] 5)) := (Below.refl _ wr).alloc (Nat.le_refl _) _
            have HB4 := Lib.hid (HB2.out.below hb4)
            have HBN := Lib.hid (bytes_new [32] wr)
            clear hb4
            go_wp2_with (first | (refine wl_bytes rfl _ _ rfl w.heap.size (.slice oa2 M.length oc2) M w rfl HB4.out wr.heap.size 1 [32] rfl HBN.out (by simp; omega) ?_; intro v5 w5 hb5; have hc5 := (hb5.2.1.cell (p := ⟨b, off + k, none⟩) HC0.out.1).trans HC0.out.2; have hc6 := (hb5.2.1.cell (p := ⟨b2, off2 + j, none⟩) HC2.out.1).trans HC2.out.2) | fail)
            replace HB2 := Lib.hid hb5
            clear hb5 HB4 HBN hc2 hc
            refine (rdocWord_bs x w5 (by omega)).mono ?_
            rintro e w3 ⟨rfl, hb3⟩
            have HB3 := Lib.hid (HB2.out.below hb3)
            have hwl := V.word_len x
            have hwl2 := V.sizeW_le x
            clear hb3 HB2
            go_wp2_with (first | (refine wl_text rfl _ _ rfl w.heap.size v5 (M ++ [32]) w rfl HB3.out (V.word x) rfl (by simp; omega) ?_; intro v9 w9 hb9) | fail)
            have HB9 := Lib.hid hb9
            clear hb9 hwl hwl2
            go_wp2
            go_roundw
            case rel => exact ⟨j + 1, by omega, by go_num, by
              have := HB9.out
              rw [HM.out, List.append_assoc, List.append_assoc] at this
              rw [HT2.out, if_neg hj0]
              exact this⟩
            case measure => simp [intOf]; omega
        · obtain rfl : j = l.length := by omega
          have hlen3 : (A ++ V.lineTo l l.length).length ≤ 270000 := by rw [List.length_append]; omega
          have hA10 : A ++ V.line l = (A ++ V.lineTo l l.length) ++ [10] := by rw [HLN.out, List.append_assoc]
          rw [hA10] at HST
          obtain ⟨M, hM⟩ : ∃ M, M = A ++ V.lineTo l l.length := ⟨_, rfl⟩
          rw [← hM] at HB2 HST hlen3 ⊢
          have hb4 : Below wr.heap.size wr (wr.alloc (.cells #[.int .u8 10] 5)) := (Below.refl _ wr).alloc (Nat.le_refl _) _
          have HB4 := Lib.hid (HB2.out.below hb4)
          have HBN := Lib.hid (bytes_new [10] wr)
          clear hb4 hA10 hM HB2
          go_wp2_with (first | (refine wl_bytes rfl _ _ rfl w.heap.size (.slice oa2 M.length oc2) M w rfl HB4.out wr.heap.size 1 [10] rfl HBN.out (by simp; omega) ?_; intro v5 w5 hb5) | fail)
          have HB5 := Lib.hid hb5
          clear hb5 HB4 HBN
          go_wp2
          go_roundw
          case rel => exact ⟨k + 1, by omega, by go_num, by rw [HST.out]; exact HB5.out⟩
          case measure => simp [intOf]; omega
    · obtain rfl : k = ls.length := by omega
      have hdl : (V.docTo ls ls.length).length ≤ 262144 := by rw [HLEN.out _ (Nat.le_refl _)]; exact hmax
      rw [V.docTo_all] at HB hdl ⊢
      have hbig : ¬ (262144 : Int) < ((V.doc ls).length : Int) := by omega
      go_wp2
      go_ret2
      exact ⟨_, rfl, HB.out⟩
end Go.Proofs.YtpjjkbdkgaehkaaGreatDoor
