/-
  Walk: document.Encode.
  Rows of structs of one's own, of any shape: how they read, an append.
-/
import Derived.Test.YtnhfaincdabdkaaGreatDoorDD
import Derived.Test.YtnhfaincdabdkaaGreatDoorL2
import Derived.Test.YtnhfaincdabdkaaGreatDoorDB
import Derived.Laws.AppendOwn
import Derived.OwnWalk
import Derived.Maps.AppendAt
import Derived.Deep.MidRow
namespace Go.Proofs.YtnhfaincdabdkaaGreatDoor
open Go.RowKit

/-- v is a slice of the lines ls -/
def Lines (w : World) (v : Value) (ls : List (List V.Bs)) : Prop :=
  ∃ a cap, v = .slice a ls.length cap ∧ ∀ j (h : j < ls.length), ∃ b off u, a = some ⟨b, off, none⟩ ∧ b < w.heap.size ∧ w.cell? ⟨b, off + j, none⟩ = some u ∧ Strs w u ls[j]
theorem strs_below {w w' : World} {v : Value} {l : List V.Bs} (h : Strs w v l) (hb : Below w.heap.size w w') : Strs w' v l := by
  obtain ⟨a, cap, e, hc⟩ := h
  refine ⟨a, cap, e, fun j hj => ?_⟩
  obtain ⟨b, off, ea, hlt, hr⟩ := hc j hj
  exact ⟨b, off, ea, Nat.lt_of_lt_of_le hlt hb.size, (hb.cell (p := ⟨b, off + j, none⟩) hlt).trans hr⟩
theorem Lines.below {w w' : World} {v : Value} {ls : List (List V.Bs)} (h : Lines w v ls) (hb : Below w.heap.size w w') : Lines w' v ls := by
  obtain ⟨a, cap, e, hc⟩ := h
  refine ⟨a, cap, e, fun j hj => ?_⟩
  obtain ⟨b, off, u, ea, hlt, hr, hs⟩ := hc j hj
  exact ⟨b, off, u, ea, Nat.lt_of_lt_of_le hlt hb.size, (hb.cell (p := ⟨b, off + j, none⟩) hlt).trans hr, strs_below hs hb⟩
theorem bs_arr (x : V.Bs) : (ByteArray.mk x.toArray).data.toList = x := by simp
theorem sz_arr (x : V.Bs) : (ByteArray.mk x.toArray).size = x.length := by simp [ByteArray.size]
theorem docSize_bs (x : V.Bs) (w : World) (hs : x.length ≤ 100000) : Calls Tryz.prog 106 #[.string ⟨x.toArray⟩] w fun e w' => e = .returned (.int .i64 (V.sizeW x : Nat)) ∧ w' = w := by
  have := docSize_any ⟨x.toArray⟩ w (by rw [sz_arr]; exact hs)
  rwa [bs_arr] at this
theorem docWord_bs (x : V.Bs) (w : World) (hs : x.length ≤ 100000) : Calls Tryz.prog 107 #[.string ⟨x.toArray⟩] w fun e w' => e = .returned (.string ⟨(V.word x).toArray⟩) ∧ Below w.heap.size w w' := by
  have := docWord_any ⟨x.toArray⟩ w (by rw [sz_arr]; exact hs)
  rwa [bs_arr] at this
theorem rdocWord_bs (x : V.Bs) (w : World) (hs : x.length ≤ 100000) : Calls Tryz.prog 82 #[.string ⟨x.toArray⟩] w fun e w' => e = .returned (.string ⟨(V.word x).toArray⟩) ∧ Below w.heap.size w w' := by
  have := rdocWord_any ⟨x.toArray⟩ w (by rw [sz_arr]; exact hs)
  rwa [bs_arr] at this

set_option maxRecDepth 100000 in
theorem docCheck_any (v : Value) (l : List V.Bs) (w : World) (hv : Strs w v l) (h0 : 0 < l.length) (h1 : l.length ≤ 120) (hw : ∀ x ∈ l, x.length ≤ 32768) :
    Calls Tryz.prog 92 #[v] w fun e w' => e = .returned (.int .i64 0) ∧ w' = w := by
  obtain ⟨va, vc, rfl, hat⟩ := hv
  have HA := Lib.hid hat
  have HW := Lib.hid hw
  clear hat hw
  have hn0 : ((l.length : Int) == 0) = false := by rw [beq_eq_false_iff_ne]; omega
  have hn1 : ¬ (120 : Int) < (l.length : Int) := by omega
  go_enter Tryz.func92, Tryz.ntmps92
  go_wp2
  go_loop [15] (fun iv => ∃ k : Nat, k ≤ l.length ∧ iv = .int .i64 k) (fun iv => l.length - (intOf iv).toNat)
  case atStart => exact ⟨0, Nat.zero_le _, rfl⟩
  case round =>
    obtain ⟨k, hk, rfl⟩ := hrel
    by_cases hlt : k < l.length
    · obtain ⟨b, off, rfl, hb, hc⟩ := HA.out k hlt
      have hx := HW.out _ (List.getElem_mem hlt)
      have hi1 : (0 : Int) ≤ (k : Int) := by omega
      have hi2 : (k : Int) < (l.length : Int) := by omega
      generalize l[k] = x at *
      have hxs := sz_arr x
      have hx2 : ¬ (32768 : Int) < (x.length : Int) := by omega
      have hx3 : ¬ (32768 : Int) < ((ByteArray.mk x.toArray).size : Int) := by rw [hxs]; omega
      go_wp2
      go_round
      case rel => exact ⟨k + 1, by omega, by go_num⟩
      case measure => simp [intOf]; omega
    · obtain rfl : k = l.length := by omega
      go_wp2
      go_ret
      exact ⟨rfl, rfl⟩

set_option maxRecDepth 100000 in
set_option maxHeartbeats 3200000 in
theorem docEncode_any (v : Value) (ls : List (List V.Bs)) (w : World) (hv : Lines w v ls) (hd : V.DocOk ls) :
    Calls Tryz.prog 60 #[v] w fun e w' => ∃ u, e = .returned (.tuple #[u, .int .i64 0]) ∧ Buf w.heap.size u (V.doc ls) w w' := by
  have HL := Lib.hid hv
  obtain ⟨va, vc, rfl, hat⟩ := hv
  have HA := Lib.hid hat
  have HD := Lib.hid hd
  have hn := hd.lines
  have hn1 : ¬ (1000 : Int) < (ls.length : Int) := by omega
  clear hat hd
  go_enter Tryz.func60, Tryz.ntmps60
  go_wp2
  go_loop [22] (fun iv => ∃ k : Nat, k ≤ ls.length ∧ iv = .int .i64 k) (fun iv => ls.length - (intOf iv).toNat)
  case atStart => exact ⟨0, Nat.zero_le _, rfl⟩
  case round =>
    obtain ⟨k, hk, rfl⟩ := hrel
    by_cases hlt : k < ls.length
    · obtain ⟨b, off, u, rfl, hb, hc, hs⟩ := HA.out k hlt
      have HX := Lib.hid (HD.out.line _ (List.getElem_mem hlt))
      have HS := Lib.hid hs
      have hi1 : (0 : Int) ≤ (k : Int) := by omega
      have hi2 : (k : Int) < (ls.length : Int) := by omega
      generalize ls[k] = l at *
      clear hs
      go_wp2_with fail
      refine (docCheck_any u l w HS.out HX.out.1 HX.out.2.1 HX.out.2.2).mono ?_
      rintro e w' ⟨rfl, rfl⟩
      go_wp2
      go_round
      case rel => exact ⟨k + 1, by omega, by go_num⟩
      case measure => simp [intOf]; omega
    · obtain rfl : k = ls.length := by omega
      go_wp2
      go_loop [7, 34] (fun tv iv => ∃ k : Nat, k ≤ ls.length ∧ iv = .int .i64 k ∧ tv = .int .i64 (V.docSz ls k : Nat)) (fun _ iv => ls.length - (intOf iv).toNat)
      case atStart => exact ⟨0, Nat.zero_le _, rfl, rfl⟩
      case round =>
        obtain ⟨k, hk, rfl, rfl⟩ := hrel
        have htot := V.docSz_le (j := k) hk (Nat.le_refl ls.length)
        have hmax := HD.out.size
        by_cases hlt : k < ls.length
        · obtain ⟨b, off, u, rfl, hb, hc, hs⟩ := HA.out k hlt
          have HX := Lib.hid (HD.out.line _ (List.getElem_mem hlt))
          obtain ⟨ua, uc, rfl, hus⟩ := hs
          have HU := Lib.hid hus
          have hi1 : (0 : Int) ≤ (k : Int) := by omega
          have hi2 : (k : Int) < (ls.length : Int) := by omega
          have HT := Lib.hid (V.docSz_step hlt)
          have hnext := V.docSz_le (j := k + 1) (by omega) (Nat.le_refl ls.length)
          rw [HT.out] at hnext
          obtain ⟨q, hq⟩ : ∃ q, q = V.docSz ls k := ⟨_, rfl⟩
          rw [← hq] at HT htot hnext ⊢
          generalize ls[k] = l at *
          clear hus hq
          go_wp2
          go_loop [7, 40] (fun tv iv => ∃ j : Nat, j ≤ l.length ∧ iv = .int .i64 j ∧ tv = .int .i64 ((q + V.lineSz l j : Nat) : Int)) (fun _ iv => l.length - (intOf iv).toNat)
          case atStart => exact ⟨0, Nat.zero_le _, rfl, rfl⟩
          case round =>
            obtain ⟨j, hj, rfl, rfl⟩ := hrel
            have hle := V.lineSz_le (l := l) hj (Nat.le_refl l.length)
            by_cases hjl : j < l.length
            · obtain ⟨b2, off2, rfl, hb2, hc2⟩ := HU.out j hjl
              have hx := HX.out.2.2 _ (List.getElem_mem hjl)
              have hl120 := HX.out.2.1
              have HT2 := Lib.hid (V.lineSz_step hjl)
              have hle2 := V.lineSz_le (l := l) (j := j + 1) (by omega) (Nat.le_refl l.length)
              rw [HT2.out] at hle2
              have hj1 : (0 : Int) ≤ (j : Int) := by omega
              have hj2 : (j : Int) < (l.length : Int) := by omega
              generalize l[j] = x at *
              obtain ⟨r, hr⟩ : ∃ r, r = V.lineSz l j := ⟨_, rfl⟩
              rw [← hr] at HT2 hle hle2 ⊢
              obtain ⟨z, hz⟩ : ∃ z, z = V.sizeW x := ⟨_, rfl⟩
              rw [← hz] at HT2 hle2
              have HZ := Lib.hid hz
              clear hr hz
              go_wp2_with fail
              refine (docSize_bs x w (by omega)).mono ?_
              rintro e w' ⟨rfl, rfl⟩
              rw [← HZ.out]
              go_wp2
              go_round
              case rel => exact ⟨j + 1, by omega, by go_num, by rw [HT2.out]; go_num⟩
              case measure => simp [intOf]; omega
            · obtain rfl : j = l.length := by omega
              go_wp2
              go_round
              case rel => exact ⟨k + 1, by omega, by go_num, by rw [HT.out]⟩
              case measure => simp [intOf]; omega
        · obtain rfl : k = ls.length := by omega
          have hbig : ¬ (262144 : Int) < (V.docSz ls ls.length : Int) := by omega
          have HLEN : Hid (∀ k, k ≤ ls.length → (V.docTo ls k).length = V.docSz ls k) := Lib.hid (V.docTo_len (fun l hl => (HD.out.line l hl).1))
          obtain ⟨q, hq⟩ : ∃ q, q = V.docSz ls ls.length := ⟨_, rfl⟩
          rw [← hq] at hbig hmax ⊢
          have HQ := Lib.hid hq
          clear hlt hk htot hq
          go_wp2_with (first | (refine wl_room rfl _ rfl w.heap.size q w (Below.refl _ _) (Nat.le_refl _) rfl (by omega) ?_; intro w1 hb1) | fail)
          have HB1 := Lib.hid hb1
          clear hb1 hbig
          go_loopw [12, 57] (fun ov iv wx => ∃ k : Nat, k ≤ ls.length ∧ iv = .int .i64 k ∧ Buf w.heap.size ov (V.docTo ls k) w wx) (fun _ iv _ => ls.length - (intOf iv).toNat)
          case atStart => exact ⟨0, Nat.zero_le _, rfl, HB1.out⟩
          case round =>
            obtain ⟨k, hk, rfl, hbuf⟩ := hrel
            have HB := Lib.hid hbuf
            obtain ⟨oa, oc, rfl⟩ := hbuf.slice
            clear hbuf HB1
            by_cases hlt : k < ls.length
            · have HST := Lib.hid (V.docTo_step hlt)
              have hlen1 : (V.docTo ls k).length + (V.line ls[k]).length ≤ 262144 := by
                have h1 := HLEN.out (k + 1) (by omega)
                have h2 := V.docSz_le (ls := ls) (j := k + 1) (by omega) (Nat.le_refl ls.length)
                rw [HST.out, List.length_append] at h1
                have := HQ.out
                omega
              obtain ⟨b, off, u, rfl, hb0, hc0, hs⟩ := HA.out k hlt
              have hc := (HB.out.2.1.cell (p := ⟨b, off + k, none⟩) hb0).trans hc0
              have HS := Lib.hid hs
              obtain ⟨ua, uc, rfl, _⟩ := hs
              clear hb0 hc0
              have HX := Lib.hid (HD.out.line _ (List.getElem_mem hlt))
              have hi1 : (0 : Int) ≤ (k : Int) := by omega
              have hi2 : (k : Int) < (ls.length : Int) := by omega
              have HLN : Hid (V.line ls[k] = V.lineTo ls[k] ls[k].length ++ [10]) := Lib.hid rfl
              have hll : (V.line ls[k]).length = (V.lineTo ls[k] ls[k].length).length + 1 := by unfold V.line; simp
              obtain ⟨A, hA⟩ : ∃ A, A = V.docTo ls k := ⟨_, rfl⟩
              rw [← hA] at HST hlen1 HB ⊢
              generalize ls[k] = l at *
              clear hA
              go_wp2
              go_loopw [12, 63] (fun ov iv wx => ∃ j : Nat, j ≤ l.length ∧ iv = .int .i64 j ∧ Buf w.heap.size ov (A ++ V.lineTo l j) w wx) (fun _ iv _ => l.length - (intOf iv).toNat)
              case atStart => exact ⟨0, Nat.zero_le _, rfl, by rw [show V.lineTo l 0 = [] from rfl, List.append_nil]; exact HB.out⟩
              case round =>
                obtain ⟨j, hj, rfl, hbuf⟩ := hrel
                have HB2 := Lib.hid hbuf
                obtain ⟨oa2, oc2, rfl⟩ := hbuf.slice
                clear hbuf HB hc
                by_cases hjl : j < l.length
                · obtain ⟨ua2, uc2, e2, hat2⟩ := HS.out
                  cases e2
                  obtain ⟨b2, off2, rfl, hb2, hc0⟩ := hat2 j hjl
                  have hc2 := (HB2.out.2.1.cell (p := ⟨b2, off2 + j, none⟩) hb2).trans hc0
                  have hx := HX.out.2.2 _ (List.getElem_mem hjl)
                  have hl120 := HX.out.2.1
                  have hj1 : (0 : Int) ≤ (j : Int) := by omega
                  have hj2 : (j : Int) < (l.length : Int) := by omega
                  have HT2 := Lib.hid (V.lineTo_step l j)
                  have hg : l.getD j [] = l[j] := by rw [List.getD_eq_getElem?_getD, List.getElem?_eq_getElem hjl]; rfl
                  rw [hg] at HT2
                  have hlen2 : A.length + (V.lineTo l j).length ≤ 270000 := by
                    have h1 := (V.lineTo_len (l := l) j hj).1
                    have h2 := V.lineSz_le (l := l) hj (Nat.le_refl l.length)
                    have h3 := V.line_len (l := l) HX.out.1
                    omega
                  obtain ⟨M, hM⟩ : ∃ M, M = A ++ V.lineTo l j := ⟨_, rfl⟩
                  have HM := Lib.hid hM
                  have hml : M.length ≤ 270000 := by rw [hM, List.length_append]; exact hlen2
                  rw [← hM] at HB2 ⊢
                  generalize l[j] = x at *
                  clear hat2 hc0 hM hg hlen2 hb2
                  by_cases hj0 : j = 0
                  · subst hj0
                    rw [Nat.add_zero] at hc2
                    go_wp2_with fail
                    refine (docWord_bs x wr (by omega)).mono ?_
                    rintro e w3 ⟨rfl, hb3⟩
                    have HB3 := Lib.hid (HB2.out.below hb3)
                    have hwl := V.word_len x
                    have hwl2 := V.sizeW_le x
                    clear hb3 HB2
                    go_wp2_with (first | (refine wl_text rfl _ _ rfl w.heap.size (.slice oa2 M.length oc2) M w rfl HB3.out (V.word x) rfl (by omega) ?_; intro v9 w9 hb9) | fail)
                    have HB9 := Lib.hid hb9
                    clear hb9 hwl hwl2
                    go_wp2
                    go_roundw
                    case rel => exact ⟨0 + 1, by omega, by go_num, by
                      have := HB9.out
                      rw [HM.out, List.append_assoc] at this
                      rw [HT2.out]
                      exact this⟩
                    case measure => simp [intOf]; omega
                  · have hjp : (0 : Int) < (j : Int) := by omega
                    have hb4 : Below wr.heap.size wr (wr.alloc (.cells #[.int .u8 32] 5)) := (Below.refl _ wr).alloc (Nat.le_refl _) _
                    have HB4 := Lib.hid (HB2.out.below hb4)
                    have HBN := Lib.hid (bytes_new [32] wr)
                    clear hb4
                    go_wp2_with (first | (refine wl_bytes rfl _ _ rfl w.heap.size (.slice oa2 M.length oc2) M w rfl HB4.out wr.heap.size 1 [32] rfl HBN.out (by simp; omega) ?_; intro v5 w5 hb5) | fail)
                    replace HB2 := Lib.hid hb5
                    clear hb5 HB4 HBN hc2
                    refine (docWord_bs x w5 (by omega)).mono ?_
                    rintro e w3 ⟨rfl, hb3⟩
                    have HB3 := Lib.hid (HB2.out.below hb3)
                    have hwl := V.word_len x
                    have hwl2 := V.sizeW_le x
                    clear hb3 HB2
                    go_wp2_with (first | (refine wl_text rfl _ _ rfl w.heap.size v5 (M ++ [32]) w rfl HB3.out (V.word x) rfl (by simp; omega) ?_; intro v9 w9 hb9) | fail)
                    have HB9 := Lib.hid hb9
                    clear hb9 hwl hwl2
                    go_wp2
                    go_roundw
                    case rel => exact ⟨j + 1, by omega, by go_num, by
                      have := HB9.out
                      rw [HM.out, List.append_assoc, List.append_assoc] at this
                      rw [HT2.out, if_neg hj0]
                      exact this⟩
                    case measure => simp [intOf]; omega
                · obtain rfl : j = l.length := by omega
                  have hlen3 : (A ++ V.lineTo l l.length).length ≤ 270000 := by rw [List.length_append]; omega
                  have hA10 : A ++ V.line l = (A ++ V.lineTo l l.length) ++ [10] := by rw [HLN.out, List.append_assoc]
                  rw [hA10] at HST
                  obtain ⟨M, hM⟩ : ∃ M, M = A ++ V.lineTo l l.length := ⟨_, rfl⟩
                  rw [← hM] at HB2 HST hlen3 ⊢
                  have hb4 : Below wr.heap.size wr (wr.alloc (.cells #[.int .u8 10] 5)) := (Below.refl _ wr).alloc (Nat.le_refl _) _
                  have HB4 := Lib.hid (HB2.out.below hb4)
                  have HBN := Lib.hid (bytes_new [10] wr)
                  clear hb4 hA10 hM HB2
                  go_wp2_with (first | (refine wl_bytes rfl _ _ rfl w.heap.size (.slice oa2 M.length oc2) M w rfl HB4.out wr.heap.size 1 [10] rfl HBN.out (by simp; omega) ?_; intro v5 w5 hb5) | fail)
                  have HB5 := Lib.hid hb5
                  clear hb5 HB4 HBN
                  go_wp2
                  go_roundw
                  case rel => exact ⟨k + 1, by omega, by go_num, by rw [HST.out]; exact HB5.out⟩
                  case measure => simp [intOf]; omega
            · obtain rfl : k = ls.length := by omega
              rw [V.docTo_all] at HB ⊢
              go_wp2
              go_ret2
              exact ⟨_, rfl, HB.out⟩
end Go.Proofs.YtnhfaincdabdkaaGreatDoor
namespace Go.Proofs.YtnhfaincdabdkaaGreatDoor
open Go.RowKit

section
variable {α : Type} {enc : α → List Value} {k : Nat}
theorem gflat_at (hk : ∀ x, (enc x).length = k) : ∀ {l : List α} (j : Nat) (h : j < l.length) (i : Nat), i < k → (l.flatMap enc)[j * k + i]? = (enc l[j])[i]?
  | [], j, h, _, _ => by simp at h
  | c :: l, 0, _, i, hi => by
    rw [List.flatMap_cons, List.getElem?_append_left (by rw [hk]; omega)]
    simp
  | c :: l, j + 1, h, i, hi => by
    have hl := hk c
    have e : (j + 1) * k = j * k + k := Nat.succ_mul j k
    rw [List.flatMap_cons, List.getElem?_append_right (by rw [hl]; omega), hl, show (j + 1) * k + i - k = j * k + i by omega]
    rw [gflat_at hk j (by simpa using h) i hi]
    simp
theorem gflat_len (hk : ∀ x, (enc x).length = k) : ∀ (l : List α), (l.flatMap enc).length = l.length * k
  | [] => by simp
  | c :: l => by
    have e : (l.length + 1) * k = l.length * k + k := Nat.succ_mul _ k
    rw [List.flatMap_cons, List.length_append, hk, gflat_len hk l, List.length_cons]
    omega
/-- a row of one's own of elements of k cells each -/
def GRow (T : TypeId) (k : Nat) (enc : α → List Value) (w : World) (N : Nat) (v : Value) (l : List α) : Prop := w.ownsRow N T k v l.length (l.flatMap enc)
variable {T : TypeId}
theorem GRow.nil (w : World) (N : Nat) : GRow T k enc w N (.slice none 0 0) [] := ⟨by simp, .inl ⟨rfl, rfl⟩⟩
theorem GRow.slice {w : World} {N : Nat} {v : Value} {l : List α} (h : GRow T k enc w N v l) : ∃ a cap, v = .slice a l.length cap := by
  rcases h.2 with ⟨rfl, hn⟩ | ⟨g, cap, cur, rfl, _⟩
  · exact ⟨none, 0, by rw [hn]⟩
  · exact ⟨_, cap, rfl⟩
theorem gcell_row {w : World} {g i : Nat} {cur : Array Value} {fr : Nat × Nat} (hg : w.heap[g]? = some (.cells cur T fr)) : w.cell? ⟨g, i, none⟩ = cur[i]? := by
  unfold World.cell?
  rw [hg]
  rfl
theorem GRow.at (hk : ∀ x, (enc x).length = k) {w : World} {N : Nat} {v : Value} {l : List α} (h : GRow T k enc w N v l) (j : Nat) (hj : j < l.length) :
    ∃ g cap, v = .slice (some ⟨g, 0, none⟩) l.length cap ∧ N ≤ g ∧ g < w.heap.size ∧ ∀ i u, (enc l[j])[i]? = some u → w.cell? ⟨g, j * k + i, none⟩ = some u := by
  rcases h.2 with ⟨rfl, hn⟩ | ⟨g, cap, cur, rfl, hb, hg, hnc, hm, hsz, htk⟩
  · omega
  · refine ⟨g, cap, rfl, hb, (Array.getElem?_eq_some_iff.1 hg).1, fun i u hu => ?_⟩
    have hi : i < k := by
      have := (List.getElem?_eq_some_iff.1 hu).1
      rwa [hk] at this
    rw [gcell_row hg]
    have h1 := gflat_at hk j hj i hi
    rw [hu, ← htk, List.getElem?_take] at h1
    split at h1
    · simpa using h1
    · cases h1
theorem GRow.kept {w w' : World} {N : Nat} {v : Value} {l : List α} (h : GRow T k enc w N v l) {row : Option Nat} (hg : w.grownBy w' row) (hr : ∀ b, row = some b → b < N) : GRow T k enc w' N v l := by
  refine ⟨h.1, ?_⟩
  rcases h.2 with h | ⟨g, cap, cur, rfl, hb, hgg, rest⟩
  · exact .inl h
  · refine .inr ⟨g, cap, cur, rfl, hb, ?_, rest⟩
    rw [hg.block g (Array.getElem?_eq_some_iff.1 hgg).1 (fun e => by have := hr g e.symm; omega)]
    exact hgg
theorem GRow.below {w w' : World} {N : Nat} {v : Value} {l : List α} (h : GRow T k enc w N v l) (hb : Below w.heap.size w w') : GRow T k enc w' N v l :=
  h.kept (row := none) ⟨hb.os, hb.tape, hb.output, hb.size, fun k hk _ => hb.block k hk⟩ (fun b e => by cases e)
theorem GRow.setCell {w : World} {N : Nat} {v : Value} {l : List α} (h : GRow T k enc w N v l) {b o : Nat} (hb : b < N) (u : Value) : GRow T k enc (w.setCell ⟨b, o, none⟩ u) N v l :=
  h.kept (row := some b) ⟨rfl, rfl, rfl, by simp [World.setCell], fun k _ hk => Below.heap_setCell _ _ _ _ (fun e => hk (by rw [e]))⟩ (fun c e => by cases e; exact hb)
theorem GRow.block {w : World} {N : Nat} {v : Value} {l : List α} (h : GRow T k enc w N v l) : ∀ b, v.ownBlock = some b → N ≤ b := by
  intro b hb
  rcases h.2 with ⟨rfl, _⟩ | ⟨g, cap, cur, rfl, hbb, _⟩
  · cases hb
  · simp [Value.ownBlock] at hb; omega
/-- what lies below the rows -/
theorem grown_below2 {w w' : World} {N B : Nat} {v : Value} (h : w.grownBy w' v.ownBlock) (hv : ∀ b, v.ownBlock = some b → N ≤ b) (hBN : B ≤ N) (hB : N ≤ w.heap.size) : Below B w w' :=
  ⟨h.os, h.tape, h.output, h.size, fun k hk => h.block k (by omega) (fun e => by have := hv k e.symm; omega)⟩
/-- a cell that does not lie in the row -/
theorem grown_cell {w w' : World} {v : Value} (h : w.grownBy w' v.ownBlock) {N b o : Nat} {u : Value} (hv : ∀ b, v.ownBlock = some b → N ≤ b) (hb : b < N) (hc : w.cell? ⟨b, o, none⟩ = some u) : w'.cell? ⟨b, o, none⟩ = some u :=
  h.cell hc (fun e => by have := hv _ e.symm; simp at this; omega)

theorem GRow.lt {w : World} {N : Nat} {v : Value} {l : List α} (h : GRow T k enc w N v l) : ∀ b, v.ownBlock = some b → b < w.heap.size := fun b hb => (World.ownsRow.lt h b hb).2
/-- a cell of a later block -/
theorem grown_keep {w w' : World} {v : Value} (h : w.grownBy w' v.ownBlock) {b o : Nat} {u : Value} (hv : ∀ c, v.ownBlock = some c → c < b) (hc : w.cell? ⟨b, o, none⟩ = some u) : w'.cell? ⟨b, o, none⟩ = some u :=
  h.cell hc (fun e => by have := hv _ e.symm; simp at this)

/-- a block below the rows -/
theorem grown_block {w w' : World} {v : Value} (h : w.grownBy w' v.ownBlock) {N i : Nat} {o : Obj} (hv : ∀ b, v.ownBlock = some b → N ≤ b) (hi : i < N) (ho : w.heap[i]? = some o) : w'.heap[i]? = some o :=
  (h.block i (Array.getElem?_eq_some_iff.1 ho).1 (fun e => by have := hv _ e.symm; omega)).trans ho

/-- what the table of types says of an element -/
def GInfo (T : TypeId) (k bytes : Nat) : Prop := ∃ i z, Tryz.prog.info? T = some i ∧ i.zero = some z ∧ i.size = k ∧ i.bytes = bytes ∧ z.cells.size = k
/-- at the operation: an element appended -/
theorem wl_appendG {ops : Array Oper} {rest : List Oper} {o : Oper} {a : Act} {w : World} {Q : Exit → Act → World → Prop} (hk : ∀ x, (enc x).length = k) (hk0 : 0 < k) (h1c : ∀ x, ∀ u ∈ enc x, u.oneCell' = true) {bytes : Nat} (hi : GInfo T k bytes) (hby : bytes ≤ 1000) (hgd : o.guard = none) (s x : Operand) (S : TypeId)
    (ho : o.op = .call { callee := .builtin .append, args := #[s, x], argTypes := #[S, S] }) (hu : Tryz.prog.underlying S = some (.slice T))
    (N : Nat) (v : Value) (l : List α) (hs : a.eval s = v) (hown : GRow T k enc w N v l) (b : Nat) (c : α) (hx : a.eval x = .slice (some ⟨b, 0, none⟩) 1 1) (hr : ∀ j u, (enc c)[j]? = some u → w.cell? ⟨b, j, none⟩ = some u) (hl : l.length ≤ 1000000) (hN : N ≤ w.heap.size)
    (h : ∀ v' w', GRow T k enc w' N v' (l ++ [c]) → w.grownBy w' v.ownBlock → wpList Tryz.prog ops Q rest (a.put o.dst v') w') : wpList Tryz.prog ops Q (o :: rest) a w := by
  obtain ⟨ie, z, hie, hz, h1, h2, h3⟩ := hi
  refine wpList_append_own w hgd s x S ho N T ie z k bytes hu hie hz h1 h2 h3 hk0 v l.length (l.flatMap enc) hs hown ⟨b, 0, none⟩ 1 1 (enc c) hx (by rw [hk]; omega) ?_ (h1c c) (by unfold maxLen; omega) ?_ hN ?_
  · intro j u hj
    rw [Addr.add_mid, Nat.zero_add]
    exact hr j u hj
  · have : (l.length + 1) * bytes ≤ 1000001 * 1000 := Nat.mul_le_mul (by omega) hby
    omega
  · intro v' w' ho' hg _
    refine h v' w' ?_ hg
    unfold GRow
    rw [List.length_append, List.flatMap_append]
    simpa using ho'
end
end Go.Proofs.YtnhfaincdabdkaaGreatDoor
