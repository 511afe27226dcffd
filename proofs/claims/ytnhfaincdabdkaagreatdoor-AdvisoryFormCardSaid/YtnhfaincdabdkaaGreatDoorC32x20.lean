/-
  Lemmas for the law.
-/
import Derived.Test.YtnhfaincdabdkaaGreatDoorC32x19
import Derived.Test.YtnhfaincdabdkaaGreatDoorC32x03
import Derived.Test.YtnhfaincdabdkaaGreatDoorC32x02
import Derived.Test.YtnhfaincdabdkaaGreatDoorC32x18
import Derived.Laws.AppendOwn
import Derived.OwnWalk
import Derived.Maps.AppendAt
import Derived.Deep.MidRow
import Derived.Laws.Rows
import Derived.Laws.Entries
import Derived.Lib.Builder
import Derived.Lib.ItoaNum
import Derived.Sort.Grow
set_option linter.all false
set_option maxRecDepth 100000
set_option maxHeartbeats 3200000
namespace Go.Proofs.YtnhfaincdabdkaaGreatDoor
open Go.RowKit
def Lines (w : World) (v : Value) (ls : List (List V.Bs)) : Prop :=
 ∃ a cap, v = .slice a ls.length cap /\ ∀ j (h : j < ls.length), ∃ b off u, a = some ⟨b, off, none⟩ /\ b < w.heap.size /\ w.cell? ⟨b, off + j, none⟩ = some u /\ Strs w u ls[j]
theorem zyu {P : Prop} (h : P := by
 exact ⟨b, off, ea, Nat.lt_of_lt_of_le hlt hb.size, (hb.cell (p := ⟨b, off + j, none⟩) hlt).trans hr⟩) : P := h
theorem vp {w w' : World} {v : Value} {l : List V.Bs} (h : Strs w v l) (hb : Below w.heap.size w w') : Strs w' v l := by
 obtain ⟨a, cap, e, hc⟩ := h
 refine ⟨a, cap, e, fun j hj => ?_⟩
 obtain ⟨b, off, ea, hlt, hr⟩ := hc j hj
 exact zyu
theorem Lines.below {w w' : World} {v : Value} {ls : List (List V.Bs)} (h : Lines w v ls) (hb : Below w.heap.size w w') : Lines w' v ls := by
 obtain ⟨a, cap, e, hc⟩ := h
 refine ⟨a, cap, e, fun j hj => ?_⟩
 obtain ⟨b, off, u, ea, hlt, hr, hs⟩ := hc j hj
 exact ⟨b, off, u, ea, Nat.lt_of_lt_of_le hlt hb.size, (hb.cell (p := ⟨b, off + j, none⟩) hlt).trans hr, vp hs hb⟩
theorem zad (x : V.Bs) : (ByteArray.mk x.toArray).data.toList = x := by simp
theorem zck (x : V.Bs) : (ByteArray.mk x.toArray).size = x.length := by simp [ByteArray.size]
theorem zi7 (x : V.Bs) (w : World) (hs : x.length ≤ 100000) : Calls Tryz.prog 106 #[.string ⟨x.toArray⟩] w fun e w' => e = .returned (.int .i64 (V.zae x : Nat)) /\ w' = w := by
 have := zhf ⟨x.toArray⟩ w (by rw [zck]; exact hs)
 rwa [zad] at this
theorem zjm (x : V.Bs) (w : World) (hs : x.length ≤ 100000) : Calls Tryz.prog 107 #[.string ⟨x.toArray⟩] w fun e w' => e = .returned (.string ⟨(V.word x).toArray⟩) /\ Below w.heap.size w w' := by
 have := zoy ⟨x.toArray⟩ w (by rw [zck]; exact hs)
 rwa [zad] at this
theorem zyy {P : Prop} (h : P := by
 go_wp2
 go_round
 case rel => exact ⟨k + 1, by omega, by go_num⟩
 case measure => simp [intOf]; omega) : P := h
theorem zol (v : Value) (l : List V.Bs) (w : World) (hv : Strs w v l) (h0 : 0 < l.length) (h1 : l.length ≤ 120) (hw : ∀ x ∈ l, x.length ≤ 32768) :
  Calls Tryz.prog 92 #[v] w fun e w' => e = .returned (.int .i64 0) /\ w' = w := by
 obtain ⟨va, vc, rfl, hat⟩ := hv
 have HA := zuq hat
 have HW := zuq hw
 clear hat hw
 have hn0 : ((l.length : Int) == 0) = false := by rw [zuu]; omega
 have hn1 : ¬ (120 : Int) < (l.length : Int) := by omega
 go_enter Tryz.func92, Tryz.ntmps92
 go_wp2
 go_loop [15] (fun iv => ∃ k : Nat, k ≤ l.length /\ iv = .int .i64 k) (fun iv => l.length - (intOf iv).toNat)
 case atStart => exact ⟨0, Nat.zero_le _, rfl⟩
 case round =>
  obtain ⟨k, hk, rfl⟩ := hrel
  by_cases hlt : k < l.length
  ·obtain ⟨b, off, rfl, hb, hc⟩ := HA.out k hlt
   have hx := HW.out _ (List.getElem_mem hlt)
   have hi1 : (0 : Int) ≤ (k : Int) := by omega
   have hi2 : (k : Int) < (l.length : Int) := by omega
   generalize l[k] = x at *
   have hxs := zck x
   have hx2 : ¬ (32768 : Int) < (x.length : Int) := by omega
   have hx3 : ¬ (32768 : Int) < ((ByteArray.mk x.toArray).size : Int) := by rw [hxs]; omega
   exact zyy
  ·obtain rfl : k = l.length := by omega
   go_wp2
   go_ret
   exact ⟨rfl, rfl⟩
theorem zu5 {P : Prop} (h : P := by
 obtain ⟨ua, uc, rfl, hus⟩ := hs
 have HU := zuq hus
 have hi1 : (0 : Int) ≤ (k : Int) := by omega
 have hi2 : (k : Int) < (ls.length : Int) := by omega
 have HT := zuq (V.za7 hlt)
 have hnext := V.zdl (j := k + 1) (by omega) (zus ls.length)
 rw [HT.out] at hnext
 obtain ⟨q, hq⟩ : ∃ q, q = V.ku ls k := ⟨_, rfl⟩
 rw [← hq] at HT htot hnext ⊢
 generalize ls[k] = l at *
 clear hus hq
 go_wp2
 go_loop [7, 40] (fun tv iv => ∃ j : Nat, j ≤ l.length /\ iv = .int .i64 j /\ tv = .int .i64 ((q + V.kf l j : Nat) : Int)) (fun _ iv => l.length - (intOf iv).toNat)
 case atStart => exact ⟨0, Nat.zero_le _, rfl, rfl⟩
 case round =>
  obtain ⟨j, hj, rfl, rfl⟩ := hrel
  have hle := V.zb6 (l := l) hj (zus l.length)
  by_cases hjl : j < l.length
  ·obtain ⟨b2, off2, rfl, hb2, hc2⟩ := HU.out j hjl
   have hx := HX.out.2.2 _ (List.getElem_mem hjl)
   have hl120 := HX.out.2.1
   have HT2 := zuq (V.zbj hjl)
   have hle2 := V.zb6 (l := l) (j := j + 1) (by omega) (zus l.length)
   rw [HT2.out] at hle2
   have hj1 : (0 : Int) ≤ (j : Int) := by omega
   have hj2 : (j : Int) < (l.length : Int) := by omega
   generalize l[j] = x at *
   obtain ⟨r, hr⟩ : ∃ r, r = V.kf l j := ⟨_, rfl⟩
   rw [← hr] at HT2 hle hle2 ⊢
   obtain ⟨z, hz⟩ : ∃ z, z = V.zae x := ⟨_, rfl⟩
   rw [← hz] at HT2 hle2
   have HZ := zuq hz
   clear hr hz
   go_wp2_with fail
   refine (zi7 x w (by omega)).mono ?_
   rintro e w' ⟨rfl, rfl⟩
   rw [← HZ.out]
   go_wp2
   go_round
   case rel => exact ⟨j + 1, by omega, by go_num, by rw [HT2.out]; go_num⟩
   case measure => simp [intOf]; omega
  ·obtain rfl : j = l.length := by omega
   go_wp2
   go_round
   case rel => exact ⟨k + 1, by omega, by go_num, by rw [HT.out]⟩
   case measure => simp [intOf]; omega) : P := h
theorem zlf (v : Value) (ls : List (List V.Bs)) (w : World) (hv : Lines w v ls) (hd : V.DocOk ls) :
  Calls Tryz.prog 60 #[v] w fun e w' => ∃ u, e = .returned (.tuple #[u, .int .i64 0]) /\ Buf w.heap.size u (V.doc ls) w w' := by
 have HL := zuq hv
 obtain ⟨va, vc, rfl, hat⟩ := hv
 have HA := zuq hat
 have HD := zuq hd
 have hn := hd.lines
 have hn1 : ¬ (1000 : Int) < (ls.length : Int) := by omega
 clear hat hd
 go_enter Tryz.func60, Tryz.ntmps60
 go_wp2
 go_loop [22] (fun iv => ∃ k : Nat, k ≤ ls.length /\ iv = .int .i64 k) (fun iv => ls.length - (intOf iv).toNat)
 case atStart => exact ⟨0, Nat.zero_le _, rfl⟩
 case round =>
  obtain ⟨k, hk, rfl⟩ := hrel
  by_cases hlt : k < ls.length
  ·obtain ⟨b, off, u, rfl, hb, hc, hs⟩ := HA.out k hlt
   have HX := zuq (HD.out.line _ (List.getElem_mem hlt))
   have HS := zuq hs
   have hi1 : (0 : Int) ≤ (k : Int) := by omega
   have hi2 : (k : Int) < (ls.length : Int) := by omega
   generalize ls[k] = l at *
   clear hs
   go_wp2_with fail
   refine (zol u l w HS.out HX.out.1 HX.out.2.1 HX.out.2.2).mono ?_
   rintro e w' ⟨rfl, rfl⟩
   exact zyy
  ·obtain rfl : k = ls.length := by omega
   go_wp2
   go_loop [7, 34] (fun tv iv => ∃ k : Nat, k ≤ ls.length /\ iv = .int .i64 k /\ tv = .int .i64 (V.ku ls k : Nat)) (fun _ iv => ls.length - (intOf iv).toNat)
   case atStart => exact ⟨0, Nat.zero_le _, rfl, rfl⟩
   case round =>
    obtain ⟨k, hk, rfl, rfl⟩ := hrel
    have htot := V.zdl (j := k) hk (zus ls.length)
    have hmax := HD.out.size
    by_cases hlt : k < ls.length
    ·obtain ⟨b, off, u, rfl, hb, hc, hs⟩ := HA.out k hlt
     have HX := zuq (HD.out.line _ (List.getElem_mem hlt))
     exact zu5
    ·obtain rfl : k = ls.length := by omega
     have hbig : ¬ (262144 : Int) < (V.ku ls ls.length : Int) := by omega
     have HLEN : Hid (∀ k, k ≤ ls.length -> (V.ze0 ls k).length = V.ku ls k) := zuq (V.zec (fun l hl => (HD.out.line l hl).1))
     obtain ⟨q, hq⟩ : ∃ q, q = V.ku ls ls.length := ⟨_, rfl⟩
     rw [← hq] at hbig hmax ⊢
     have HQ := zuq hq
     clear hlt hk htot hq
     go_wp2_with (first | (refine zs5 rfl _ rfl w.heap.size q w (zut _ _) (zus _) rfl (by omega) ?_; intro w1 hb1) | fail)
     have HB1 := zuq hb1
     clear hb1 hbig
     go_loopw [12, 57] (fun ov iv wx => ∃ k : Nat, k ≤ ls.length /\ iv = .int .i64 k /\ Buf w.heap.size ov (V.ze0 ls k) w wx) (fun _ iv _ => ls.length - (intOf iv).toNat)
     case atStart => exact ⟨0, Nat.zero_le _, rfl, HB1.out⟩
     case round =>
      obtain ⟨k, hk, rfl, hbuf⟩ := hrel
      have HB := zuq hbuf
      obtain ⟨oa, oc, rfl⟩ := hbuf.slice
      clear hbuf HB1
      by_cases hlt : k < ls.length
      ·have HST := zuq (V.zj2 hlt)
       have hlen1 : (V.ze0 ls k).length + (V.line ls[k]).length ≤ 262144 := by
        have h1 := HLEN.out (k + 1) (by omega)
        have h2 := V.zdl (ls := ls) (j := k + 1) (by omega) (zus ls.length)
        rw [HST.out, List.length_append] at h1
        have := HQ.out
        omega
       obtain ⟨b, off, u, rfl, hb0, hc0, hs⟩ := HA.out k hlt
       have hc := (HB.out.2.1.cell (p := ⟨b, off + k, none⟩) hb0).trans hc0
       have HS := zuq hs
       obtain ⟨ua, uc, rfl, _⟩ := hs
       clear hb0 hc0
       have HX := zuq (HD.out.line _ (List.getElem_mem hlt))
       have hi1 : (0 : Int) ≤ (k : Int) := by omega
       have hi2 : (k : Int) < (ls.length : Int) := by omega
       have HLN : Hid (V.line ls[k] = V.kz ls[k] ls[k].length ++ [10]) := zuq rfl
       have hll : (V.line ls[k]).length = (V.kz ls[k] ls[k].length).length + 1 := by unfold V.line; simp
       obtain ⟨A, hA⟩ : ∃ A, A = V.ze0 ls k := ⟨_, rfl⟩
       rw [← hA] at HST hlen1 HB ⊢
       generalize ls[k] = l at *
       clear hA
       go_wp2
       go_loopw [12, 63] (fun ov iv wx => ∃ j : Nat, j ≤ l.length /\ iv = .int .i64 j /\ Buf w.heap.size ov (A ++ V.kz l j) w wx) (fun _ iv _ => l.length - (intOf iv).toNat)
       case atStart => exact ⟨0, Nat.zero_le _, rfl, by rw [show V.kz l 0 = [] from rfl, List.append_nil]; exact HB.out⟩
       case round =>
        obtain ⟨j, hj, rfl, hbuf⟩ := hrel
        have HB2 := zuq hbuf
        obtain ⟨oa2, oc2, rfl⟩ := hbuf.slice
        clear hbuf HB hc
        by_cases hjl : j < l.length
        ·obtain ⟨ua2, uc2, e2, hat2⟩ := HS.out
         cases e2
         obtain ⟨b2, off2, rfl, hb2, hc0⟩ := hat2 j hjl
         have hc2 := (HB2.out.2.1.cell (p := ⟨b2, off2 + j, none⟩) hb2).trans hc0
         have hx := HX.out.2.2 _ (List.getElem_mem hjl)
         have hl120 := HX.out.2.1
         have hj1 : (0 : Int) ≤ (j : Int) := by omega
         have hj2 : (j : Int) < (l.length : Int) := by omega
         have HT2 := zuq (V.zbh l j)
         have hg : l.getD j [] = l[j] := by rw [List.getD_eq_getElem?_getD, List.getElem?_eq_getElem hjl]; rfl
         rw [hg] at HT2
         have hlen2 : A.length + (V.kz l j).length ≤ 270000 := by
          have h1 := (V.ze6 (l := l) j hj).1
          have h2 := V.zb6 (l := l) hj (zus l.length)
          have h3 := V.zpv (l := l) HX.out.1
          omega
         obtain ⟨M, hM⟩ : ∃ M, M = A ++ V.kz l j := ⟨_, rfl⟩
         have HM := zuq hM
         have hml : M.length ≤ 270000 := by rw [hM, List.length_append]; exact hlen2
         rw [← hM] at HB2 ⊢
         generalize l[j] = x at *
         clear hat2 hc0 hM hg hlen2 hb2
         by_cases hj0 : j = 0
         ·subst hj0
          rw [Nat.add_zero] at hc2
          go_wp2_with fail
          refine (zjm x wr (by omega)).mono ?_
          rintro e w3 ⟨rfl, hb3⟩
          have HB3 := zuq (HB2.out.below hb3)
          have hwl := V.zbt x
          have hwl2 := V.wn x
          clear hb3 HB2
          go_wp2_with (first | (refine zsi rfl _ _ rfl w.heap.size (.slice oa2 M.length oc2) M w rfl HB3.out (V.word x) rfl (by omega) ?_; intro v9 w9 hb9) | fail)
          have HB9 := zuq hb9
          clear hb9 hwl hwl2
          go_wp2
          go_roundw
          case rel => exact ⟨0 + 1, by omega, by go_num, by
            have := HB9.out
            rw [HM.out, List.append_assoc] at this
            rw [HT2.out]
            exact this⟩
          case measure => simp [intOf]; omega
         ·have hjp : (0 : Int) < (j : Int) := by omega
          have hb4 : Below wr.heap.size wr (wr.alloc (.cells #[.int .u8 32] 5)) := (zut _ wr).alloc (zus _) _
          have HB4 := zuq (HB2.out.below hb4)
          have HBN := zuq (za0 [32] wr)
          clear hb4
          go_wp2_with (first | (refine zdi rfl _ _ rfl w.heap.size (.slice oa2 M.length oc2) M w rfl HB4.out wr.heap.size 1 [32] rfl HBN.out (by simp; omega) ?_; intro v5 w5 hb5) | fail)
          replace HB2 := zuq hb5
          clear hb5 HB4 HBN hc2
          refine (zjm x w5 (by omega)).mono ?_
          rintro e w3 ⟨rfl, hb3⟩
          have HB3 := zuq (HB2.out.below hb3)
          have hwl := V.zbt x
          have hwl2 := V.wn x
          clear hb3 HB2
          go_wp2_with (first | (refine zsi rfl _ _ rfl w.heap.size v5 (M ++ [32]) w rfl HB3.out (V.word x) rfl (by simp; omega) ?_; intro v9 w9 hb9) | fail)
          have HB9 := zuq hb9
          clear hb9 hwl hwl2
          go_wp2
          go_roundw
          case rel => exact ⟨j + 1, by omega, by go_num, by
            have := HB9.out
            rw [HM.out, List.append_assoc, List.append_assoc] at this
            rw [HT2.out, if_neg hj0]
            exact this⟩
          case measure => simp [intOf]; omega
        ·obtain rfl : j = l.length := by omega
         have hlen3 : (A ++ V.kz l l.length).length ≤ 270000 := by rw [List.length_append]; omega
         have hA10 : A ++ V.line l = (A ++ V.kz l l.length) ++ [10] := by rw [HLN.out, List.append_assoc]
         rw [hA10] at HST
         obtain ⟨M, hM⟩ : ∃ M, M = A ++ V.kz l l.length := ⟨_, rfl⟩
         rw [← hM] at HB2 HST hlen3 ⊢
         have hb4 : Below wr.heap.size wr (wr.alloc (.cells #[.int .u8 10] 5)) := (zut _ wr).alloc (zus _) _
         have HB4 := zuq (HB2.out.below hb4)
         have HBN := zuq (za0 [10] wr)
         clear hb4 hA10 hM HB2
         go_wp2_with (first | (refine zdi rfl _ _ rfl w.heap.size (.slice oa2 M.length oc2) M w rfl HB4.out wr.heap.size 1 [10] rfl HBN.out (by simp; omega) ?_; intro v5 w5 hb5) | fail)
         have HB5 := zuq hb5
         clear hb5 HB4 HBN
         go_wp2
         go_roundw
         case rel => exact ⟨k + 1, by omega, by go_num, by rw [HST.out]; exact HB5.out⟩
         case measure => simp [intOf]; omega
      ·obtain rfl : k = ls.length := by omega
       rw [V.zgz] at HB ⊢
       go_wp2
       go_ret2
       exact ⟨_, rfl, HB.out⟩
section
variable {α : Type} {enc : α -> List Value} {k : Nat}
theorem zfl (hk : ∀ x, (enc x).length = k) : ∀ {l : List α} (j : Nat) (h : j < l.length) (i : Nat), i < k -> (l.flatMap enc)[j * k + i]? = (enc l[j])[i]?
 | [], j, h, _, _ => by simp at h
 | c :: l, 0, _, i, hi => by
  rw [List.flatMap_cons, List.getElem?_append_left (by rw [hk]; omega)]
  simp
 | c :: l, j + 1, h, i, hi => by
  have hl := hk c
  have e : (j + 1) * k = j * k + k := Nat.succ_mul j k
  rw [List.flatMap_cons, List.getElem?_append_right (by rw [hl]; omega), hl, show (j + 1) * k + i - k = j * k + i by omega]
  rw [zfl hk j (by simpa using h) i hi]
  simp
theorem zb9 (hk : ∀ x, (enc x).length = k) : ∀ (l : List α), (l.flatMap enc).length = l.length * k
 | [] => by simp
 | c :: l => by
  have e : (l.length + 1) * k = l.length * k + k := Nat.succ_mul _ k
  rw [List.flatMap_cons, List.length_append, hk, zb9 hk l, List.length_cons]
  omega
def GRow (T : TypeId) (k : Nat) (enc : α -> List Value) (w : World) (N : Nat) (v : Value) (l : List α) : Prop := w.ownsRow N T k v l.length (l.flatMap enc)
variable {T : TypeId}
theorem GRow.nil (w : World) (N : Nat) : GRow T k enc w N (.slice none 0 0) [] := ⟨by simp, .inl ⟨rfl, rfl⟩⟩
theorem GRow.slice {w : World} {N : Nat} {v : Value} {l : List α} (h : GRow T k enc w N v l) : ∃ a cap, v = .slice a l.length cap := by
 rcases h.2 with ⟨rfl, hn⟩ | ⟨g, cap, cur, rfl, _⟩
 ·exact ⟨none, 0, by rw [hn]⟩
 ·exact ⟨_, cap, rfl⟩
theorem zby {w : World} {g i : Nat} {cur : Array Value} {fr : Nat × Nat} (hg : w.heap[g]? = some (.cells cur T fr)) : w.cell? ⟨g, i, none⟩ = cur[i]? := by
 unfold World.cell?
 rw [hg]
 rfl
theorem GRow.at (hk : ∀ x, (enc x).length = k) {w : World} {N : Nat} {v : Value} {l : List α} (h : GRow T k enc w N v l) (j : Nat) (hj : j < l.length) :
  ∃ g cap, v = .slice (some ⟨g, 0, none⟩) l.length cap /\ N ≤ g /\ g < w.heap.size /\ ∀ i u, (enc l[j])[i]? = some u -> w.cell? ⟨g, j * k + i, none⟩ = some u := by
 rcases h.2 with ⟨rfl, hn⟩ | ⟨g, cap, cur, rfl, hb, hg, hnc, hm, hsz, htk⟩
 ·omega
 ·refine ⟨g, cap, rfl, hb, (Array.getElem?_eq_some_iff.1 hg).1, fun i u hu => ?_⟩
  have hi : i < k := by
   have := (List.getElem?_eq_some_iff.1 hu).1
   rwa [hk] at this
  rw [zby hg]
  have h1 := zfl hk j hj i hi
  rw [hu, ← htk, List.getElem?_take] at h1
  split at h1
  ·simpa using h1
  ·cases h1
theorem GRow.kept {w w' : World} {N : Nat} {v : Value} {l : List α} (h : GRow T k enc w N v l) {row : Option Nat} (hg : w.grownBy w' row) (hr : ∀ b, row = some b -> b < N) : GRow T k enc w' N v l := by
 refine ⟨h.1, ?_⟩
 rcases h.2 with h | ⟨g, cap, cur, rfl, hb, hgg, rest⟩
 ·exact .inl h
 ·refine .inr ⟨g, cap, cur, rfl, hb, ?_, rest⟩
  rw [hg.block g (Array.getElem?_eq_some_iff.1 hgg).1 (fun e => by have := hr g e.symm; omega)]
  exact hgg
theorem GRow.below {w w' : World} {N : Nat} {v : Value} {l : List α} (h : GRow T k enc w N v l) (hb : Below w.heap.size w w') : GRow T k enc w' N v l :=
 h.kept (row := none) ⟨hb.os, hb.tape, hb.output, hb.size, fun k hk _ => hb.block k hk⟩ (fun b e => by cases e)
theorem GRow.block {w : World} {N : Nat} {v : Value} {l : List α} (h : GRow T k enc w N v l) : ∀ b, v.ownBlock = some b -> N ≤ b := by
 intro b hb
 rcases h.2 with ⟨rfl, _⟩ | ⟨g, cap, cur, rfl, hbb, _⟩
 ·cases hb
 ·simp [Value.ownBlock] at hb; omega
theorem zl {w w' : World} {N B : Nat} {v : Value} (h : w.grownBy w' v.ownBlock) (hv : ∀ b, v.ownBlock = some b -> N ≤ b) (hBN : B ≤ N) (hB : N ≤ w.heap.size) : Below B w w' :=
 ⟨h.os, h.tape, h.output, h.size, fun k hk => h.block k (by omega) (fun e => by have := hv k e.symm; omega)⟩
theorem zj {w w' : World} {v : Value} (h : w.grownBy w' v.ownBlock) {N b o : Nat} {u : Value} (hv : ∀ b, v.ownBlock = some b -> N ≤ b) (hb : b < N) (hc : w.cell? ⟨b, o, none⟩ = some u) : w'.cell? ⟨b, o, none⟩ = some u :=
 h.cell hc (fun e => by have := hv _ e.symm; simp at this; omega)
theorem GRow.lt {w : World} {N : Nat} {v : Value} {l : List α} (h : GRow T k enc w N v l) : ∀ b, v.ownBlock = some b -> b < w.heap.size := fun b hb => (World.ownsRow.lt h b hb).2
theorem xy {w w' : World} {v : Value} (h : w.grownBy w' v.ownBlock) {b o : Nat} {u : Value} (hv : ∀ c, v.ownBlock = some c -> c < b) (hc : w.cell? ⟨b, o, none⟩ = some u) : w'.cell? ⟨b, o, none⟩ = some u :=
 h.cell hc (fun e => by have := hv _ e.symm; simp at this)
theorem kl {w w' : World} {v : Value} (h : w.grownBy w' v.ownBlock) {N i : Nat} {o : Obj} (hv : ∀ b, v.ownBlock = some b -> N ≤ b) (hi : i < N) (ho : w.heap[i]? = some o) : w'.heap[i]? = some o :=
 (h.block i (Array.getElem?_eq_some_iff.1 ho).1 (fun e => by have := hv _ e.symm; omega)).trans ho
def xj (T : TypeId) (k bytes : Nat) : Prop := ∃ i z, Tryz.prog.info? T = some i /\ i.zero = some z /\ i.size = k /\ i.bytes = bytes /\ z.cells.size = k
theorem zyp {P : Prop} (h : P := by
 unfold GRow
 rw [List.length_append, List.flatMap_append]
 simpa using ho') : P := h
theorem zp {ops : Array Oper} {rest : List Oper} {o : Oper} {a : Act} {w : World} {Q : Exit -> Act -> World -> Prop} (hk : ∀ x, (enc x).length = k) (hk0 : 0 < k) (h1c : ∀ x, ∀ u ∈ enc x, u.oneCell' = true) {bytes : Nat} (hi : xj T k bytes) (hby : bytes ≤ 1000) (hgd : o.guard = none) (s x : Operand) (S : TypeId)
  (ho : o.op = .call { callee := .builtin .append, args := #[s, x], argTypes := #[S, S] }) (hu : Tryz.prog.underlying S = some (.slice T))
  (N : Nat) (v : Value) (l : List α) (hs : a.eval s = v) (hown : GRow T k enc w N v l) (b : Nat) (c : α) (hx : a.eval x = .slice (some ⟨b, 0, none⟩) 1 1) (hr : ∀ j u, (enc c)[j]? = some u -> w.cell? ⟨b, j, none⟩ = some u) (hl : l.length ≤ 1000000) (hN : N ≤ w.heap.size)
  (h : ∀ v' w', GRow T k enc w' N v' (l ++ [c]) -> w.grownBy w' v.ownBlock -> wpList Tryz.prog ops Q rest (a.put o.dst v') w') : wpList Tryz.prog ops Q (o :: rest) a w := by
 obtain ⟨ie, z, hie, hz, h1, h2, h3⟩ := hi
 refine wpList_append_own w hgd s x S ho N T ie z k bytes hu hie hz h1 h2 h3 hk0 v l.length (l.flatMap enc) hs hown ⟨b, 0, none⟩ 1 1 (enc c) hx (by rw [hk]; omega) ?_ (h1c c) (by unfold maxLen; omega) ?_ hN ?_
 ·intro j u hj
  rw [Addr.add_mid, Nat.zero_add]
  exact hr j u hj
 ·have : (l.length + 1) * bytes ≤ 1000001 * 1000 := Nat.mul_le_mul (by omega) hby
  omega
 ·intro v' w' ho' hg _
  refine h v' w' ?_ hg
  exact zyp
end
open Go.RowKit
structure PutAt (w W : World) (g : Nat) (new : Array Value) (t : TypeId) : Prop where
 here : W.heap[g]? = some (.cells new t (0, 0))
 size : W.heap.size = w.heap.size
 grown : w.grownBy W (some g)
theorem PutAt.below {w w0 W : World} {g B : Nat} {new : Array Value} {t : TypeId} (h : PutAt w W g new t) (hb : Below B w0 w) (hg : B ≤ g) : Below B w0 W :=
 hb.trans ⟨h.grown.os, h.grown.tape, h.grown.output, h.grown.size, fun k hk => h.grown.block k (by
   by_cases e : k < w.heap.size
   · exact e
   · have : w.heap[k]? = none := Array.getElem?_eq_none (by omega)
     have h2 : W.heap[k]? = none := Array.getElem?_eq_none (by rw [h.size]; omega)
     exfalso
     have := (Array.getElem?_eq_some_iff.1 h.here).1
     rw [h.size] at this
     omega) (fun e => by cases e; omega)⟩
theorem PutAt.other {w W : World} {g i : Nat} {new : Array Value} {t : TypeId} {o : Obj} (h : PutAt w W g new t) (hi : w.heap[i]? = some o) (hne : i ≠ g) : W.heap[i]? = some o :=
 (h.grown.block i (Array.getElem?_eq_some_iff.1 hi).1 (fun e => hne (by cases e; rfl))).trans hi
theorem PutAt.cell {w W : World} {g b o : Nat} {new : Array Value} {t : TypeId} {u : Value} (h : PutAt w W g new t) (hc : w.cell? ⟨b, o, none⟩ = some u) (hne : b ≠ g) : W.cell? ⟨b, o, none⟩ = some u :=
 h.grown.cell hc (fun e => hne (by cases e; rfl))
theorem PutAt.row {α : Type} {enc : α -> List Value} {k : Nat} {T : TypeId} {w W : World} {g N : Nat} {new : Array Value} {t : TypeId} {v : Value} {l : List α} (h : PutAt w W g new t) (hr : GRow T k enc w N v l) (hg : g < N) : GRow T k enc W N v l :=
 hr.kept h.grown (fun b e => by cases e; exact hg)
theorem zgv {w : World} {g o : Nat} {old : Array Value} {t : TypeId} (hg : w.heap[g]? = some (.cells old t (0, 0))) (v : Value) : PutAt w (w.setCell ⟨g, o, none⟩ v) g (old.setIfInBounds o v) t :=
 ⟨heap_setCell_same w g o old t v hg, by simp [World.setCell], ⟨rfl, rfl, rfl, by simp [World.setCell], fun k _ hk => Below.heap_setCell _ _ _ _ (fun e => hk (by rw [e]))⟩⟩
theorem zo4 {w : World} {g : Nat} {old new : Array Value} {t : TypeId} (hg : w.heap[g]? = some (.cells old t (0, 0))) : (w.setRow g new).heap[g]? = some (.cells new t (0, 0)) := by
 have hlt := (Array.getElem?_eq_some_iff.1 hg).1
 have hv := (Array.getElem?_eq_some_iff.1 hg).2
 unfold World.setRow
 rw [Array.getElem?_eq_getElem (by simpa using hlt), Array.getElem_modify]
 simp [hv]
theorem zt3 {w : World} {g : Nat} {old new : Array Value} {t : TypeId} (hg : w.heap[g]? = some (.cells old t (0, 0))) : PutAt w (w.setRow g new) g new t :=
 ⟨zo4 hg, by simp, ⟨rfl, rfl, rfl, by simp, fun k _ hk => setRow_other w g k new (fun e => hk (by rw [e]))⟩⟩
theorem zxz {P : Prop} (h : P := by
 have hs : i.size = 1 := by simpa [hq] using hi
 simp only [Nat.add_zero] at this
 simp [storeVar, sizeOf, typeInfo, hq, hcs, hs, this]
 rfl) : P := h
theorem run_set1 {P : Program} {w : World} {b o : Nat} {ty : TypeId} {v u : Value} (hc : w.cell? ⟨b, o, none⟩ = some u) (hf : w.frozen? ⟨b, o, none⟩ = false) (hi : (P.info? ty).map (·.size) = some 1) (h1 : v.oneCell' = true) :
  (storeVar ty ⟨b, o, none⟩ v).run P w = .ok () (w.setCell ⟨b, o, none⟩ v) := by
 have := run_storeCells_cells (P := P) b o [v] 0 w (fun j hj => by obtain rfl : j = 0 := by simpa using hj
                                                                   simp [hc]) (fun j hj => by obtain rfl : j = 0 := by simpa using hj
                                                                                              simp [hf]) (fun x hx => by simp at hx; subst hx; exact h1)
 have hcs : v.cells = #[v] := by cases v <;> first | rfl | cases h1
 cases hq : P.info? ty with
 | none => simp [hq] at hi
 | some i =>
  exact zxz
theorem vy {ops : Array Oper} {rest : List Oper} {o : Oper} {a : Act} {w : World} {Q : Exit -> Act -> World -> Prop} (hgd : o.guard = none) (ty : TypeId) (x y : Operand) (ho : o.op = .store ty x y)
  (g off : Nat) (old : Array Value) (t : TypeId) (hg : w.heap[g]? = some (.cells old t (0, 0))) (hoff : off < old.size) (hx : a.eval x = .pointer (some ⟨g, off, none⟩)) (v : Value) (hy : a.eval y = v) (hi : (Tryz.prog.info? ty).map (·.size) = some 1) (h1 : v.oneCell' = true)
  (h : ∀ W, PutAt w W g (old.setIfInBounds off v) t -> wpList Tryz.prog ops Q rest (a.put o.dst undef) W) : wpList Tryz.prog ops Q (o :: rest) a w :=
 wpList_plain hgd fun K hK => by
  have hc : w.cell? ⟨g, off, none⟩ = some old[off] := by rw [zup hg, Array.getElem?_eq_getElem hoff]
  unfold Oper.wp execOp
  simp only [ho, hx, hy, Instr.storeAt, Instr.sureAddr, Sem.run_bind, Sem.run_pure, Result.andThen_ok, run_set1 hc (Lib.frozen_of_heap hg off) hi h1]
  exact hK _ _ (h _ (zgv hg v))
theorem zi {ops : Array Oper} {rest : List Oper} {o : Oper} {a : Act} {w : World} {Q : Exit -> Act -> World -> Prop} (hgd : o.guard = none) (ty : TypeId) (x y : Operand) (ho : o.op = .store ty x y)
  (g : Nat) (old : Array Value) (t : TypeId) (hg : w.heap[g]? = some (.cells old t (0, 0))) (hx : a.eval x = .pointer (some ⟨g, 0, none⟩)) (new : Array Value) (hy : a.eval y = .agg new) (hs : old.size = new.size) (hi : (Tryz.prog.info? ty).map (·.size) = some new.size) (h1 : new.all (·.oneCell') = true)
  (h : ∀ W, PutAt w W g new t -> wpList Tryz.prog ops Q rest (a.put o.dst undef) W) : wpList Tryz.prog ops Q (o :: rest) a w :=
 wpList_store_row hgd ty x y ho g new hx hy t old hg hi hs h1 (h _ (zt3 hg))
section
variable {α : Type} {enc : α -> List Value} {k : Nat} {T : TypeId}
def GSl (k : Nat) (enc : α -> List Value) (w : World) (v : Value) (l : List α) : Prop := ∃ a cap, v = .slice a l.length cap /\ ∀ j (h : j < l.length), ∃ g off, a = some ⟨g, off, none⟩ /\ g < w.heap.size /\ ∀ i u, (enc l[j])[i]? = some u -> w.cell? ⟨g, off + j * k + i, none⟩ = some u
theorem GSl.nil (w : World) : GSl k enc w (.slice none 0 0) [] := ⟨none, 0, rfl, fun j h => by simp at h⟩
theorem GSl.slice {w : World} {v : Value} {l : List α} (h : GSl k enc w v l) : ∃ a cap, v = .slice a l.length cap := by
 obtain ⟨a, c, e, _⟩ := h
 exact ⟨a, c, e⟩
theorem GSl.below {w w' : World} {v : Value} {l : List α} (h : GSl k enc w v l) (hb : Below w.heap.size w w') : GSl k enc w' v l := by
 obtain ⟨a, cap, e, hc⟩ := h
 refine ⟨a, cap, e, fun j hj => ?_⟩
 obtain ⟨g, off, ea, hlt, hcell⟩ := hc j hj
 exact ⟨g, off, ea, Nat.lt_of_lt_of_le hlt hb.size, fun i u hu => (hb.cell (p := ⟨g, off + j * k + i, none⟩) hlt).trans (hcell i u hu)⟩
theorem GSl.at {w : World} {a : Option Addr} {n cap : Nat} {l : List α} (h : GSl k enc w (.slice a n cap) l) (j : Nat) (hj : j < l.length) : ∃ g off, a = some ⟨g, off, none⟩ /\ g < w.heap.size /\ ∀ i u, (enc l[j])[i]? = some u -> w.cell? ⟨g, off + j * k + i, none⟩ = some u := by
 obtain ⟨a', c, e, hc⟩ := h
 obtain ⟨g, off, ea, hb, hcell⟩ := hc j hj
 cases e
 exact ⟨g, off, ea, hb, hcell⟩
theorem GRow.gsl (hk : ∀ x, (enc x).length = k) {w : World} {N : Nat} {v : Value} {l : List α} (h : GRow T k enc w N v l) : GSl k enc w v l := by
 obtain ⟨a, cap, rfl⟩ := GRow.slice h
 refine ⟨a, cap, rfl, fun j hj => ?_⟩
 obtain ⟨g, c, e, _, hlt, hc⟩ := GRow.at hk h j hj
 cases e
 exact ⟨g, 0, rfl, hlt, fun i u hu => by rw [Nat.zero_add]; exact hc i u hu⟩
theorem GSl.cells (hk : ∀ x, (enc x).length = k) {w : World} {g off n cap : Nat} {l : List α} (h : GSl k enc w (.slice (some ⟨g, off, none⟩) n cap) l) (i : Nat) : ∀ j u, ((l.drop i).flatMap enc)[j]? = some u -> w.cell? ⟨g, off + i * k + j, none⟩ = some u := by
 intro j u hu
 have hlen := (List.getElem?_eq_some_iff.1 hu).1
 rw [zb9 hk] at hlen
 have hk0 : 0 < k := by
  rcases Nat.eq_zero_or_pos k with h0 | h0
  ·rw [h0, Nat.mul_zero] at hlen; omega
  ·exact h0
 have hdiv : j / k < (l.drop i).length := (Nat.div_lt_iff_lt_mul hk0).2 hlen
 have hmod := Nat.mod_lt j hk0
 have hsum : j = (j / k) * k + j % k := by rw [Nat.mul_comm]; exact (Nat.div_add_mod j k).symm
 rw [hsum, zfl hk _ hdiv _ hmod] at hu
 have hi : i + j / k < l.length := by rw [List.length_drop] at hdiv; exact Nat.add_lt_of_lt_sub' hdiv
 rw [List.getElem_drop] at hu
 obtain ⟨g', off', e, hlt, hc⟩ := h.at (i + j / k) hi
 cases e
 have := hc (j % k) u hu
 rw [show off + (i + j / k) * k + j % k = off + i * k + j by
   rw [Nat.add_mul]
   have h2 := hsum
   generalize j / k * k = A at *
   generalize j % k = B at *
   generalize i * k = C at *
   omega] at this
 exact this
theorem vh {ops : Array Oper} {o : Oper} {a : Act} {w : World} {K : Act -> World -> Prop} {Q : Exit -> Act -> World -> Prop} {E : Prop} (hk : ∀ x, (enc x).length = k) (hk0 : 0 < k) (h1c : ∀ x, ∀ u ∈ enc x, u.oneCell' = true) {bytes : Nat} (hi : xj T k bytes) (hby : bytes ≤ 1000) (hgd : o.guard = none) (s x : Operand) (S : TypeId)
  (ho : o.op = .call { callee := .builtin .append, args := #[s, x], argTypes := #[S, S] }) (hu : Tryz.prog.underlying S = some (.slice T))
  (N : Nat) (v : Value) (l : List α) (hs : a.eval s = v) (hown : GRow T k enc w N v l) (ad : Addr) (c : Nat) (ys : List α) (m : Nat) (hm : ys.length = m) (hx : a.eval x = .slice (some ad) m c) (hr : ∀ j u, (ys.flatMap enc)[j]? = some u -> w.cell? (ad.add j) = some u) (hl : l.length + ys.length ≤ 1000000) (hN : N ≤ w.heap.size)
  (h : ∀ v' w', GRow T k enc w' N v' (l ++ ys) -> w.grownBy w' v.ownBlock -> K (a.put o.dst v') w') : if Region.wanted o (yielded ops a.tmps) = true then Oper.wp Tryz.prog o a w K Q else E := by
 rw [if_pos (by simp [Region.wanted, hgd])]
 subst hm
 obtain ⟨ie, z, hie, hz, h1, h2, h3⟩ := hi
 obtain ⟨v', w', hr', ho', hg, _⟩ := run_append_own (P := Tryz.prog) w N S o.type T ie z k bytes hu hie hz h1 h2 h3 hk0 v l.length (l.flatMap enc) hown ad ys.length c (ys.flatMap enc) (zb9 hk ys) hr (fun u hu => by
   obtain ⟨y, _, hy⟩ := List.mem_flatMap.1 hu
   exact h1c y u hy) (by unfold maxLen; omega) (by
     have : (l.length + ys.length) * bytes ≤ 1000000 * 1000 := Nat.mul_le_mul hl hby
     omega) hN
 unfold Oper.wp execOp
 simp only [ho, resolve, invoke, builtin, Sem.run_bind, Sem.run_pure, Result.andThen_ok, List.map_toArray, List.map_cons, List.map_nil, hs, hx, hr']
 refine h v' w' ?_ hg
 unfold GRow
 rw [List.length_append, List.flatMap_append]
 exact ho'
theorem yc {ops : Array Oper} {o : Oper} {a : Act} {w : World} {K : Act -> World -> Prop} {Q : Exit -> Act -> World -> Prop} {E : Prop} (hk : ∀ x, (enc x).length = k) (hk0 : 0 < k) (h1c : ∀ x, ∀ u ∈ enc x, u.oneCell' = true) {bytes : Nat} (hi : xj T k bytes) (hby : bytes ≤ 1000) (hgd : o.guard = none) (s x : Operand) (S : TypeId)
  (ho : o.op = .call { callee := .builtin .append, args := #[s, x], argTypes := #[S, S] }) (hu : Tryz.prog.underlying S = some (.slice T))
  (N : Nat) (v : Value) (l : List α) (hs : a.eval s = v) (hown : GRow T k enc w N v l) (b : Nat) (c : α) (hx : a.eval x = .slice (some ⟨b, 0, none⟩) 1 1) (hr : ∀ j u, (enc c)[j]? = some u -> w.cell? ⟨b, j, none⟩ = some u) (hl : l.length ≤ 900000) (hN : N ≤ w.heap.size)
  (h : ∀ v' w', GRow T k enc w' N v' (l ++ [c]) -> w.grownBy w' v.ownBlock -> K (a.put o.dst v') w') : if Region.wanted o (yielded ops a.tmps) = true then Oper.wp Tryz.prog o a w K Q else E :=
 vh hk hk0 h1c hi hby hgd s x S ho hu N v l hs hown ⟨b, 0, none⟩ 1 [c] 1 rfl hx (fun j u hj => by
   rw [Addr.add_mid, Nat.zero_add]
   exact hr j u (by simpa using hj)) (by simp; omega) hN h
end
open Go.RowKit
theorem zn7 {α : Type} {enc : α -> List Value} {k : Nat} {T : TypeId} {ops : Array Oper} {o : Oper} {a : Act} {w : World} {K : Act -> World -> Prop} {Q : Exit -> Act -> World -> Prop} {E : Prop} (hk : ∀ x, (enc x).length = k) (hk0 : 0 < k) (h1c : ∀ x, ∀ u ∈ enc x, u.oneCell' = true) {bytes : Nat} (hi : xj T k bytes) (hby : bytes ≤ 1000) (hgd : o.guard = none) (s x : Operand) (S : TypeId)
  (ho : o.op = .call { callee := .builtin .append, args := #[s, x], argTypes := #[S, S] }) (hu : Tryz.prog.underlying S = some (.slice T))
  (N : Nat) (v : Value) (l : List α) (hs : a.eval s = v) (hown : GRow T k enc w N v l) (b : Nat) (c : α) (hx : a.eval x = .slice (some ⟨b, 0, none⟩) 1 1) (hr : ∀ j u, (enc c)[j]? = some u -> w.cell? ⟨b, j, none⟩ = some u) (hl : l.length ≤ 900000) (hN : N ≤ w.heap.size)
  (h : ∀ v' w', GRow T k enc w' N v' (l ++ [c]) -> w.grownBy w' v.ownBlock -> (v'.ownBlock = v.ownBlock ∨ v'.ownBlock = some w.heap.size) -> K (a.put o.dst v') w') : if Region.wanted o (yielded ops a.tmps) = true then Oper.wp Tryz.prog o a w K Q else E := by
 rw [if_pos (by simp [Region.wanted, hgd])]
 obtain ⟨ie, z, hie, hz, h1, h2, h3⟩ := hi
 obtain ⟨v', w', hr', ho', hg, _, hob⟩ := run_append_own_at (P := Tryz.prog) w N S o.type T ie z k bytes hu hie hz h1 h2 h3 hk0 v l.length (l.flatMap enc) hown ⟨b, 0, none⟩ 1 1 (enc c) (by rw [hk]; omega) (fun j u hj => by
   rw [Addr.add_mid, Nat.zero_add]
   exact hr j u hj) (h1c c) (by unfold maxLen; omega) (by
     have : (l.length + 1) * bytes ≤ 1000000 * 1000 := Nat.mul_le_mul (by omega) hby
     omega) hN
 unfold Oper.wp execOp
 simp only [ho, resolve, invoke, builtin, Sem.run_bind, Sem.run_pure, Result.andThen_ok, List.map_toArray, List.map_cons, List.map_nil, hs, hx, hr']
 refine h v' w' ?_ hg hob
 unfold GRow
 rw [List.length_append, List.flatMap_append]
 simpa using ho'
structure Lsl where
 a : Option Addr
 n : Nat
 c : Nat
def Lsl.v (s : Lsl) : Value := .slice s.a s.n s.c
def lslE (s : Lsl) : List Value := [s.v]
theorem zjt (s : Lsl) : (lslE s).length = 1 := rfl
theorem zp8 (s : Lsl) : ∀ u ∈ lslE s, u.oneCell' = true := by
 intro u hu
 simp [lslE] at hu
 subst hu
 rfl
theorem zu6 {P : Prop} (h : P := by
 rw [hq] at h
 simp only [Bool.and_eq_true, beq_iff_eq] at h
 obtain ⟨h1, h2, h3⟩ := h
 cases hz : i.zero with
 | none => rw [hz] at h3; cases h3
 | some z =>
  rw [hz] at h3
  exact ⟨i, z, rfl, hz, h1, h2, by simpa using h3⟩) : P := h
theorem zkt : xj 61 1 24 := by
 have h : (match Tryz.prog.info? 61 with | some i => i.size == 1 && (i.bytes == 24 && (match i.zero with | some z => z.cells.size == 1 | none => false)) | none => false) = true := by kernel_rfl
 unfold xj
 cases hq : Tryz.prog.info? 61 with
 | none => rw [hq] at h; cases h
 | some i =>
  exact zu6
theorem Strs.grown {w w' : World} {v : Value} {l : List V.Bs} {row : Option Nat} (h : Strs w v l) (hg : w.grownBy w' row) (hs : l ≠ [] -> ∀ c, v.ownBlock = some c -> row ≠ some c) : Strs w' v l := by
 obtain ⟨a, cap, rfl, hx⟩ := h
 refine ⟨a, cap, rfl, fun j hj => ?_⟩
 obtain ⟨b, off, rfl, hlt, h0⟩ := hx j hj
 have hne : l ≠ [] := fun e => by rw [e] at hj; simp at hj
 have hb : row ≠ some b := hs hne b rfl
 exact ⟨b, off, rfl, Nat.lt_of_lt_of_le hlt hg.size, hg.cell h0 (fun e => hb e.symm)⟩
theorem zx2 {P : Prop} (h : P := by
 obtain ⟨a, cap, rfl, hx⟩ := h
 obtain ⟨b, off, rfl, hlt, _⟩ := hx 0 (List.length_pos_iff.2 hl)
 simp [Value.ownBlock] at hc
 omega) : P := h
theorem Strs.lt {w : World} {v : Value} {l : List V.Bs} (h : Strs w v l) (hl : l ≠ []) {c : Nat} (hc : v.ownBlock = some c) : c < w.heap.size := by
 exact zx2
structure LRow (N : Nat) (w : World) (v : Value) (us : List Lsl) (ls : List (List V.Bs)) : Prop where
 row : GRow 61 1 lslE w N v us
 len : us.length = ls.length
 each : ∀ j (h : j < us.length) (h' : j < ls.length), Strs w us[j].v ls[j] /\ (ls[j] ≠ [] -> ∀ c, us[j].v.ownBlock = some c -> v.ownBlock ≠ some c)
theorem LRow.nil (N : Nat) (w : World) : LRow N w (.slice none 0 0) [] [] := ⟨GRow.nil _ _, rfl, fun j h => by simp at h⟩
theorem LRow.later {N : Nat} {w w' : World} {v : Value} {us : List Lsl} {ls : List (List V.Bs)} (h : LRow N w v us ls) (hb : Below w.heap.size w w') : LRow N w' v us ls :=
 ⟨GRow.below h.row hb, h.len, fun j hj hj' => ⟨vp (h.each j hj hj').1 hb, (h.each j hj hj').2⟩⟩
theorem zxo {P : Prop} (h : P := by
 refine ⟨hq.grown hg hn, fun hy c hc => ?_⟩
 rcases ho with e | e
 ·rw [e]; exact hn hy c hc
 ·rw [e]
  intro g
  have := hq.lt hy hc
  cases g
  omega) : P := h
theorem zyr {P : Prop} (h : P := by
 rw [List.getElem_append_left e, List.getElem_append_left e2]
 exact one _ _ (h.each j e e2).1 (h.each j e e2).2) : P := h
theorem LRow.add {N : Nat} {w w' : World} {v v' : Value} {us : List Lsl} {ls : List (List V.Bs)} {u : Lsl} {x : List V.Bs} (h : LRow N w v us ls) (hr : GRow 61 1 lslE w' N v' (us ++ [u])) (hg : w.grownBy w' v.ownBlock) (ho : v'.ownBlock = v.ownBlock ∨ v'.ownBlock = some w.heap.size)
  (hu : Strs w u.v x) (hs : x ≠ [] -> ∀ c, u.v.ownBlock = some c -> v.ownBlock ≠ some c) : LRow N w' v' (us ++ [u]) (ls ++ [x]) := by
 have one : ∀ (q : Value) (y : List V.Bs), Strs w q y -> (y ≠ [] -> ∀ c, q.ownBlock = some c -> v.ownBlock ≠ some c) -> Strs w' q y /\ (y ≠ [] -> ∀ c, q.ownBlock = some c -> v'.ownBlock ≠ some c) := fun q y hq hn => by
  exact zxo
 refine ⟨hr, by rw [List.length_append, List.length_append, h.len]; rfl, fun j hj hj' => ?_⟩
 by_cases e : j < us.length
 ·have e2 : j < ls.length := by rw [← h.len]; exact e
  exact zyr
 ·have ej : j = us.length := by rw [List.length_append, List.length_singleton] at hj; omega
  subst ej
  have e1 : (us ++ [u])[us.length] = u := by simp
  have e2 : (ls ++ [x])[us.length]'hj' = x := by simp [h.len]
  rw [e1, e2]
  exact one _ _ hu hs
theorem LRow.one {N : Nat} {w : World} {u : Lsl} {x : List V.Bs} (hN : N ≤ w.heap.size) (hu : Strs w u.v x) (h0 : x ≠ []) : LRow N (w.alloc (.cells #[u.v] 61)) (.slice (some ⟨w.heap.size, 0, none⟩) 1 1) [u] [x] := by
 have hb : Below w.heap.size w (w.alloc (.cells #[u.v] 61)) := (zut _ w).alloc (zus _) _
 refine ⟨⟨rfl, .inr ⟨w.heap.size, 1, #[u.v], rfl, hN, ?_, zus _, by unfold maxLen; omega, rfl, rfl⟩⟩, rfl, fun j hj hj' => ?_⟩
 ·rw [heap_alloc, if_pos rfl]
 ·obtain rfl : j = 0 := by simpa using hj
  refine ⟨vp hu hb, fun _ c hc => ?_⟩
  have := hu.lt h0 hc
  intro e
  simp [Value.ownBlock] at e
  omega
theorem LRow.lines {N : Nat} {w : World} {v : Value} {us : List Lsl} {ls : List (List V.Bs)} (h : LRow N w v us ls) : Lines w v ls := by
 obtain ⟨a, cap, rfl⟩ := GRow.slice h.row
 refine ⟨a, cap, by rw [h.len], fun j hj => ?_⟩
 have hj' : j < us.length := by rw [h.len]; exact hj
 obtain ⟨g, cap2, e, hN, hg, hc⟩ := GRow.at zjt h.row j hj'
 cases e
 exact ⟨g, 0, us[j].v, rfl, hg, by simpa using hc 0 us[j].v rfl, (h.each j hj' hj).1⟩
theorem LRow.slice {N : Nat} {w : World} {v : Value} {us : List Lsl} {ls : List (List V.Bs)} (h : LRow N w v us ls) : ∃ a cap, v = .slice a ls.length cap := by
 rw [← h.len]; exact GRow.slice h.row
theorem zo2 (w : World) (l : List V.Bs) : Strs (w.alloc (.cells (l.map fun x => Value.string ⟨x.toArray⟩).toArray 9)) (.slice (some ⟨w.heap.size, 0, none⟩) l.length l.length) l :=
 ⟨_, _, rfl, fun j hj => ⟨w.heap.size, 0, rfl, by simp, by rw [Nat.zero_add, World.cell?_alloc_new]; simp [hj]⟩⟩
theorem zrb (w : World) (k : Nat) (os : Array Obj) : Below w.heap.size w (Sort.grow (w.drewN k) os) :=
 ⟨rfl, rfl, rfl, by simp, fun q hq => by rw [Sort.heap_grow_old _ _ (by simpa using hq)]; rfl⟩
theorem zi2 : ∀ (k u : Nat), u < 10 ^ k -> 0 < k -> Lib.nDigits u ≤ k
 | 0, _, _, h => absurd h (by omega)
 | 1, u, h, _ => by rw [Lib.nDigits_small (by simpa using h)]; exact zus _
 | k + 2, u, h, _ => by
  rw [Lib.nDigits]
  split
  ·omega
  ·have := zi2 (k + 1) (u / 10) (by rw [Nat.pow_succ] at h; omega) (by omega)
   omega
theorem zm6 {n : Nat} (h : n ≤ 2199023255552) : (Lib.decDigits n).length ≤ 13 := by
 rw [Lib.decDigits_length]
 exact zi2 13 n (by omega) (by omega)
theorem zlk (n : Nat) (w : World) (hn : n ≤ 2199023255552) (htab : Lib.TabIs Tryz.prog w "internal/strconv.uint64pow10" .u64 Lib.pow10Tab) :
  Calls Tryz.prog 58 #[.int .i64 n] w fun e w' => e = .returned (.string ⟨(Lib.decDigits n).toArray⟩) /\ Below w.heap.size w w' := by
 have HT := zuq htab
 clear htab
 go_enter Tryz.func58, Tryz.ntmps58
 go_wp2_with fail
 refine (Tryz.strconv_FormatInt_10 n (by omega) (by omega) w HT.out).mono ?_
 rintro e w' ⟨rfl, k, os, rfl⟩
 have HI : Hid (Lib.itoa n = Lib.decDigits n) := zuq (by unfold Lib.itoa; rw [if_neg (by omega)]; simp)
 rw [HI.out]
 have HB := zuq (zrb w k os)
 generalize Sort.grow (w.drewN k) os = w1 at *
 go_wp2
 go_ret
 exact ⟨rfl, HB.out⟩
end Go.Proofs.YtnhfaincdabdkaaGreatDoor
