/-
  Lemmas for the law.
-/
import Derived.Test.YtnhfaincdabdkaaGreatDoorC35x17
import Derived.Test.YtnhfaincdabdkaaGreatDoorC35x03
import Derived.Test.YtnhfaincdabdkaaGreatDoorC35x02
import Derived.Laws.AppendOwn
import Derived.OwnWalk
import Derived.Maps.AppendAt
import Derived.Deep.MidRow
import Derived.Laws.Rows
import Derived.Laws.Entries
import Derived.Lib.Builder
set_option linter.all false
set_option maxRecDepth 100000
set_option maxHeartbeats 3200000
namespace Go.Proofs.YtnhfaincdabdkaaGreatDoor
open Go.RowKit
theorem zt8 {l : V.Bs} {k : Nat} (h : k < l.length) : (l.take (k + 1)).flatMap V.encB = (l.take k).flatMap V.encB ++ V.encB l[k] := by
 rw [List.take_succ_eq_append_getElem h, List.flatMap_append]
 simp
theorem word_to (l : V.Bs) (k : Nat) : ((l.take k).flatMap V.encB).length ≤ 3 * l.length := by
 rw [V.zjq]
 exact zsv l k
theorem dig_at {n : Nat} (h : n < 16) : (ByteArray.mk #[48, 49, 50, 51, 52, 53, 54, 55, 56, 57, 65, 66, 67, 68, 69, 70]).data.toList[n]? = some (V.digU.getD n 0) := by
 have : ∀ m : Fin 16, (ByteArray.mk #[48, 49, 50, 51, 52, 53, 54, 55, 56, 57, 65, 66, 67, 68, 69, 70]).data.toList[m.val]? = some (V.digU.getD m.val 0) := by decide
 exact this ⟨n, h⟩
theorem zy8 {P : Prop} (h : P := by
 go_wp2
 go_roundw
 case rel => exact ⟨k + 1, by omega, by go_num, by rw [HN.out]; exact HB9.out⟩
 case measure => simp [intOf]; omega) : P := h
theorem zpd (s : ByteArray) (w : World) (hs : s.size ≤ 100000) : Calls Tryz.prog 107 #[.string s] w fun e w' => e = .returned (.string ⟨(V.word s.data.toList).toArray⟩) /\ Below w.heap.size w w' := by
 by_cases h0 : s.data.toList = []
 ·have hs0 : s = ⟨#[]⟩ := kk (by rw [h0])
  subst hs0
  go_enter Tryz.func107, Tryz.ntmps107
  go_wp2
  go_ret
  exact ⟨rfl, zve _ _⟩
 ·have hse : s.toList.isEmpty = false := by
   rw [Lib.toList_data]
   cases hq : s.data.toList with
   | nil => exact absurd hq h0
   | cons c r => rfl
  have HW : Hid (V.word s.data.toList = s.data.toList.flatMap V.encB) := zvb (by
    unfold V.word
    cases hq : s.data.toList with
    | nil => exact absurd hq h0
    | cons c r => rw [List.isEmpty_cons, if_neg (by decide)])
  have HP : Hid (0 < s.data.toList.length) := zvb (List.length_pos_iff.2 h0)
  have hsz := V.zae s.data.toList
  rw [zh] at hsz
  clear h0
  go_enter Tryz.func107, Tryz.ntmps107
  go_wp2_with fail
  refine (zhi s w hs).mono ?_
  rintro e w' ⟨rfl, rfl⟩
  clear hse
  go_wp2_with (first | (refine ztm rfl _ rfl w'.heap.size (V.zal s.data.toList) w' (zve _ _) (zvd _) rfl (by omega) ?_; intro w1 hb1) | fail)
  have HB1 := zvb hb1
  clear hb1
  go_wp2
  go_loopw [3, 4] (fun ov iv wx => ∃ k : Nat, k ≤ s.size /\ iv = .int .i64 k /\ Buf w'.heap.size ov ((s.data.toList.take k).flatMap V.encB) w' wx) (fun _ iv _ => s.size - (intOf iv).toNat)
  case atStart => exact ⟨0, Nat.zero_le _, rfl, HB1.out⟩
  case round =>
   obtain ⟨k, hk, rfl, hb⟩ := hrel
   have HB := zvb hb
   obtain ⟨oa, oc, rfl⟩ := hb.slice
   have hl := zh s
   have hle := word_to s.data.toList k
   rw [hl] at hle
   clear hb HB1
   by_cases hlt : k < s.size
   ·have HT := zvb (zt8 (l := s.data.toList) (k := k) (by omega))
    have he : s.data.toList[k]'(by omega) = s[k] := by simp; rfl
    rw [he] at HT
    have hs1 : (0 : Int) ≤ (k : Int) := by omega
    have hs2 : (k : Int) < (s.size : Int) := by omega
    obtain ⟨L, hL⟩ : ∃ L, L = (s.data.toList.take k).flatMap V.encB := ⟨_, rfl⟩
    rw [← hL] at HT hle HB ⊢
    obtain ⟨c, hc⟩ : ∃ c, c = s[k] := ⟨_, rfl⟩
    have HCI : Hid (s.data.toList[((k : Int)).toNat]? = some c) := zvb (by rw [Int.toNat_natCast, List.getElem?_eq_getElem (by omega), he, ← hc])
    have hc256 := c.toNat_lt
    have HD1 : Hid ((ByteArray.mk #[48, 49, 50, 51, 52, 53, 54, 55, 56, 57, 65, 66, 67, 68, 69, 70]).data.toList[(((c.toNat / 16 : Nat) : Int)).toNat]? = some (V.digU.getD (c.toNat / 16) 0)) := zvb (by rw [Int.toNat_natCast]; exact dig_at (by omega))
    have HD2 : Hid ((ByteArray.mk #[48, 49, 50, 51, 52, 53, 54, 55, 56, 57, 65, 66, 67, 68, 69, 70]).data.toList[(((c.toNat % 16 : Nat) : Int)).toNat]? = some (V.digU.getD (c.toNat % 16) 0)) := zvb (by rw [Int.toNat_natCast]; exact dig_at (by omega))
    rw [← hc] at HT
    have HC := zvb hc
    clear he hl hL hc
    go_wp2_with fail
    rw [← HC.out]
    refine (zao c wr).mono ?_
    rintro e w2 ⟨rfl, rfl⟩
    rcases hp : V.jy c with _ | _
    ·have HN : Hid ((s.data.toList.take (k + 1)).flatMap V.encB = L ++ [37, V.digU.getD (c.toNat / 16) 0, V.digU.getD (c.toNat % 16) 0]) := zvb (by rw [HT.out]; unfold V.encB; rw [hp]; rfl)
     clear hp HT
     go_wp2_with fail
     refine wp_region_any (by kernel_rfl) ?_
     change wpAny _ _ _ _ _ _ _ (World.drew _)
     have HB3 := zvb (HB.out.below (zve _ w2).drew)
     clear HB
     generalize w2.drew = w3 at *
     refine wpAny_take (i := 0) (v := .slice oa L.length oc) rfl (by kernel_rfl) (by kernel_rfl) (by kernel_rfl) (fun _ _ _ h => h) (Or.inl ⟨by rfl, fun W => by go_simp⟩) ?_
     refine wpAny_take (i := 1) (v := .string s) rfl (by kernel_rfl) (by kernel_rfl) (by kernel_rfl) (fun _ _ _ h => h) (Or.inl ⟨by rfl, fun W => by go_simp⟩) ?_
     refine wpAny_take (i := 2) (v := .int .i64 k) rfl (by kernel_rfl) (by kernel_rfl) (by kernel_rfl) (fun _ _ _ h => h) (Or.inl ⟨by rfl, fun W => by go_simp⟩) ?_
     refine wpAny_take (i := 6) (v := .string s) rfl (by kernel_rfl) (by kernel_rfl) (by kernel_rfl) (fun _ _ _ h => h) (Or.inl ⟨by rfl, fun W => by go_simp⟩) ?_
     refine wpAny_take (i := 7) (v := .int .i64 k) rfl (by kernel_rfl) (by kernel_rfl) (by kernel_rfl) (fun _ _ _ h => h) (Or.inl ⟨by rfl, fun W => by go_simp⟩) ?_
     simp only [zu6, zu7, zu8, Act.put, zu9, List.set_cons_succ, List.set_cons_zero]
     refine wpAny_take (i := 3) (v := .int .u8 c.toNat) rfl (by kernel_rfl) (by kernel_rfl) (by kernel_rfl) (fun _ _ _ h => h) (Or.inl ⟨by rfl, fun W => zcm rfl rfl rfl hs1 HCI.out⟩) ?_
     refine wpAny_take (i := 8) (v := .int .u8 c.toNat) rfl (by kernel_rfl) (by kernel_rfl) (by kernel_rfl) (fun _ _ _ h => h) (Or.inl ⟨by rfl, fun W => zcm rfl rfl rfl hs1 HCI.out⟩) ?_
     simp only [zu6, zu7, zu8, Act.put, zu9, List.set_cons_succ, List.set_cons_zero]
     refine wpAny_take (i := 4) (v := .int .u8 ((c.toNat / 16 : Nat) : Int)) rfl (by kernel_rfl) (by kernel_rfl) (by kernel_rfl) (fun _ _ _ h => h) (Or.inl ⟨by rfl, fun W => ex_shr4 rfl rfl rfl⟩) ?_
     refine wpAny_take (i := 9) (v := .int .u8 ((c.toNat % 16 : Nat) : Int)) rfl (by kernel_rfl) (by kernel_rfl) (by kernel_rfl) (fun _ _ _ h => h) (Or.inl ⟨by rfl, fun W => ex_and15 rfl rfl rfl⟩) ?_
     simp only [zu6, zu7, zu8, Act.put, zu9, List.set_cons_succ, List.set_cons_zero]
     refine wpAny_take (i := 5) (v := .int .u8 (V.digU.getD (c.toNat / 16) 0).toNat) rfl (by kernel_rfl) (by kernel_rfl) (by kernel_rfl) (fun _ _ _ h => h) (Or.inl ⟨by rfl, fun W => zcm rfl rfl rfl (by omega) HD1.out⟩) ?_
     refine wpAny_take (i := 10) (v := .int .u8 (V.digU.getD (c.toNat % 16) 0).toNat) rfl (by kernel_rfl) (by kernel_rfl) (by kernel_rfl) (fun _ _ _ h => h) (Or.inl ⟨by rfl, fun W => zcm rfl rfl rfl (by omega) HD2.out⟩) ?_
     simp only [zu6, zu7, zu8, Act.put, zu9, List.set_cons_succ, List.set_cons_zero]
     refine wpAny_all (rs := [11]) (by kernel_rfl) (by simp) ?_
     intro i0 hi0
     obtain rfl : i0 = 11 := by simpa using hi0
     clear hi0
     refine wpOp_step (by rfl) (fun K hK => zno rfl _ _ _ rfl 37 (V.digU.getD (c.toNat / 16) 0) (V.digU.getD (c.toNat % 16) 0) rfl rfl rfl (hK _ _ ?_))
     clear hK K
     have HBN := zvb (za4 [37, V.digU.getD (c.toNat / 16) 0, V.digU.getD (c.toNat % 16) 0] w3)
     have HB4 := zvb (HB3.out.below ((zve _ w3).alloc (zvd _) (.cells (bvals [37, V.digU.getD (c.toNat / 16) 0, V.digU.getD (c.toNat % 16) 0]).toArray 5)))
     clear HB3
     generalize w3.alloc (.cells (bvals [37, V.digU.getD (c.toNat / 16) 0, V.digU.getD (c.toNat % 16) 0]).toArray 5) = w4 at *
     simp only [zu6, zu7, zu8, Act.put, zu9, List.set_cons_succ, List.set_cons_zero]
     refine wpAny_all (rs := [12]) (by kernel_rfl) (by simp) ?_
     intro i0 hi0
     obtain rfl : i0 = 12 := by simpa using hi0
     clear hi0
     refine wpOp_step (by rfl) (fun K hK => ?_)
     refine zrw rfl _ _ rfl w'.heap.size (.slice oa L.length oc) L w' rfl HB4.out w3.heap.size 3 [37, V.digU.getD (c.toNat / 16) 0, V.digU.getD (c.toNat % 16) 0] rfl HBN.out (by simp; omega) ?_
     intro v9 w9 hb9
     refine hK _ _ ?_
     clear hK K
     have HB9 := zvb hb9
     clear hb9 HBN HB4
     simp only [zu6, zu7, zu8, Act.put, zu9, List.set_cons_succ, List.set_cons_zero]
     refine wpAny_take (i := 13) (v := v9) rfl (by kernel_rfl) (by kernel_rfl) (by kernel_rfl) (fun _ _ _ h => h) (Or.inl ⟨by rfl, fun W => by go_simp⟩) ?_
     simp only [zu6, zu7, zu8, Act.put, zu9, List.set_cons_succ, List.set_cons_zero]
     refine wpAny_done (by kernel_rfl) ?_ _
     exact zy8
    ·have HN : Hid ((s.data.toList.take (k + 1)).flatMap V.encB = L ++ [c]) := zvb (by rw [HT.out]; unfold V.encB; rw [hp]; rfl)
     clear hp HT
     have HB2 : Hid (Buf w'.heap.size (.slice oa L.length oc) L w' (w2.alloc (.cells #[.int .u8 s[k].toNat] 5))) := zvb (HB.out.below ((zve _ w2).alloc (zvd _) _))
     go_wp2_with (first | (refine zdp rfl _ _ rfl w'.heap.size (.slice oa L.length oc) L w' rfl HB2.out w2.heap.size 1 [c] rfl ?_ (by simp; omega) ?_; rotate_left; intro v9 w9 hb9) | fail)
     ·have HB9 := zvb hb9
      clear hb9
      exact zy8
     ·rw [← HC.out]
      exact za4 [c] w2
   ·obtain rfl : k = s.size := by omega
    have ht : s.data.toList.take s.size = s.data.toList := List.take_of_length_le (by omega)
    rw [ht, ← HW.out] at HB
    have hcv := zjg HB.out (by rw [V.zb5]; have := HP.out; unfold V.zal; omega)
    have hll : ((s.data.toList.take s.size).flatMap V.encB).length = (V.word s.data.toList).length := by rw [ht, HW.out]
    rw [hll] at *
    have HBL := zvb HB.out.2.1
    go_wp2
    go_ret
    exact ⟨rfl, HBL.out⟩
open Go.RowKit
def Lines (w : World) (v : Value) (ls : List (List V.Bs)) : Prop :=
 ∃ a cap, v = .slice a ls.length cap /\ ∀ j (h : j < ls.length), ∃ b off u, a = some ⟨b, off, none⟩ /\ b < w.heap.size /\ w.cell? ⟨b, off + j, none⟩ = some u /\ Strs w u ls[j]
theorem zz0 {P : Prop} (h : P := by
 exact ⟨b, off, ea, Nat.lt_of_lt_of_le hlt hb.size, (hb.cell (p := ⟨b, off + j, none⟩) hlt).trans hr⟩) : P := h
theorem vx {w w' : World} {v : Value} {l : List V.Bs} (h : Strs w v l) (hb : Below w.heap.size w w') : Strs w' v l := by
 obtain ⟨a, cap, e, hc⟩ := h
 refine ⟨a, cap, e, fun j hj => ?_⟩
 obtain ⟨b, off, ea, hlt, hr⟩ := hc j hj
 exact zz0
theorem Lines.below {w w' : World} {v : Value} {ls : List (List V.Bs)} (h : Lines w v ls) (hb : Below w.heap.size w w') : Lines w' v ls := by
 obtain ⟨a, cap, e, hc⟩ := h
 refine ⟨a, cap, e, fun j hj => ?_⟩
 obtain ⟨b, off, u, ea, hlt, hr, hs⟩ := hc j hj
 exact ⟨b, off, u, ea, Nat.lt_of_lt_of_le hlt hb.size, (hb.cell (p := ⟨b, off + j, none⟩) hlt).trans hr, vx hs hb⟩
theorem vu (x : V.Bs) : (ByteArray.mk x.toArray).data.toList = x := by simp
theorem za8 (x : V.Bs) : (ByteArray.mk x.toArray).size = x.length := by simp [ByteArray.size]
theorem zjd (x : V.Bs) (w : World) (hs : x.length ≤ 100000) : Calls Tryz.prog 106 #[.string ⟨x.toArray⟩] w fun e w' => e = .returned (.int .i64 (V.zal x : Nat)) /\ w' = w := by
 have := zhi ⟨x.toArray⟩ w (by rw [za8]; exact hs)
 rwa [vu] at this
theorem zjr (x : V.Bs) (w : World) (hs : x.length ≤ 100000) : Calls Tryz.prog 107 #[.string ⟨x.toArray⟩] w fun e w' => e = .returned (.string ⟨(V.word x).toArray⟩) /\ Below w.heap.size w w' := by
 have := zpd ⟨x.toArray⟩ w (by rw [za8]; exact hs)
 rwa [vu] at this
theorem zz4 {P : Prop} (h : P := by
 go_wp2
 go_round
 case rel => exact ⟨k + 1, by omega, by go_num⟩
 case measure => simp [intOf]; omega) : P := h
theorem zo0 (v : Value) (l : List V.Bs) (w : World) (hv : Strs w v l) (h0 : 0 < l.length) (h1 : l.length ≤ 120) (hw : ∀ x ∈ l, x.length ≤ 32768) :
  Calls Tryz.prog 92 #[v] w fun e w' => e = .returned (.int .i64 0) /\ w' = w := by
 obtain ⟨va, vc, rfl, hat⟩ := hv
 have HA := zvb hat
 have HW := zvb hw
 clear hat hw
 have hn0 : ((l.length : Int) == 0) = false := by rw [zvf]; omega
 have hn1 : ¬ (120 : Int) < (l.length : Int) := by omega
 go_enter Tryz.func92, Tryz.ntmps92
 go_wp2
 go_loop [15] (fun iv => ∃ k : Nat, k ≤ l.length /\ iv = .int .i64 k) (fun iv => l.length - (intOf iv).toNat)
 case atStart => exact ⟨0, Nat.zero_le _, rfl⟩
 case round =>
  obtain ⟨k, hk, rfl⟩ := hrel
  by_cases hlt : k < l.length
  ·obtain ⟨b, off, rfl, hb, hc⟩ := HA.out k hlt
   have hx := HW.out _ (List.getElem_mem hlt)
   have hi1 : (0 : Int) ≤ (k : Int) := by omega
   have hi2 : (k : Int) < (l.length : Int) := by omega
   generalize l[k] = x at *
   have hxs := za8 x
   have hx2 : ¬ (32768 : Int) < (x.length : Int) := by omega
   have hx3 : ¬ (32768 : Int) < ((ByteArray.mk x.toArray).size : Int) := by rw [hxs]; omega
   exact zz4
  ·obtain rfl : k = l.length := by omega
   go_wp2
   go_ret
   exact ⟨rfl, rfl⟩
theorem zvs {P : Prop} (h : P := by
 obtain ⟨ua, uc, rfl, hus⟩ := hs
 have HU := zvb hus
 have hi1 : (0 : Int) ≤ (k : Int) := by omega
 have hi2 : (k : Int) < (ls.length : Int) := by omega
 have HT := zvb (V.zbf hlt)
 have hnext := V.zds (j := k + 1) (by omega) (zvd ls.length)
 rw [HT.out] at hnext
 obtain ⟨q, hq⟩ : ∃ q, q = V.xc ls k := ⟨_, rfl⟩
 rw [← hq] at HT htot hnext ⊢
 generalize ls[k] = l at *
 clear hus hq
 go_wp2
 go_loop [7, 40] (fun tv iv => ∃ j : Nat, j ≤ l.length /\ iv = .int .i64 j /\ tv = .int .i64 ((q + V.km l j : Nat) : Int)) (fun _ iv => l.length - (intOf iv).toNat)
 case atStart => exact ⟨0, Nat.zero_le _, rfl, rfl⟩
 case round =>
  obtain ⟨j, hj, rfl, rfl⟩ := hrel
  have hle := V.zci (l := l) hj (zvd l.length)
  by_cases hjl : j < l.length
  ·obtain ⟨b2, off2, rfl, hb2, hc2⟩ := HU.out j hjl
   have hx := HX.out.2.2 _ (List.getElem_mem hjl)
   have hl120 := HX.out.2.1
   have HT2 := zvb (V.zbv hjl)
   have hle2 := V.zci (l := l) (j := j + 1) (by omega) (zvd l.length)
   rw [HT2.out] at hle2
   have hj1 : (0 : Int) ≤ (j : Int) := by omega
   have hj2 : (j : Int) < (l.length : Int) := by omega
   generalize l[j] = x at *
   obtain ⟨r, hr⟩ : ∃ r, r = V.km l j := ⟨_, rfl⟩
   rw [← hr] at HT2 hle hle2 ⊢
   obtain ⟨z, hz⟩ : ∃ z, z = V.zal x := ⟨_, rfl⟩
   rw [← hz] at HT2 hle2
   have HZ := zvb hz
   clear hr hz
   go_wp2_with fail
   refine (zjd x w (by omega)).mono ?_
   rintro e w' ⟨rfl, rfl⟩
   rw [← HZ.out]
   go_wp2
   go_round
   case rel => exact ⟨j + 1, by omega, by go_num, by rw [HT2.out]; go_num⟩
   case measure => simp [intOf]; omega
  ·obtain rfl : j = l.length := by omega
   go_wp2
   go_round
   case rel => exact ⟨k + 1, by omega, by go_num, by rw [HT.out]⟩
   case measure => simp [intOf]; omega) : P := h
theorem zlp (v : Value) (ls : List (List V.Bs)) (w : World) (hv : Lines w v ls) (hd : V.DocOk ls) :
  Calls Tryz.prog 60 #[v] w fun e w' => ∃ u, e = .returned (.tuple #[u, .int .i64 0]) /\ Buf w.heap.size u (V.doc ls) w w' := by
 have HL := zvb hv
 obtain ⟨va, vc, rfl, hat⟩ := hv
 have HA := zvb hat
 have HD := zvb hd
 have hn := hd.lines
 have hn1 : ¬ (1000 : Int) < (ls.length : Int) := by omega
 clear hat hd
 go_enter Tryz.func60, Tryz.ntmps60
 go_wp2
 go_loop [22] (fun iv => ∃ k : Nat, k ≤ ls.length /\ iv = .int .i64 k) (fun iv => ls.length - (intOf iv).toNat)
 case atStart => exact ⟨0, Nat.zero_le _, rfl⟩
 case round =>
  obtain ⟨k, hk, rfl⟩ := hrel
  by_cases hlt : k < ls.length
  ·obtain ⟨b, off, u, rfl, hb, hc, hs⟩ := HA.out k hlt
   have HX := zvb (HD.out.line _ (List.getElem_mem hlt))
   have HS := zvb hs
   have hi1 : (0 : Int) ≤ (k : Int) := by omega
   have hi2 : (k : Int) < (ls.length : Int) := by omega
   generalize ls[k] = l at *
   clear hs
   go_wp2_with fail
   refine (zo0 u l w HS.out HX.out.1 HX.out.2.1 HX.out.2.2).mono ?_
   rintro e w' ⟨rfl, rfl⟩
   exact zz4
  ·obtain rfl : k = ls.length := by omega
   go_wp2
   go_loop [7, 34] (fun tv iv => ∃ k : Nat, k ≤ ls.length /\ iv = .int .i64 k /\ tv = .int .i64 (V.xc ls k : Nat)) (fun _ iv => ls.length - (intOf iv).toNat)
   case atStart => exact ⟨0, Nat.zero_le _, rfl, rfl⟩
   case round =>
    obtain ⟨k, hk, rfl, rfl⟩ := hrel
    have htot := V.zds (j := k) hk (zvd ls.length)
    have hmax := HD.out.size
    by_cases hlt : k < ls.length
    ·obtain ⟨b, off, u, rfl, hb, hc, hs⟩ := HA.out k hlt
     have HX := zvb (HD.out.line _ (List.getElem_mem hlt))
     exact zvs
    ·obtain rfl : k = ls.length := by omega
     have hbig : ¬ (262144 : Int) < (V.xc ls ls.length : Int) := by omega
     have HLEN : Hid (∀ k, k ≤ ls.length -> (V.ze5 ls k).length = V.xc ls k) := zvb (V.zei (fun l hl => (HD.out.line l hl).1))
     obtain ⟨q, hq⟩ : ∃ q, q = V.xc ls ls.length := ⟨_, rfl⟩
     rw [← hq] at hbig hmax ⊢
     have HQ := zvb hq
     clear hlt hk htot hq
     go_wp2_with (first | (refine ztm rfl _ rfl w.heap.size q w (zve _ _) (zvd _) rfl (by omega) ?_; intro w1 hb1) | fail)
     have HB1 := zvb hb1
     clear hb1 hbig
     go_loopw [12, 57] (fun ov iv wx => ∃ k : Nat, k ≤ ls.length /\ iv = .int .i64 k /\ Buf w.heap.size ov (V.ze5 ls k) w wx) (fun _ iv _ => ls.length - (intOf iv).toNat)
     case atStart => exact ⟨0, Nat.zero_le _, rfl, HB1.out⟩
     case round =>
      obtain ⟨k, hk, rfl, hbuf⟩ := hrel
      have HB := zvb hbuf
      obtain ⟨oa, oc, rfl⟩ := hbuf.slice
      clear hbuf HB1
      by_cases hlt : k < ls.length
      ·have HST := zvb (V.zj8 hlt)
       have hlen1 : (V.ze5 ls k).length + (V.line ls[k]).length ≤ 262144 := by
        have h1 := HLEN.out (k + 1) (by omega)
        have h2 := V.zds (ls := ls) (j := k + 1) (by omega) (zvd ls.length)
        rw [HST.out, List.length_append] at h1
        have := HQ.out
        omega
       obtain ⟨b, off, u, rfl, hb0, hc0, hs⟩ := HA.out k hlt
       have hc := (HB.out.2.1.cell (p := ⟨b, off + k, none⟩) hb0).trans hc0
       have HS := zvb hs
       obtain ⟨ua, uc, rfl, _⟩ := hs
       clear hb0 hc0
       have HX := zvb (HD.out.line _ (List.getElem_mem hlt))
       have hi1 : (0 : Int) ≤ (k : Int) := by omega
       have hi2 : (k : Int) < (ls.length : Int) := by omega
       have HLN : Hid (V.line ls[k] = V.xg ls[k] ls[k].length ++ [10]) := zvb rfl
       have hll : (V.line ls[k]).length = (V.xg ls[k] ls[k].length).length + 1 := by unfold V.line; simp
       obtain ⟨A, hA⟩ : ∃ A, A = V.ze5 ls k := ⟨_, rfl⟩
       rw [← hA] at HST hlen1 HB ⊢
       generalize ls[k] = l at *
       clear hA
       go_wp2
       go_loopw [12, 63] (fun ov iv wx => ∃ j : Nat, j ≤ l.length /\ iv = .int .i64 j /\ Buf w.heap.size ov (A ++ V.xg l j) w wx) (fun _ iv _ => l.length - (intOf iv).toNat)
       case atStart => exact ⟨0, Nat.zero_le _, rfl, by rw [show V.xg l 0 = [] from rfl, List.append_nil]; exact HB.out⟩
       case round =>
        obtain ⟨j, hj, rfl, hbuf⟩ := hrel
        have HB2 := zvb hbuf
        obtain ⟨oa2, oc2, rfl⟩ := hbuf.slice
        clear hbuf HB hc
        by_cases hjl : j < l.length
        ·obtain ⟨ua2, uc2, e2, hat2⟩ := HS.out
         cases e2
         obtain ⟨b2, off2, rfl, hb2, hc0⟩ := hat2 j hjl
         have hc2 := (HB2.out.2.1.cell (p := ⟨b2, off2 + j, none⟩) hb2).trans hc0
         have hx := HX.out.2.2 _ (List.getElem_mem hjl)
         have hl120 := HX.out.2.1
         have hj1 : (0 : Int) ≤ (j : Int) := by omega
         have hj2 : (j : Int) < (l.length : Int) := by omega
         have HT2 := zvb (V.zbt l j)
         have hg : l.getD j [] = l[j] := by rw [List.getD_eq_getElem?_getD, List.getElem?_eq_getElem hjl]; rfl
         rw [hg] at HT2
         have hlen2 : A.length + (V.xg l j).length ≤ 270000 := by
          have h1 := (V.zfd (l := l) j hj).1
          have h2 := V.zci (l := l) hj (zvd l.length)
          have h3 := V.zp9 (l := l) HX.out.1
          omega
         obtain ⟨M, hM⟩ : ∃ M, M = A ++ V.xg l j := ⟨_, rfl⟩
         have HM := zvb hM
         have hml : M.length ≤ 270000 := by rw [hM, List.length_append]; exact hlen2
         rw [← hM] at HB2 ⊢
         generalize l[j] = x at *
         clear hat2 hc0 hM hg hlen2 hb2
         by_cases hj0 : j = 0
         ·subst hj0
          rw [Nat.add_zero] at hc2
          go_wp2_with fail
          refine (zjr x wr (by omega)).mono ?_
          rintro e w3 ⟨rfl, hb3⟩
          have HB3 := zvb (HB2.out.below hb3)
          have hwl := V.zb5 x
          have hwl2 := V.zae x
          clear hb3 HB2
          go_wp2_with (first | (refine zs0 rfl _ _ rfl w.heap.size (.slice oa2 M.length oc2) M w rfl HB3.out (V.word x) rfl (by omega) ?_; intro v9 w9 hb9) | fail)
          have HB9 := zvb hb9
          clear hb9 hwl hwl2
          go_wp2
          go_roundw
          case rel => exact ⟨0 + 1, by omega, by go_num, by
            have := HB9.out
            rw [HM.out, List.append_assoc] at this
            rw [HT2.out]
            exact this⟩
          case measure => simp [intOf]; omega
         ·have hjp : (0 : Int) < (j : Int) := by omega
          have hb4 : Below wr.heap.size wr (wr.alloc (.cells #[.int .u8 32] 5)) := (zve _ wr).alloc (zvd _) _
          have HB4 := zvb (HB2.out.below hb4)
          have HBN := zvb (za4 [32] wr)
          clear hb4
          go_wp2_with (first | (refine zdp rfl _ _ rfl w.heap.size (.slice oa2 M.length oc2) M w rfl HB4.out wr.heap.size 1 [32] rfl HBN.out (by simp; omega) ?_; intro v5 w5 hb5) | fail)
          replace HB2 := zvb hb5
          clear hb5 HB4 HBN hc2
          refine (zjr x w5 (by omega)).mono ?_
          rintro e w3 ⟨rfl, hb3⟩
          have HB3 := zvb (HB2.out.below hb3)
          have hwl := V.zb5 x
          have hwl2 := V.zae x
          clear hb3 HB2
          go_wp2_with (first | (refine zs0 rfl _ _ rfl w.heap.size v5 (M ++ [32]) w rfl HB3.out (V.word x) rfl (by simp; omega) ?_; intro v9 w9 hb9) | fail)
          have HB9 := zvb hb9
          clear hb9 hwl hwl2
          go_wp2
          go_roundw
          case rel => exact ⟨j + 1, by omega, by go_num, by
            have := HB9.out
            rw [HM.out, List.append_assoc, List.append_assoc] at this
            rw [HT2.out, if_neg hj0]
            exact this⟩
          case measure => simp [intOf]; omega
        ·obtain rfl : j = l.length := by omega
         have hlen3 : (A ++ V.xg l l.length).length ≤ 270000 := by rw [List.length_append]; omega
         have hA10 : A ++ V.line l = (A ++ V.xg l l.length) ++ [10] := by rw [HLN.out, List.append_assoc]
         rw [hA10] at HST
         obtain ⟨M, hM⟩ : ∃ M, M = A ++ V.xg l l.length := ⟨_, rfl⟩
         rw [← hM] at HB2 HST hlen3 ⊢
         have hb4 : Below wr.heap.size wr (wr.alloc (.cells #[.int .u8 10] 5)) := (zve _ wr).alloc (zvd _) _
         have HB4 := zvb (HB2.out.below hb4)
         have HBN := zvb (za4 [10] wr)
         clear hb4 hA10 hM HB2
         go_wp2_with (first | (refine zdp rfl _ _ rfl w.heap.size (.slice oa2 M.length oc2) M w rfl HB4.out wr.heap.size 1 [10] rfl HBN.out (by simp; omega) ?_; intro v5 w5 hb5) | fail)
         have HB5 := zvb hb5
         clear hb5 HB4 HBN
         go_wp2
         go_roundw
         case rel => exact ⟨k + 1, by omega, by go_num, by rw [HST.out]; exact HB5.out⟩
         case measure => simp [intOf]; omega
      ·obtain rfl : k = ls.length := by omega
       rw [V.zg4] at HB ⊢
       go_wp2
       go_ret2
       exact ⟨_, rfl, HB.out⟩
section
variable {α : Type} {enc : α -> List Value} {k : Nat}
theorem zfs (hk : ∀ x, (enc x).length = k) : ∀ {l : List α} (j : Nat) (h : j < l.length) (i : Nat), i < k -> (l.flatMap enc)[j * k + i]? = (enc l[j])[i]?
 | [], j, h, _, _ => by simp at h
 | c :: l, 0, _, i, hi => by
  rw [List.flatMap_cons, List.getElem?_append_left (by rw [hk]; omega)]
  simp
 | c :: l, j + 1, h, i, hi => by
  have hl := hk c
  have e : (j + 1) * k = j * k + k := Nat.succ_mul j k
  rw [List.flatMap_cons, List.getElem?_append_right (by rw [hl]; omega), hl, show (j + 1) * k + i - k = j * k + i by omega]
  rw [zfs hk j (by simpa using h) i hi]
  simp
theorem zcl (hk : ∀ x, (enc x).length = k) : ∀ (l : List α), (l.flatMap enc).length = l.length * k
 | [] => by simp
 | c :: l => by
  have e : (l.length + 1) * k = l.length * k + k := Nat.succ_mul _ k
  rw [List.flatMap_cons, List.length_append, hk, zcl hk l, List.length_cons]
  omega
def GRow (T : TypeId) (k : Nat) (enc : α -> List Value) (w : World) (N : Nat) (v : Value) (l : List α) : Prop := w.ownsRow N T k v l.length (l.flatMap enc)
variable {T : TypeId}
theorem GRow.nil (w : World) (N : Nat) : GRow T k enc w N (.slice none 0 0) [] := ⟨by simp, .inl ⟨rfl, rfl⟩⟩
theorem GRow.slice {w : World} {N : Nat} {v : Value} {l : List α} (h : GRow T k enc w N v l) : ∃ a cap, v = .slice a l.length cap := by
 rcases h.2 with ⟨rfl, hn⟩ | ⟨g, cap, cur, rfl, _⟩
 ·exact ⟨none, 0, by rw [hn]⟩
 ·exact ⟨_, cap, rfl⟩
theorem zb9 {w : World} {g i : Nat} {cur : Array Value} {fr : Nat × Nat} (hg : w.heap[g]? = some (.cells cur T fr)) : w.cell? ⟨g, i, none⟩ = cur[i]? := by
 unfold World.cell?
 rw [hg]
 rfl
theorem GRow.at (hk : ∀ x, (enc x).length = k) {w : World} {N : Nat} {v : Value} {l : List α} (h : GRow T k enc w N v l) (j : Nat) (hj : j < l.length) :
  ∃ g cap, v = .slice (some ⟨g, 0, none⟩) l.length cap /\ N ≤ g /\ g < w.heap.size /\ ∀ i u, (enc l[j])[i]? = some u -> w.cell? ⟨g, j * k + i, none⟩ = some u := by
 rcases h.2 with ⟨rfl, hn⟩ | ⟨g, cap, cur, rfl, hb, hg, hnc, hm, hsz, htk⟩
 ·omega
 ·refine ⟨g, cap, rfl, hb, (Array.getElem?_eq_some_iff.1 hg).1, fun i u hu => ?_⟩
  have hi : i < k := by
   have := (List.getElem?_eq_some_iff.1 hu).1
   rwa [hk] at this
  rw [zb9 hg]
  have h1 := zfs hk j hj i hi
  rw [hu, ← htk, List.getElem?_take] at h1
  split at h1
  ·simpa using h1
  ·cases h1
theorem GRow.kept {w w' : World} {N : Nat} {v : Value} {l : List α} (h : GRow T k enc w N v l) {row : Option Nat} (hg : w.grownBy w' row) (hr : ∀ b, row = some b -> b < N) : GRow T k enc w' N v l := by
 refine ⟨h.1, ?_⟩
 rcases h.2 with h | ⟨g, cap, cur, rfl, hb, hgg, rest⟩
 ·exact .inl h
 ·refine .inr ⟨g, cap, cur, rfl, hb, ?_, rest⟩
  rw [hg.block g (Array.getElem?_eq_some_iff.1 hgg).1 (fun e => by have := hr g e.symm; omega)]
  exact hgg
theorem GRow.below {w w' : World} {N : Nat} {v : Value} {l : List α} (h : GRow T k enc w N v l) (hb : Below w.heap.size w w') : GRow T k enc w' N v l :=
 h.kept (row := none) ⟨hb.os, hb.tape, hb.output, hb.size, fun k hk _ => hb.block k hk⟩ (fun b e => by cases e)
theorem GRow.block {w : World} {N : Nat} {v : Value} {l : List α} (h : GRow T k enc w N v l) : ∀ b, v.ownBlock = some b -> N ≤ b := by
 intro b hb
 rcases h.2 with ⟨rfl, _⟩ | ⟨g, cap, cur, rfl, hbb, _⟩
 ·cases hb
 ·simp [Value.ownBlock] at hb; omega
theorem zn {w w' : World} {N B : Nat} {v : Value} (h : w.grownBy w' v.ownBlock) (hv : ∀ b, v.ownBlock = some b -> N ≤ b) (hBN : B ≤ N) (hB : N ≤ w.heap.size) : Below B w w' :=
 ⟨h.os, h.tape, h.output, h.size, fun k hk => h.block k (by omega) (fun e => by have := hv k e.symm; omega)⟩
theorem zm {w w' : World} {v : Value} (h : w.grownBy w' v.ownBlock) {N b o : Nat} {u : Value} (hv : ∀ b, v.ownBlock = some b -> N ≤ b) (hb : b < N) (hc : w.cell? ⟨b, o, none⟩ = some u) : w'.cell? ⟨b, o, none⟩ = some u :=
 h.cell hc (fun e => by have := hv _ e.symm; simp at this; omega)
theorem GRow.lt {w : World} {N : Nat} {v : Value} {l : List α} (h : GRow T k enc w N v l) : ∀ b, v.ownBlock = some b -> b < w.heap.size := fun b hb => (World.ownsRow.lt h b hb).2
theorem ye {w w' : World} {v : Value} (h : w.grownBy w' v.ownBlock) {b o : Nat} {u : Value} (hv : ∀ c, v.ownBlock = some c -> c < b) (hc : w.cell? ⟨b, o, none⟩ = some u) : w'.cell? ⟨b, o, none⟩ = some u :=
 h.cell hc (fun e => by have := hv _ e.symm; simp at this)
theorem kr {w w' : World} {v : Value} (h : w.grownBy w' v.ownBlock) {N i : Nat} {o : Obj} (hv : ∀ b, v.ownBlock = some b -> N ≤ b) (hi : i < N) (ho : w.heap[i]? = some o) : w'.heap[i]? = some o :=
 (h.block i (Array.getElem?_eq_some_iff.1 ho).1 (fun e => by have := hv _ e.symm; omega)).trans ho
def xq (T : TypeId) (k bytes : Nat) : Prop := ∃ i z, Tryz.prog.info? T = some i /\ i.zero = some z /\ i.size = k /\ i.bytes = bytes /\ z.cells.size = k
theorem zzv {P : Prop} (h : P := by
 unfold GRow
 rw [List.length_append, List.flatMap_append]
 simpa using ho') : P := h
theorem zr {ops : Array Oper} {rest : List Oper} {o : Oper} {a : Act} {w : World} {Q : Exit -> Act -> World -> Prop} (hk : ∀ x, (enc x).length = k) (hk0 : 0 < k) (h1c : ∀ x, ∀ u ∈ enc x, u.oneCell' = true) {bytes : Nat} (hi : xq T k bytes) (hby : bytes ≤ 1000) (hgd : o.guard = none) (s x : Operand) (S : TypeId)
  (ho : o.op = .call { callee := .builtin .append, args := #[s, x], argTypes := #[S, S] }) (hu : Tryz.prog.underlying S = some (.slice T))
  (N : Nat) (v : Value) (l : List α) (hs : a.eval s = v) (hown : GRow T k enc w N v l) (b : Nat) (c : α) (hx : a.eval x = .slice (some ⟨b, 0, none⟩) 1 1) (hr : ∀ j u, (enc c)[j]? = some u -> w.cell? ⟨b, j, none⟩ = some u) (hl : l.length ≤ 1000000) (hN : N ≤ w.heap.size)
  (h : ∀ v' w', GRow T k enc w' N v' (l ++ [c]) -> w.grownBy w' v.ownBlock -> wpList Tryz.prog ops Q rest (a.put o.dst v') w') : wpList Tryz.prog ops Q (o :: rest) a w := by
 obtain ⟨ie, z, hie, hz, h1, h2, h3⟩ := hi
 refine wpList_append_own w hgd s x S ho N T ie z k bytes hu hie hz h1 h2 h3 hk0 v l.length (l.flatMap enc) hs hown ⟨b, 0, none⟩ 1 1 (enc c) hx (by rw [hk]; omega) ?_ (h1c c) (by unfold maxLen; omega) ?_ hN ?_
 ·intro j u hj
  rw [Addr.add_mid, Nat.zero_add]
  exact hr j u hj
 ·have : (l.length + 1) * bytes ≤ 1000001 * 1000 := Nat.mul_le_mul (by omega) hby
  omega
 ·intro v' w' ho' hg _
  refine h v' w' ?_ hg
  exact zzv
end
open Go.RowKit
structure PutAt (w W : World) (g : Nat) (new : Array Value) (t : TypeId) : Prop where
 here : W.heap[g]? = some (.cells new t (0, 0))
 size : W.heap.size = w.heap.size
 grown : w.grownBy W (some g)
theorem PutAt.below {w w0 W : World} {g B : Nat} {new : Array Value} {t : TypeId} (h : PutAt w W g new t) (hb : Below B w0 w) (hg : B ≤ g) : Below B w0 W :=
 hb.trans ⟨h.grown.os, h.grown.tape, h.grown.output, h.grown.size, fun k hk => h.grown.block k (by
   by_cases e : k < w.heap.size
   · exact e
   · have : w.heap[k]? = none := Array.getElem?_eq_none (by omega)
     have h2 : W.heap[k]? = none := Array.getElem?_eq_none (by rw [h.size]; omega)
     exfalso
     have := (Array.getElem?_eq_some_iff.1 h.here).1
     rw [h.size] at this
     omega) (fun e => by cases e; omega)⟩
theorem PutAt.other {w W : World} {g i : Nat} {new : Array Value} {t : TypeId} {o : Obj} (h : PutAt w W g new t) (hi : w.heap[i]? = some o) (hne : i ≠ g) : W.heap[i]? = some o :=
 (h.grown.block i (Array.getElem?_eq_some_iff.1 hi).1 (fun e => hne (by cases e; rfl))).trans hi
theorem PutAt.cell {w W : World} {g b o : Nat} {new : Array Value} {t : TypeId} {u : Value} (h : PutAt w W g new t) (hc : w.cell? ⟨b, o, none⟩ = some u) (hne : b ≠ g) : W.cell? ⟨b, o, none⟩ = some u :=
 h.grown.cell hc (fun e => hne (by cases e; rfl))
theorem PutAt.row {α : Type} {enc : α -> List Value} {k : Nat} {T : TypeId} {w W : World} {g N : Nat} {new : Array Value} {t : TypeId} {v : Value} {l : List α} (h : PutAt w W g new t) (hr : GRow T k enc w N v l) (hg : g < N) : GRow T k enc W N v l :=
 hr.kept h.grown (fun b e => by cases e; exact hg)
theorem zg1 {w : World} {g o : Nat} {old : Array Value} {t : TypeId} (hg : w.heap[g]? = some (.cells old t (0, 0))) (v : Value) : PutAt w (w.setCell ⟨g, o, none⟩ v) g (old.setIfInBounds o v) t :=
 ⟨heap_setCell_same w g o old t v hg, by simp [World.setCell], ⟨rfl, rfl, rfl, by simp [World.setCell], fun k _ hk => Below.heap_setCell _ _ _ _ (fun e => hk (by rw [e]))⟩⟩
theorem zpj {w : World} {g : Nat} {old new : Array Value} {t : TypeId} (hg : w.heap[g]? = some (.cells old t (0, 0))) : (w.setRow g new).heap[g]? = some (.cells new t (0, 0)) := by
 have hlt := (Array.getElem?_eq_some_iff.1 hg).1
 have hv := (Array.getElem?_eq_some_iff.1 hg).2
 unfold World.setRow
 rw [Array.getElem?_eq_getElem (by simpa using hlt), Array.getElem_modify]
 simp [hv]
theorem zuk {w : World} {g : Nat} {old new : Array Value} {t : TypeId} (hg : w.heap[g]? = some (.cells old t (0, 0))) : PutAt w (w.setRow g new) g new t :=
 ⟨zpj hg, by simp, ⟨rfl, rfl, rfl, by simp, fun k _ hk => setRow_other w g k new (fun e => hk (by rw [e]))⟩⟩
theorem zy2 {P : Prop} (h : P := by
 have hs : i.size = 1 := by simpa [hq] using hi
 simp only [Nat.add_zero] at this
 simp [storeVar, sizeOf, typeInfo, hq, hcs, hs, this]
 rfl) : P := h
theorem run_set1 {P : Program} {w : World} {b o : Nat} {ty : TypeId} {v u : Value} (hc : w.cell? ⟨b, o, none⟩ = some u) (hf : w.frozen? ⟨b, o, none⟩ = false) (hi : (P.info? ty).map (·.size) = some 1) (h1 : v.oneCell' = true) :
  (storeVar ty ⟨b, o, none⟩ v).run P w = .ok () (w.setCell ⟨b, o, none⟩ v) := by
 have := run_storeCells_cells (P := P) b o [v] 0 w (fun j hj => by obtain rfl : j = 0 := by simpa using hj
                                                                   simp [hc]) (fun j hj => by obtain rfl : j = 0 := by simpa using hj
                                                                                              simp [hf]) (fun x hx => by simp at hx; subst hx; exact h1)
 have hcs : v.cells = #[v] := by cases v <;> first | rfl | cases h1
 cases hq : P.info? ty with
 | none => simp [hq] at hi
 | some i =>
  exact zy2
theorem ws {ops : Array Oper} {rest : List Oper} {o : Oper} {a : Act} {w : World} {Q : Exit -> Act -> World -> Prop} (hgd : o.guard = none) (ty : TypeId) (x y : Operand) (ho : o.op = .store ty x y)
  (g off : Nat) (old : Array Value) (t : TypeId) (hg : w.heap[g]? = some (.cells old t (0, 0))) (hoff : off < old.size) (hx : a.eval x = .pointer (some ⟨g, off, none⟩)) (v : Value) (hy : a.eval y = v) (hi : (Tryz.prog.info? ty).map (·.size) = some 1) (h1 : v.oneCell' = true)
  (h : ∀ W, PutAt w W g (old.setIfInBounds off v) t -> wpList Tryz.prog ops Q rest (a.put o.dst undef) W) : wpList Tryz.prog ops Q (o :: rest) a w :=
 wpList_plain hgd fun K hK => by
  have hc : w.cell? ⟨g, off, none⟩ = some old[off] := by rw [zva hg, Array.getElem?_eq_getElem hoff]
  unfold Oper.wp execOp
  simp only [ho, hx, hy, Instr.storeAt, Instr.sureAddr, Sem.run_bind, Sem.run_pure, Result.andThen_ok, run_set1 hc (Lib.frozen_of_heap hg off) hi h1]
  exact hK _ _ (h _ (zg1 hg v))
theorem zk {ops : Array Oper} {rest : List Oper} {o : Oper} {a : Act} {w : World} {Q : Exit -> Act -> World -> Prop} (hgd : o.guard = none) (ty : TypeId) (x y : Operand) (ho : o.op = .store ty x y)
  (g : Nat) (old : Array Value) (t : TypeId) (hg : w.heap[g]? = some (.cells old t (0, 0))) (hx : a.eval x = .pointer (some ⟨g, 0, none⟩)) (new : Array Value) (hy : a.eval y = .agg new) (hs : old.size = new.size) (hi : (Tryz.prog.info? ty).map (·.size) = some new.size) (h1 : new.all (·.oneCell') = true)
  (h : ∀ W, PutAt w W g new t -> wpList Tryz.prog ops Q rest (a.put o.dst undef) W) : wpList Tryz.prog ops Q (o :: rest) a w :=
 wpList_store_row hgd ty x y ho g new hx hy t old hg hi hs h1 (h _ (zuk hg))
end Go.Proofs.YtnhfaincdabdkaaGreatDoor
