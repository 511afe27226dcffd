/-
  Lemmas for the law.
-/
import Derived.Test.YtiloljoancdcbaaGreatDoorC40x17
import Derived.Test.YtiloljoancdcbaaGreatDoorC40x03
set_option linter.all false
set_option maxRecDepth 100000
set_option maxHeartbeats 3200000
namespace Go.Proofs.YtiloljoancdcbaaGreatDoor
open Go.RowKit
theorem zna {l : V.Bs} {k : Nat} (h : k < l.length) : (l.take (k + 1)).flatMap V.encB = (l.take k).flatMap V.encB ++ V.encB l[k] := by
 rw [List.take_succ_eq_append_getElem h, List.flatMap_append]
 simp
theorem zuc (l : V.Bs) (k : Nat) : ((l.take k).flatMap V.encB).length ≤ 3 * l.length := by
 rw [V.zkg]
 exact zte l k
theorem zop {n : Nat} (h : n < 16) : (ByteArray.mk #[48, 49, 50, 51, 52, 53, 54, 55, 56, 57, 65, 66, 67, 68, 69, 70]).data.toList[n]? = some (V.digU.getD n 0) := by
 have : ∀ m : Fin 16, (ByteArray.mk #[48, 49, 50, 51, 52, 53, 54, 55, 56, 57, 65, 66, 67, 68, 69, 70]).data.toList[m.val]? = some (V.digU.getD m.val 0) := by decide
 exact this ⟨n, h⟩
theorem zxf {P : Prop} (h : P := by
 have HN : Hid ((s.data.toList.take (k + 1)).flatMap V.encB = L ++ [c]) := zvq (by rw [HT.out]; unfold V.encB; rw [hp]; rfl)
 clear hp HT
 have HB2 : Hid (Buf w'.heap.size (.slice oa L.length oc) L w' (w2.alloc (.cells #[.int .u8 s[k].toNat] 5))) := zvq (HB.out.below ((zvt _ w2).alloc (zvs _) _))
 go_wp2_with (first | (refine zai rfl _ _ rfl w'.heap.size (.slice oa L.length oc) L w' rfl HB2.out w2.heap.size 1 [c] rfl ?_ (by simp; omega) ?_; rotate_left; intro v9 w9 hb9) | fail)
 ·have HB9 := zvq hb9
  clear hb9
  go_wp2
  go_roundw
  case rel => exact ⟨k + 1, by omega, by go_num, by rw [HN.out]; exact HB9.out⟩
  case measure => simp [intOf]; omega
 ·rw [← HC.out]
  exact ku [c] w2) : P := h
theorem zxw {P : Prop} (h : P := by
 obtain rfl : k = s.size := by omega
 have ht : s.data.toList.take s.size = s.data.toList := List.take_of_length_le (by omega)
 rw [ht, ← HW.out] at HB
 have hcv := zcn HB.out (by rw [V.vm]; have := HP.out; unfold V.wj; omega)
 have hll : ((s.data.toList.take s.size).flatMap V.encB).length = (V.word s.data.toList).length := by rw [ht, HW.out]
 rw [hll] at *
 have HBL := zvq HB.out.2.1
 go_wp2
 go_ret
 exact ⟨rfl, HBL.out⟩) : P := h
theorem zx9 {P : Prop} (h : P := by
 go_wp2
 go_roundw
 case rel => exact ⟨k + 1, by omega, by go_num, by rw [HN.out]; exact HB9.out⟩
 case measure => simp [intOf]; omega) : P := h
theorem zp5 (s : ByteArray) (w : World) (hs : s.size ≤ 100000) : Calls Tryz.prog 56 #[.string s] w fun e w' => e = .returned (.string ⟨(V.word s.data.toList).toArray⟩) /\ Below w.heap.size w w' := by
 by_cases h0 : s.data.toList = []
 ·have hs0 : s = ⟨#[]⟩ := jj (by rw [h0])
  subst hs0
  go_enter Tryz.func56, Tryz.ntmps56
  go_wp2
  go_ret
  exact ⟨rfl, zvt _ _⟩
 ·have hse : s.toList.isEmpty = false := by
   rw [Lib.toList_data]
   cases hq : s.data.toList with
   | nil => exact absurd hq h0
   | cons c r => rfl
  have HW : Hid (V.word s.data.toList = s.data.toList.flatMap V.encB) := zvq (by
    unfold V.word
    cases hq : s.data.toList with
    | nil => exact absurd hq h0
    | cons c r => rw [List.isEmpty_cons, if_neg (by decide)])
  have HP : Hid (0 < s.data.toList.length) := zvq (List.length_pos_iff.2 h0)
  have hsz := V.xk s.data.toList
  rw [zf] at hsz
  clear h0
  go_enter Tryz.func56, Tryz.ntmps56
  go_wp2_with fail
  refine (zh6 s w hs).mono ?_
  rintro e w' ⟨rfl, rfl⟩
  clear hse
  go_wp2_with (first | (refine zt8 rfl _ rfl w'.heap.size (V.wj s.data.toList) w' (zvt _ _) (zvs _) rfl (by omega) ?_; intro w1 hb1) | fail)
  have HB1 := zvq hb1
  clear hb1
  go_wp2
  go_loopw [3, 4] (fun ov iv wx => ∃ k : Nat, k ≤ s.size /\ iv = .int .i64 k /\ Buf w'.heap.size ov ((s.data.toList.take k).flatMap V.encB) w' wx) (fun _ iv _ => s.size - (intOf iv).toNat)
  case atStart => exact ⟨0, Nat.zero_le _, rfl, HB1.out⟩
  case round =>
   obtain ⟨k, hk, rfl, hb⟩ := hrel
   have HB := zvq hb
   obtain ⟨oa, oc, rfl⟩ := hb.slice
   have hl := zf s
   have hle := zuc s.data.toList k
   rw [hl] at hle
   clear hb HB1
   by_cases hlt : k < s.size
   ·have HT := zvq (zna (l := s.data.toList) (k := k) (by omega))
    have he : s.data.toList[k]'(by omega) = s[k] := by simp; rfl
    rw [he] at HT
    have hs1 : (0 : Int) ≤ (k : Int) := by omega
    have hs2 : (k : Int) < (s.size : Int) := by omega
    obtain ⟨L, hL⟩ : ∃ L, L = (s.data.toList.take k).flatMap V.encB := ⟨_, rfl⟩
    rw [← hL] at HT hle HB ⊢
    obtain ⟨c, hc⟩ : ∃ c, c = s[k] := ⟨_, rfl⟩
    have HCI : Hid (s.data.toList[((k : Int)).toNat]? = some c) := zvq (by rw [Int.toNat_natCast, List.getElem?_eq_getElem (by omega), he, ← hc])
    have hc256 := c.toNat_lt
    have HD1 : Hid ((ByteArray.mk #[48, 49, 50, 51, 52, 53, 54, 55, 56, 57, 65, 66, 67, 68, 69, 70]).data.toList[(((c.toNat / 16 : Nat) : Int)).toNat]? = some (V.digU.getD (c.toNat / 16) 0)) := zvq (by rw [Int.toNat_natCast]; exact zop (by omega))
    have HD2 : Hid ((ByteArray.mk #[48, 49, 50, 51, 52, 53, 54, 55, 56, 57, 65, 66, 67, 68, 69, 70]).data.toList[(((c.toNat % 16 : Nat) : Int)).toNat]? = some (V.digU.getD (c.toNat % 16) 0)) := zvq (by rw [Int.toNat_natCast]; exact zop (by omega))
    rw [← hc] at HT
    have HC := zvq hc
    clear he hl hL hc
    go_wp2_with fail
    rw [← HC.out]
    refine (zaz c wr).mono ?_
    rintro e w2 ⟨rfl, rfl⟩
    rcases hp : V.jd c with _ | _
    ·have HN : Hid ((s.data.toList.take (k + 1)).flatMap V.encB = L ++ [37, V.digU.getD (c.toNat / 16) 0, V.digU.getD (c.toNat % 16) 0]) := zvq (by rw [HT.out]; unfold V.encB; rw [hp]; rfl)
     clear hp HT
     go_wp2_with fail
     refine wp_region_any (by kernel_rfl) ?_
     change wpAny _ _ _ _ _ _ _ (World.drew _)
     have HB3 := zvq (HB.out.below (zvt _ w2).drew)
     clear HB
     generalize w2.drew = w3 at *
     refine wpAny_take (i := 0) (v := .slice oa L.length oc) rfl (by kernel_rfl) (by kernel_rfl) (by kernel_rfl) (fun _ _ _ h => h) (Or.inl ⟨by rfl, fun W => by go_simp⟩) ?_
     refine wpAny_take (i := 1) (v := .string s) rfl (by kernel_rfl) (by kernel_rfl) (by kernel_rfl) (fun _ _ _ h => h) (Or.inl ⟨by rfl, fun W => by go_simp⟩) ?_
     refine wpAny_take (i := 2) (v := .int .i64 k) rfl (by kernel_rfl) (by kernel_rfl) (by kernel_rfl) (fun _ _ _ h => h) (Or.inl ⟨by rfl, fun W => by go_simp⟩) ?_
     refine wpAny_take (i := 6) (v := .string s) rfl (by kernel_rfl) (by kernel_rfl) (by kernel_rfl) (fun _ _ _ h => h) (Or.inl ⟨by rfl, fun W => by go_simp⟩) ?_
     refine wpAny_take (i := 7) (v := .int .i64 k) rfl (by kernel_rfl) (by kernel_rfl) (by kernel_rfl) (fun _ _ _ h => h) (Or.inl ⟨by rfl, fun W => by go_simp⟩) ?_
     simp only [zvl, zvm, zvn, Act.put, zvo, List.set_cons_succ, List.set_cons_zero]
     refine wpAny_take (i := 3) (v := .int .u8 c.toNat) rfl (by kernel_rfl) (by kernel_rfl) (by kernel_rfl) (fun _ _ _ h => h) (Or.inl ⟨by rfl, fun W => xu rfl rfl rfl hs1 HCI.out⟩) ?_
     refine wpAny_take (i := 8) (v := .int .u8 c.toNat) rfl (by kernel_rfl) (by kernel_rfl) (by kernel_rfl) (fun _ _ _ h => h) (Or.inl ⟨by rfl, fun W => xu rfl rfl rfl hs1 HCI.out⟩) ?_
     simp only [zvl, zvm, zvn, Act.put, zvo, List.set_cons_succ, List.set_cons_zero]
     refine wpAny_take (i := 4) (v := .int .u8 ((c.toNat / 16 : Nat) : Int)) rfl (by kernel_rfl) (by kernel_rfl) (by kernel_rfl) (fun _ _ _ h => h) (Or.inl ⟨by rfl, fun W => zug rfl rfl rfl⟩) ?_
     refine wpAny_take (i := 9) (v := .int .u8 ((c.toNat % 16 : Nat) : Int)) rfl (by kernel_rfl) (by kernel_rfl) (by kernel_rfl) (fun _ _ _ h => h) (Or.inl ⟨by rfl, fun W => zqo rfl rfl rfl⟩) ?_
     simp only [zvl, zvm, zvn, Act.put, zvo, List.set_cons_succ, List.set_cons_zero]
     refine wpAny_take (i := 5) (v := .int .u8 (V.digU.getD (c.toNat / 16) 0).toNat) rfl (by kernel_rfl) (by kernel_rfl) (by kernel_rfl) (fun _ _ _ h => h) (Or.inl ⟨by rfl, fun W => xu rfl rfl rfl (by omega) HD1.out⟩) ?_
     refine wpAny_take (i := 10) (v := .int .u8 (V.digU.getD (c.toNat % 16) 0).toNat) rfl (by kernel_rfl) (by kernel_rfl) (by kernel_rfl) (fun _ _ _ h => h) (Or.inl ⟨by rfl, fun W => xu rfl rfl rfl (by omega) HD2.out⟩) ?_
     simp only [zvl, zvm, zvn, Act.put, zvo, List.set_cons_succ, List.set_cons_zero]
     refine wpAny_all (rs := [11]) (by kernel_rfl) (by simp) ?_
     intro i0 hi0
     obtain rfl : i0 = 11 := by simpa using hi0
     clear hi0
     refine wpOp_step (by rfl) (fun K hK => zf3 rfl _ _ _ rfl 37 (V.digU.getD (c.toNat / 16) 0) (V.digU.getD (c.toNat % 16) 0) rfl rfl rfl (hK _ _ ?_))
     clear hK K
     have HBN := zvq (ku [37, V.digU.getD (c.toNat / 16) 0, V.digU.getD (c.toNat % 16) 0] w3)
     have HB4 := zvq (HB3.out.below ((zvt _ w3).alloc (zvs _) (.cells (bvals [37, V.digU.getD (c.toNat / 16) 0, V.digU.getD (c.toNat % 16) 0]).toArray 5)))
     clear HB3
     generalize w3.alloc (.cells (bvals [37, V.digU.getD (c.toNat / 16) 0, V.digU.getD (c.toNat % 16) 0]).toArray 5) = w4 at *
     simp only [zvl, zvm, zvn, Act.put, zvo, List.set_cons_succ, List.set_cons_zero]
     refine wpAny_all (rs := [12]) (by kernel_rfl) (by simp) ?_
     intro i0 hi0
     obtain rfl : i0 = 12 := by simpa using hi0
     clear hi0
     refine wpOp_step (by rfl) (fun K hK => ?_)
     refine zkm rfl _ _ rfl w'.heap.size (.slice oa L.length oc) L w' rfl HB4.out w3.heap.size 3 [37, V.digU.getD (c.toNat / 16) 0, V.digU.getD (c.toNat % 16) 0] rfl HBN.out (by simp; omega) ?_
     intro v9 w9 hb9
     refine hK _ _ ?_
     clear hK K
     have HB9 := zvq hb9
     clear hb9 HBN HB4
     simp only [zvl, zvm, zvn, Act.put, zvo, List.set_cons_succ, List.set_cons_zero]
     refine wpAny_take (i := 13) (v := v9) rfl (by kernel_rfl) (by kernel_rfl) (by kernel_rfl) (fun _ _ _ h => h) (Or.inl ⟨by rfl, fun W => by go_simp⟩) ?_
     simp only [zvl, zvm, zvn, Act.put, zvo, List.set_cons_succ, List.set_cons_zero]
     refine wpAny_done (by kernel_rfl) ?_ _
     exact zx9
    ·exact zxf
   ·exact zxw
theorem zom (s : ByteArray) (w : World) (hs : s.size ≤ 100000) : Calls Tryz.prog 48 #[.string s] w fun e w' => e = .returned (.string ⟨(V.word s.data.toList).toArray⟩) /\ Below w.heap.size w w' := by
 by_cases h0 : s.data.toList = []
 ·have hs0 : s = ⟨#[]⟩ := jj (by rw [h0])
  subst hs0
  go_enter Tryz.func48, Tryz.ntmps48
  go_wp2
  go_ret
  exact ⟨rfl, zvt _ _⟩
 ·have hse : s.toList.isEmpty = false := by
   rw [Lib.toList_data]
   cases hq : s.data.toList with
   | nil => exact absurd hq h0
   | cons c r => rfl
  have HW : Hid (V.word s.data.toList = s.data.toList.flatMap V.encB) := zvq (by
    unfold V.word
    cases hq : s.data.toList with
    | nil => exact absurd hq h0
    | cons c r => rw [List.isEmpty_cons, if_neg (by decide)])
  have HP : Hid (0 < s.data.toList.length) := zvq (List.length_pos_iff.2 h0)
  have hsz := V.xk s.data.toList
  rw [zf] at hsz
  clear h0
  go_enter Tryz.func48, Tryz.ntmps48
  obtain ⟨w', hw'⟩ : ∃ w', w' = w := ⟨_, rfl⟩
  subst hw'
  have HB1 : Hid (Buf w'.heap.size (.slice none 0 0) [] w' w') := zvq (Buf.nil (zvt _ _) (zvs _))
  go_wp2
  clear hse
  go_loopw [4, 5] (fun ov iv wx => ∃ k : Nat, k ≤ s.size /\ iv = .int .i64 k /\ Buf w'.heap.size ov ((s.data.toList.take k).flatMap V.encB) w' wx) (fun _ iv _ => s.size - (intOf iv).toNat)
  case atStart => exact ⟨0, Nat.zero_le _, rfl, HB1.out⟩
  case round =>
   obtain ⟨k, hk, rfl, hb⟩ := hrel
   have HB := zvq hb
   obtain ⟨oa, oc, rfl⟩ := hb.slice
   have hl := zf s
   have hle := zuc s.data.toList k
   rw [hl] at hle
   clear hb HB1
   by_cases hlt : k < s.size
   ·have HT := zvq (zna (l := s.data.toList) (k := k) (by omega))
    have he : s.data.toList[k]'(by omega) = s[k] := by simp; rfl
    rw [he] at HT
    have hs1 : (0 : Int) ≤ (k : Int) := by omega
    have hs2 : (k : Int) < (s.size : Int) := by omega
    obtain ⟨L, hL⟩ : ∃ L, L = (s.data.toList.take k).flatMap V.encB := ⟨_, rfl⟩
    rw [← hL] at HT hle HB ⊢
    obtain ⟨c, hc⟩ : ∃ c, c = s[k] := ⟨_, rfl⟩
    have HCI : Hid (s.data.toList[((k : Int)).toNat]? = some c) := zvq (by rw [Int.toNat_natCast, List.getElem?_eq_getElem (by omega), he, ← hc])
    have hc256 := c.toNat_lt
    have HD1 : Hid ((ByteArray.mk #[48, 49, 50, 51, 52, 53, 54, 55, 56, 57, 65, 66, 67, 68, 69, 70]).data.toList[(((c.toNat / 16 : Nat) : Int)).toNat]? = some (V.digU.getD (c.toNat / 16) 0)) := zvq (by rw [Int.toNat_natCast]; exact zop (by omega))
    have HD2 : Hid ((ByteArray.mk #[48, 49, 50, 51, 52, 53, 54, 55, 56, 57, 65, 66, 67, 68, 69, 70]).data.toList[(((c.toNat % 16 : Nat) : Int)).toNat]? = some (V.digU.getD (c.toNat % 16) 0)) := zvq (by rw [Int.toNat_natCast]; exact zop (by omega))
    rw [← hc] at HT
    have HC := zvq hc
    clear he hl hL hc
    go_wp2_with fail
    rw [← HC.out]
    refine (zcc c wr).mono ?_
    rintro e w2 ⟨rfl, rfl⟩
    rcases hp : V.jd c with _ | _
    ·have HN : Hid ((s.data.toList.take (k + 1)).flatMap V.encB = L ++ [37, V.digU.getD (c.toNat / 16) 0, V.digU.getD (c.toNat % 16) 0]) := zvq (by rw [HT.out]; unfold V.encB; rw [hp]; rfl)
     clear hp HT
     go_wp2_with fail
     refine wp_region_any (by kernel_rfl) ?_
     change wpAny _ _ _ _ _ _ _ (World.drew _)
     have HB3 := zvq (HB.out.below (zvt _ w2).drew)
     clear HB
     generalize w2.drew = w3 at *
     refine wpAny_take (i := 1) (v := .string ⟨#[48, 49, 50, 51, 52, 53, 54, 55, 56, 57, 65, 66, 67, 68, 69, 70]⟩) rfl (by kernel_rfl) (by kernel_rfl) (by kernel_rfl) (fun _ _ _ h => h) (Or.inl ⟨by rfl, fun W => by go_simp⟩) ?_
     refine wpAny_take (i := 7) (v := .string ⟨#[48, 49, 50, 51, 52, 53, 54, 55, 56, 57, 65, 66, 67, 68, 69, 70]⟩) rfl (by kernel_rfl) (by kernel_rfl) (by kernel_rfl) (fun _ _ _ h => h) (Or.inl ⟨by rfl, fun W => by go_simp⟩) ?_
     refine wpAny_take (i := 0) (v := .slice oa L.length oc) rfl (by kernel_rfl) (by kernel_rfl) (by kernel_rfl) (fun _ _ _ h => h) (Or.inl ⟨by rfl, fun W => by go_simp⟩) ?_
     refine wpAny_take (i := 2) (v := .string s) rfl (by kernel_rfl) (by kernel_rfl) (by kernel_rfl) (fun _ _ _ h => h) (Or.inl ⟨by rfl, fun W => by go_simp⟩) ?_
     refine wpAny_take (i := 3) (v := .int .i64 k) rfl (by kernel_rfl) (by kernel_rfl) (by kernel_rfl) (fun _ _ _ h => h) (Or.inl ⟨by rfl, fun W => by go_simp⟩) ?_
     refine wpAny_take (i := 8) (v := .string s) rfl (by kernel_rfl) (by kernel_rfl) (by kernel_rfl) (fun _ _ _ h => h) (Or.inl ⟨by rfl, fun W => by go_simp⟩) ?_
     refine wpAny_take (i := 9) (v := .int .i64 k) rfl (by kernel_rfl) (by kernel_rfl) (by kernel_rfl) (fun _ _ _ h => h) (Or.inl ⟨by rfl, fun W => by go_simp⟩) ?_
     simp only [zvl, zvm, zvn, Act.put, zvo, List.set_cons_succ, List.set_cons_zero]
     refine wpAny_take (i := 4) (v := .int .u8 c.toNat) rfl (by kernel_rfl) (by kernel_rfl) (by kernel_rfl) (fun _ _ _ h => h) (Or.inl ⟨by rfl, fun W => xu rfl rfl rfl hs1 HCI.out⟩) ?_
     refine wpAny_take (i := 10) (v := .int .u8 c.toNat) rfl (by kernel_rfl) (by kernel_rfl) (by kernel_rfl) (fun _ _ _ h => h) (Or.inl ⟨by rfl, fun W => xu rfl rfl rfl hs1 HCI.out⟩) ?_
     simp only [zvl, zvm, zvn, Act.put, zvo, List.set_cons_succ, List.set_cons_zero]
     refine wpAny_take (i := 5) (v := .int .u8 ((c.toNat / 16 : Nat) : Int)) rfl (by kernel_rfl) (by kernel_rfl) (by kernel_rfl) (fun _ _ _ h => h) (Or.inl ⟨by rfl, fun W => zug rfl rfl rfl⟩) ?_
     refine wpAny_take (i := 11) (v := .int .u8 ((c.toNat % 16 : Nat) : Int)) rfl (by kernel_rfl) (by kernel_rfl) (by kernel_rfl) (fun _ _ _ h => h) (Or.inl ⟨by rfl, fun W => zqo rfl rfl rfl⟩) ?_
     simp only [zvl, zvm, zvn, Act.put, zvo, List.set_cons_succ, List.set_cons_zero]
     refine wpAny_take (i := 6) (v := .int .u8 (V.digU.getD (c.toNat / 16) 0).toNat) rfl (by kernel_rfl) (by kernel_rfl) (by kernel_rfl) (fun _ _ _ h => h) (Or.inl ⟨by rfl, fun W => xu rfl rfl rfl (by omega) HD1.out⟩) ?_
     refine wpAny_take (i := 12) (v := .int .u8 (V.digU.getD (c.toNat % 16) 0).toNat) rfl (by kernel_rfl) (by kernel_rfl) (by kernel_rfl) (fun _ _ _ h => h) (Or.inl ⟨by rfl, fun W => xu rfl rfl rfl (by omega) HD2.out⟩) ?_
     simp only [zvl, zvm, zvn, Act.put, zvo, List.set_cons_succ, List.set_cons_zero]
     refine wpAny_all (rs := [13]) (by kernel_rfl) (by simp) ?_
     intro i0 hi0
     obtain rfl : i0 = 13 := by simpa using hi0
     clear hi0
     refine wpOp_step (by rfl) (fun K hK => zf3 rfl _ _ _ rfl 37 (V.digU.getD (c.toNat / 16) 0) (V.digU.getD (c.toNat % 16) 0) rfl rfl rfl (hK _ _ ?_))
     clear hK K
     have HBN := zvq (ku [37, V.digU.getD (c.toNat / 16) 0, V.digU.getD (c.toNat % 16) 0] w3)
     have HB4 := zvq (HB3.out.below ((zvt _ w3).alloc (zvs _) (.cells (bvals [37, V.digU.getD (c.toNat / 16) 0, V.digU.getD (c.toNat % 16) 0]).toArray 5)))
     clear HB3
     generalize w3.alloc (.cells (bvals [37, V.digU.getD (c.toNat / 16) 0, V.digU.getD (c.toNat % 16) 0]).toArray 5) = w4 at *
     simp only [zvl, zvm, zvn, Act.put, zvo, List.set_cons_succ, List.set_cons_zero]
     refine wpAny_all (rs := [14]) (by kernel_rfl) (by simp) ?_
     intro i0 hi0
     obtain rfl : i0 = 14 := by simpa using hi0
     clear hi0
     refine wpOp_step (by rfl) (fun K hK => ?_)
     refine zkm rfl _ _ rfl w'.heap.size (.slice oa L.length oc) L w' rfl HB4.out w3.heap.size 3 [37, V.digU.getD (c.toNat / 16) 0, V.digU.getD (c.toNat % 16) 0] rfl HBN.out (by simp; omega) ?_
     intro v9 w9 hb9
     refine hK _ _ ?_
     clear hK K
     have HB9 := zvq hb9
     clear hb9 HBN HB4
     simp only [zvl, zvm, zvn, Act.put, zvo, List.set_cons_succ, List.set_cons_zero]
     refine wpAny_take (i := 15) (v := v9) rfl (by kernel_rfl) (by kernel_rfl) (by kernel_rfl) (fun _ _ _ h => h) (Or.inl ⟨by rfl, fun W => by go_simp⟩) ?_
     simp only [zvl, zvm, zvn, Act.put, zvo, List.set_cons_succ, List.set_cons_zero]
     refine wpAny_done (by kernel_rfl) ?_ _
     exact zx9
    ·exact zxf
   ·exact zxw
open Go.RowKit
def Lines (w : World) (v : Value) (ls : List (List V.Bs)) : Prop :=
 ∃ a cap, v = .slice a ls.length cap /\ ∀ j (h : j < ls.length), ∃ b off u, a = some ⟨b, off, none⟩ /\ b < w.heap.size /\ w.cell? ⟨b, off + j, none⟩ = some u /\ Strs w u ls[j]
theorem z1h {P : Prop} (h : P := by
 exact ⟨b, off, ea, Nat.lt_of_lt_of_le hlt hb.size, (hb.cell (p := ⟨b, off + j, none⟩) hlt).trans hr⟩) : P := h
theorem kp {w w' : World} {v : Value} {l : List V.Bs} (h : Strs w v l) (hb : Below w.heap.size w w') : Strs w' v l := by
 obtain ⟨a, cap, e, hc⟩ := h
 refine ⟨a, cap, e, fun j hj => ?_⟩
 obtain ⟨b, off, ea, hlt, hr⟩ := hc j hj
 exact z1h
theorem Lines.below {w w' : World} {v : Value} {ls : List (List V.Bs)} (h : Lines w v ls) (hb : Below w.heap.size w w') : Lines w' v ls := by
 obtain ⟨a, cap, e, hc⟩ := h
 refine ⟨a, cap, e, fun j hj => ?_⟩
 obtain ⟨b, off, u, ea, hlt, hr, hs⟩ := hc j hj
 exact ⟨b, off, u, ea, Nat.lt_of_lt_of_le hlt hb.size, (hb.cell (p := ⟨b, off + j, none⟩) hlt).trans hr, kp hs hb⟩
theorem kk (x : V.Bs) : (ByteArray.mk x.toArray).data.toList = x := by simp
theorem yi (x : V.Bs) : (ByteArray.mk x.toArray).size = x.length := by simp [ByteArray.size]
theorem zj5 (x : V.Bs) (w : World) (hs : x.length ≤ 100000) : Calls Tryz.prog 55 #[.string ⟨x.toArray⟩] w fun e w' => e = .returned (.int .i64 (V.wj x : Nat)) /\ w' = w := by
 have := zh6 ⟨x.toArray⟩ w (by rw [yi]; exact hs)
 rwa [kk] at this
theorem zkh (x : V.Bs) (w : World) (hs : x.length ≤ 100000) : Calls Tryz.prog 56 #[.string ⟨x.toArray⟩] w fun e w' => e = .returned (.string ⟨(V.word x).toArray⟩) /\ Below w.heap.size w w' := by
 have := zp5 ⟨x.toArray⟩ w (by rw [yi]; exact hs)
 rwa [kk] at this
theorem zh0 (x : V.Bs) (w : World) (hs : x.length ≤ 100000) : Calls Tryz.prog 48 #[.string ⟨x.toArray⟩] w fun e w' => e = .returned (.string ⟨(V.word x).toArray⟩) /\ Below w.heap.size w w' := by
 have := zom ⟨x.toArray⟩ w (by rw [yi]; exact hs)
 rwa [kk] at this
theorem z1m {P : Prop} (h : P := by
 go_wp2
 go_round
 case rel => exact ⟨k + 1, by omega, by go_num⟩
 case measure => simp [intOf]; omega) : P := h
theorem zps (v : Value) (l : List V.Bs) (w : World) (hv : Strs w v l) (h0 : 0 < l.length) (h1 : l.length ≤ 120) (hw : ∀ x ∈ l, x.length ≤ 32768) :
  Calls Tryz.prog 54 #[v] w fun e w' => e = .returned (.int .i64 0) /\ w' = w := by
 obtain ⟨va, vc, rfl, hat⟩ := hv
 have HA := zvq hat
 have HW := zvq hw
 clear hat hw
 have hn0 : ((l.length : Int) == 0) = false := by rw [zvu]; omega
 have hn1 : ¬ (120 : Int) < (l.length : Int) := by omega
 go_enter Tryz.func54, Tryz.ntmps54
 go_wp2
 go_loop [15] (fun iv => ∃ k : Nat, k ≤ l.length /\ iv = .int .i64 k) (fun iv => l.length - (intOf iv).toNat)
 case atStart => exact ⟨0, Nat.zero_le _, rfl⟩
 case round =>
  obtain ⟨k, hk, rfl⟩ := hrel
  by_cases hlt : k < l.length
  ·obtain ⟨b, off, rfl, hb, hc⟩ := HA.out k hlt
   have hx := HW.out _ (List.getElem_mem hlt)
   have hi1 : (0 : Int) ≤ (k : Int) := by omega
   have hi2 : (k : Int) < (l.length : Int) := by omega
   generalize l[k] = x at *
   have hxs := yi x
   have hx2 : ¬ (32768 : Int) < (x.length : Int) := by omega
   have hx3 : ¬ (32768 : Int) < ((ByteArray.mk x.toArray).size : Int) := by rw [hxs]; omega
   exact z1m
  ·obtain rfl : k = l.length := by omega
   go_wp2
   go_ret
   exact ⟨rfl, rfl⟩
theorem zv9 {P : Prop} (h : P := by
 obtain ⟨ua, uc, rfl, hus⟩ := hs
 have HU := zvq hus
 have hi1 : (0 : Int) ≤ (k : Int) := by omega
 have hi2 : (k : Int) < (ls.length : Int) := by omega
 have HT := zvq (V.ym hlt)
 have hnext := V.zcq (j := k + 1) (by omega) (zvs ls.length)
 rw [HT.out] at hnext
 obtain ⟨q, hq⟩ : ∃ q, q = V.jl ls k := ⟨_, rfl⟩
 rw [← hq] at HT htot hnext ⊢
 generalize ls[k] = l at *
 clear hus hq
 go_wp2
 go_loop [7, 40] (fun tv iv => ∃ j : Nat, j ≤ l.length /\ iv = .int .i64 j /\ tv = .int .i64 ((q + V.jc l j : Nat) : Int)) (fun _ iv => l.length - (intOf iv).toNat)
 case atStart => exact ⟨0, Nat.zero_le _, rfl, rfl⟩
 case round =>
  obtain ⟨j, hj, rfl, rfl⟩ := hrel
  have hle := V.zbh (l := l) hj (zvs l.length)
  by_cases hjl : j < l.length
  ·obtain ⟨b2, off2, rfl, hb2, hc2⟩ := HU.out j hjl
   have hx := HX.out.2.2 _ (List.getElem_mem hjl)
   have hl120 := HX.out.2.1
   have HT2 := zvq (V.zb8 hjl)
   have hle2 := V.zbh (l := l) (j := j + 1) (by omega) (zvs l.length)
   rw [HT2.out] at hle2
   have hj1 : (0 : Int) ≤ (j : Int) := by omega
   have hj2 : (j : Int) < (l.length : Int) := by omega
   generalize l[j] = x at *
   obtain ⟨r, hr⟩ : ∃ r, r = V.jc l j := ⟨_, rfl⟩
   rw [← hr] at HT2 hle hle2 ⊢
   obtain ⟨z, hz⟩ : ∃ z, z = V.wj x := ⟨_, rfl⟩
   rw [← hz] at HT2 hle2
   have HZ := zvq hz
   clear hr hz
   go_wp2_with fail
   refine (zj5 x w (by omega)).mono ?_
   rintro e w' ⟨rfl, rfl⟩
   rw [← HZ.out]
   go_wp2
   go_round
   case rel => exact ⟨j + 1, by omega, by go_num, by rw [HT2.out]; go_num⟩
   case measure => simp [intOf]; omega
  ·obtain rfl : j = l.length := by omega
   go_wp2
   go_round
   case rel => exact ⟨k + 1, by omega, by go_num, by rw [HT.out]⟩
   case measure => simp [intOf]; omega) : P := h
theorem zmg (v : Value) (ls : List (List V.Bs)) (w : World) (hv : Lines w v ls) (hd : V.DocOk ls) :
  Calls Tryz.prog 27 #[v] w fun e w' => ∃ u, e = .returned (.tuple #[u, .int .i64 0]) /\ Buf w.heap.size u (V.doc ls) w w' := by
 have HL := zvq hv
 obtain ⟨va, vc, rfl, hat⟩ := hv
 have HA := zvq hat
 have HD := zvq hd
 have hn := hd.lines
 have hn1 : ¬ (1000 : Int) < (ls.length : Int) := by omega
 clear hat hd
 go_enter Tryz.func27, Tryz.ntmps27
 go_wp2
 go_loop [22] (fun iv => ∃ k : Nat, k ≤ ls.length /\ iv = .int .i64 k) (fun iv => ls.length - (intOf iv).toNat)
 case atStart => exact ⟨0, Nat.zero_le _, rfl⟩
 case round =>
  obtain ⟨k, hk, rfl⟩ := hrel
  by_cases hlt : k < ls.length
  ·obtain ⟨b, off, u, rfl, hb, hc, hs⟩ := HA.out k hlt
   have HX := zvq (HD.out.line _ (List.getElem_mem hlt))
   have HS := zvq hs
   have hi1 : (0 : Int) ≤ (k : Int) := by omega
   have hi2 : (k : Int) < (ls.length : Int) := by omega
   generalize ls[k] = l at *
   clear hs
   go_wp2_with fail
   refine (zps u l w HS.out HX.out.1 HX.out.2.1 HX.out.2.2).mono ?_
   rintro e w' ⟨rfl, rfl⟩
   exact z1m
  ·obtain rfl : k = ls.length := by omega
   go_wp2
   go_loop [7, 34] (fun tv iv => ∃ k : Nat, k ≤ ls.length /\ iv = .int .i64 k /\ tv = .int .i64 (V.jl ls k : Nat)) (fun _ iv => ls.length - (intOf iv).toNat)
   case atStart => exact ⟨0, Nat.zero_le _, rfl, rfl⟩
   case round =>
    obtain ⟨k, hk, rfl, rfl⟩ := hrel
    have htot := V.zcq (j := k) hk (zvs ls.length)
    have hmax := HD.out.size
    by_cases hlt : k < ls.length
    ·obtain ⟨b, off, u, rfl, hb, hc, hs⟩ := HA.out k hlt
     have HX := zvq (HD.out.line _ (List.getElem_mem hlt))
     exact zv9
    ·obtain rfl : k = ls.length := by omega
     have hbig : ¬ (262144 : Int) < (V.jl ls ls.length : Int) := by omega
     have HLEN : Hid (∀ k, k ≤ ls.length -> (V.zbx ls k).length = V.jl ls k) := zvq (V.zeq (fun l hl => (HD.out.line l hl).1))
     obtain ⟨q, hq⟩ : ∃ q, q = V.jl ls ls.length := ⟨_, rfl⟩
     rw [← hq] at hbig hmax ⊢
     have HQ := zvq hq
     clear hlt hk htot hq
     go_wp2_with (first | (refine zt8 rfl _ rfl w.heap.size q w (zvt _ _) (zvs _) rfl (by omega) ?_; intro w1 hb1) | fail)
     have HB1 := zvq hb1
     clear hb1 hbig
     go_loopw [12, 57] (fun ov iv wx => ∃ k : Nat, k ≤ ls.length /\ iv = .int .i64 k /\ Buf w.heap.size ov (V.zbx ls k) w wx) (fun _ iv _ => ls.length - (intOf iv).toNat)
     case atStart => exact ⟨0, Nat.zero_le _, rfl, HB1.out⟩
     case round =>
      obtain ⟨k, hk, rfl, hbuf⟩ := hrel
      have HB := zvq hbuf
      obtain ⟨oa, oc, rfl⟩ := hbuf.slice
      clear hbuf HB1
      by_cases hlt : k < ls.length
      ·have HST := zvq (V.zc8 hlt)
       have hlen1 : (V.zbx ls k).length + (V.line ls[k]).length ≤ 262144 := by
        have h1 := HLEN.out (k + 1) (by omega)
        have h2 := V.zcq (ls := ls) (j := k + 1) (by omega) (zvs ls.length)
        rw [HST.out, List.length_append] at h1
        have := HQ.out
        omega
       obtain ⟨b, off, u, rfl, hb0, hc0, hs⟩ := HA.out k hlt
       have hc := (HB.out.2.1.cell (p := ⟨b, off + k, none⟩) hb0).trans hc0
       have HS := zvq hs
       obtain ⟨ua, uc, rfl, _⟩ := hs
       clear hb0 hc0
       have HX := zvq (HD.out.line _ (List.getElem_mem hlt))
       have hi1 : (0 : Int) ≤ (k : Int) := by omega
       have hi2 : (k : Int) < (ls.length : Int) := by omega
       have HLN : Hid (V.line ls[k] = V.jr ls[k] ls[k].length ++ [10]) := zvq rfl
       have hll : (V.line ls[k]).length = (V.jr ls[k] ls[k].length).length + 1 := by unfold V.line; simp
       obtain ⟨A, hA⟩ : ∃ A, A = V.zbx ls k := ⟨_, rfl⟩
       rw [← hA] at HST hlen1 HB ⊢
       generalize ls[k] = l at *
       clear hA
       go_wp2
       go_loopw [12, 63] (fun ov iv wx => ∃ j : Nat, j ≤ l.length /\ iv = .int .i64 j /\ Buf w.heap.size ov (A ++ V.jr l j) w wx) (fun _ iv _ => l.length - (intOf iv).toNat)
       case atStart => exact ⟨0, Nat.zero_le _, rfl, by rw [show V.jr l 0 = [] from rfl, List.append_nil]; exact HB.out⟩
       case round =>
        obtain ⟨j, hj, rfl, hbuf⟩ := hrel
        have HB2 := zvq hbuf
        obtain ⟨oa2, oc2, rfl⟩ := hbuf.slice
        clear hbuf HB hc
        by_cases hjl : j < l.length
        ·obtain ⟨ua2, uc2, e2, hat2⟩ := HS.out
         cases e2
         obtain ⟨b2, off2, rfl, hb2, hc0⟩ := hat2 j hjl
         have hc2 := (HB2.out.2.1.cell (p := ⟨b2, off2 + j, none⟩) hb2).trans hc0
         have hx := HX.out.2.2 _ (List.getElem_mem hjl)
         have hl120 := HX.out.2.1
         have hj1 : (0 : Int) ≤ (j : Int) := by omega
         have hj2 : (j : Int) < (l.length : Int) := by omega
         have HT2 := zvq (V.zan l j)
         have hg : l.getD j [] = l[j] := by rw [List.getD_eq_getElem?_getD, List.getElem?_eq_getElem hjl]; rfl
         rw [hg] at HT2
         have hlen2 : A.length + (V.jr l j).length ≤ 270000 := by
          have h1 := (V.zbk (l := l) j hj).1
          have h2 := V.zbh (l := l) hj (zvs l.length)
          have h3 := V.zgj (l := l) HX.out.1
          omega
         obtain ⟨M, hM⟩ : ∃ M, M = A ++ V.jr l j := ⟨_, rfl⟩
         have HM := zvq hM
         have hml : M.length ≤ 270000 := by rw [hM, List.length_append]; exact hlen2
         rw [← hM] at HB2 ⊢
         generalize l[j] = x at *
         clear hat2 hc0 hM hg hlen2 hb2
         by_cases hj0 : j = 0
         ·subst hj0
          rw [Nat.add_zero] at hc2
          go_wp2_with fail
          refine (zkh x wr (by omega)).mono ?_
          rintro e w3 ⟨rfl, hb3⟩
          have HB3 := zvq (HB2.out.below hb3)
          have hwl := V.vm x
          have hwl2 := V.xk x
          clear hb3 HB2
          go_wp2_with (first | (refine ztj rfl _ _ rfl w.heap.size (.slice oa2 M.length oc2) M w rfl HB3.out (V.word x) rfl (by omega) ?_; intro v9 w9 hb9) | fail)
          have HB9 := zvq hb9
          clear hb9 hwl hwl2
          go_wp2
          go_roundw
          case rel => exact ⟨0 + 1, by omega, by go_num, by
            have := HB9.out
            rw [HM.out, List.append_assoc] at this
            rw [HT2.out]
            exact this⟩
          case measure => simp [intOf]; omega
         ·have hjp : (0 : Int) < (j : Int) := by omega
          have hb4 : Below wr.heap.size wr (wr.alloc (.cells #[.int .u8 32] 5)) := (zvt _ wr).alloc (zvs _) _
          have HB4 := zvq (HB2.out.below hb4)
          have HBN := zvq (ku [32] wr)
          clear hb4
          go_wp2_with (first | (refine zai rfl _ _ rfl w.heap.size (.slice oa2 M.length oc2) M w rfl HB4.out wr.heap.size 1 [32] rfl HBN.out (by simp; omega) ?_; intro v5 w5 hb5) | fail)
          replace HB2 := zvq hb5
          clear hb5 HB4 HBN hc2
          refine (zkh x w5 (by omega)).mono ?_
          rintro e w3 ⟨rfl, hb3⟩
          have HB3 := zvq (HB2.out.below hb3)
          have hwl := V.vm x
          have hwl2 := V.xk x
          clear hb3 HB2
          go_wp2_with (first | (refine ztj rfl _ _ rfl w.heap.size v5 (M ++ [32]) w rfl HB3.out (V.word x) rfl (by simp; omega) ?_; intro v9 w9 hb9) | fail)
          have HB9 := zvq hb9
          clear hb9 hwl hwl2
          go_wp2
          go_roundw
          case rel => exact ⟨j + 1, by omega, by go_num, by
            have := HB9.out
            rw [HM.out, List.append_assoc, List.append_assoc] at this
            rw [HT2.out, if_neg hj0]
            exact this⟩
          case measure => simp [intOf]; omega
        ·obtain rfl : j = l.length := by omega
         have hlen3 : (A ++ V.jr l l.length).length ≤ 270000 := by rw [List.length_append]; omega
         have hA10 : A ++ V.line l = (A ++ V.jr l l.length) ++ [10] := by rw [HLN.out, List.append_assoc]
         rw [hA10] at HST
         obtain ⟨M, hM⟩ : ∃ M, M = A ++ V.jr l l.length := ⟨_, rfl⟩
         rw [← hM] at HB2 HST hlen3 ⊢
         have hb4 : Below wr.heap.size wr (wr.alloc (.cells #[.int .u8 10] 5)) := (zvt _ wr).alloc (zvs _) _
         have HB4 := zvq (HB2.out.below hb4)
         have HBN := zvq (ku [10] wr)
         clear hb4 hA10 hM HB2
         go_wp2_with (first | (refine zai rfl _ _ rfl w.heap.size (.slice oa2 M.length oc2) M w rfl HB4.out wr.heap.size 1 [10] rfl HBN.out (by simp; omega) ?_; intro v5 w5 hb5) | fail)
         have HB5 := zvq hb5
         clear hb5 HB4 HBN
         go_wp2
         go_roundw
         case rel => exact ⟨k + 1, by omega, by go_num, by rw [HST.out]; exact HB5.out⟩
         case measure => simp [intOf]; omega
      ·obtain rfl : k = ls.length := by omega
       rw [V.ze0] at HB ⊢
       go_wp2
       go_ret2
       exact ⟨_, rfl, HB.out⟩
end Go.Proofs.YtiloljoancdcbaaGreatDoor
