/-
  Lemmas for the law.
-/
import Derived.Test.YtnhfaincdabdkaaGreatDoorC37x09
set_option linter.all false
set_option maxRecDepth 100000
set_option maxHeartbeats 3200000
namespace Go.Proofs.YtnhfaincdabdkaaGreatDoor
open Go.RowKit
theorem zj2 {l : V.Bs} {k : Nat} (h : k < l.length) : (l.take (k + 1)).flatMap V.encB = (l.take k).flatMap V.encB ++ V.encB l[k] := by
 rw [List.take_succ_eq_append_getElem h, List.flatMap_append]
 simp
theorem zrp (l : V.Bs) (k : Nat) : ((l.take k).flatMap V.encB).length ≤ 3 * l.length := by
 rw [V.zhi]
 exact zqt l k
theorem zlj {n : Nat} (h : n < 16) : (ByteArray.mk #[48, 49, 50, 51, 52, 53, 54, 55, 56, 57, 65, 66, 67, 68, 69, 70]).data.toList[n]? = some (V.digU.getD n 0) := by
 have : ∀ m : Fin 16, (ByteArray.mk #[48, 49, 50, 51, 52, 53, 54, 55, 56, 57, 65, 66, 67, 68, 69, 70]).data.toList[m.val]? = some (V.digU.getD m.val 0) := by decide
 exact this ⟨n, h⟩
theorem zt3 {P : Prop} (h : P := by
 have HN : Hid ((s.data.toList.take (k + 1)).flatMap V.encB = L ++ [c]) := zs8 (by rw [HT.out]; unfold V.encB; rw [hp]; rfl)
 clear hp HT
 have HB2 : Hid (Buf w'.heap.size (.slice oa L.length oc) L w' (w2.alloc (.cells #[.int .u8 s[k].toNat] 5))) := zs8 (HB.out.below ((ztb _ w2).alloc (zta _) _))
 go_wp2_with (first | (refine vf rfl _ _ rfl w'.heap.size (.slice oa L.length oc) L w' rfl HB2.out w2.heap.size 1 [c] rfl ?_ (by simp; omega) ?_; rotate_left; intro v9 w9 hb9) | fail)
 ·have HB9 := zs8 hb9
  clear hb9
  go_wp2
  go_roundw
  case rel => exact ⟨k + 1, by omega, by go_num, by rw [HN.out]; exact HB9.out⟩
  case measure => simp [intOf]; omega
 ·rw [← HC.out]
  exact kv [c] w2) : P := h
theorem zuf {P : Prop} (h : P := by
 obtain rfl : k = s.size := by omega
 have ht : s.data.toList.take s.size = s.data.toList := List.take_of_length_le (by omega)
 rw [ht, ← HW.out] at HB
 have hcv := zd7 HB.out (by rw [V.yz]; have := HP.out; unfold V.uk; omega)
 have hll : ((s.data.toList.take s.size).flatMap V.encB).length = (V.word s.data.toList).length := by rw [ht, HW.out]
 rw [hll] at *
 have HBL := zs8 HB.out.2.1
 go_wp2
 go_ret
 exact ⟨rfl, HBL.out⟩) : P := h
theorem zuk {P : Prop} (h : P := by
 go_wp2
 go_roundw
 case rel => exact ⟨k + 1, by omega, by go_num, by rw [HN.out]; exact HB9.out⟩
 case measure => simp [intOf]; omega) : P := h
theorem zmz (s : ByteArray) (w : World) (hs : s.size ≤ 100000) : Calls Tryz.prog 107 #[.string s] w fun e w' => e = .returned (.string ⟨(V.word s.data.toList).toArray⟩) /\ Below w.heap.size w w' := by
 by_cases h0 : s.data.toList = []
 ·have hs0 : s = ⟨#[]⟩ := jr (by rw [h0])
  subst hs0
  go_enter Tryz.func107, Tryz.ntmps107
  go_wp2
  go_ret
  exact ⟨rfl, ztb _ _⟩
 ·have hse : s.toList.isEmpty = false := by
   rw [Lib.toList_data]
   cases hq : s.data.toList with
   | nil => exact absurd hq h0
   | cons c r => rfl
  have HW : Hid (V.word s.data.toList = s.data.toList.flatMap V.encB) := zs8 (by
    unfold V.word
    cases hq : s.data.toList with
    | nil => exact absurd hq h0
    | cons c r => rw [List.isEmpty_cons, if_neg (by decide)])
  have HP : Hid (0 < s.data.toList.length) := zs8 (List.length_pos_iff.2 h0)
  have hsz := V.kt s.data.toList
  rw [zf] at hsz
  clear h0
  go_enter Tryz.func107, Tryz.ntmps107
  go_wp2_with fail
  refine (zfs s w hs).mono ?_
  rintro e w' ⟨rfl, rfl⟩
  clear hse
  go_wp2_with (first | (refine zrm rfl _ rfl w'.heap.size (V.uk s.data.toList) w' (ztb _ _) (zta _) rfl (by omega) ?_; intro w1 hb1) | fail)
  have HB1 := zs8 hb1
  clear hb1
  go_wp2
  go_loopw [3, 4] (fun ov iv wx => ∃ k : Nat, k ≤ s.size /\ iv = .int .i64 k /\ Buf w'.heap.size ov ((s.data.toList.take k).flatMap V.encB) w' wx) (fun _ iv _ => s.size - (intOf iv).toNat)
  case atStart => exact ⟨0, Nat.zero_le _, rfl, HB1.out⟩
  case round =>
   obtain ⟨k, hk, rfl, hb⟩ := hrel
   have HB := zs8 hb
   obtain ⟨oa, oc, rfl⟩ := hb.slice
   have hl := zf s
   have hle := zrp s.data.toList k
   rw [hl] at hle
   clear hb HB1
   by_cases hlt : k < s.size
   ·have HT := zs8 (zj2 (l := s.data.toList) (k := k) (by omega))
    have he : s.data.toList[k]'(by omega) = s[k] := by simp; rfl
    rw [he] at HT
    have hs1 : (0 : Int) ≤ (k : Int) := by omega
    have hs2 : (k : Int) < (s.size : Int) := by omega
    obtain ⟨L, hL⟩ : ∃ L, L = (s.data.toList.take k).flatMap V.encB := ⟨_, rfl⟩
    rw [← hL] at HT hle HB ⊢
    obtain ⟨c, hc⟩ : ∃ c, c = s[k] := ⟨_, rfl⟩
    have HCI : Hid (s.data.toList[((k : Int)).toNat]? = some c) := zs8 (by rw [Int.toNat_natCast, List.getElem?_eq_getElem (by omega), he, ← hc])
    have hc256 := c.toNat_lt
    have HD1 : Hid ((ByteArray.mk #[48, 49, 50, 51, 52, 53, 54, 55, 56, 57, 65, 66, 67, 68, 69, 70]).data.toList[(((c.toNat / 16 : Nat) : Int)).toNat]? = some (V.digU.getD (c.toNat / 16) 0)) := zs8 (by rw [Int.toNat_natCast]; exact zlj (by omega))
    have HD2 : Hid ((ByteArray.mk #[48, 49, 50, 51, 52, 53, 54, 55, 56, 57, 65, 66, 67, 68, 69, 70]).data.toList[(((c.toNat % 16 : Nat) : Int)).toNat]? = some (V.digU.getD (c.toNat % 16) 0)) := zs8 (by rw [Int.toNat_natCast]; exact zlj (by omega))
    rw [← hc] at HT
    have HC := zs8 hc
    clear he hl hL hc
    go_wp2_with fail
    rw [← HC.out]
    refine (vx c wr).mono ?_
    rintro e w2 ⟨rfl, rfl⟩
    rcases hp : V.qz c with _ | _
    ·have HN : Hid ((s.data.toList.take (k + 1)).flatMap V.encB = L ++ [37, V.digU.getD (c.toNat / 16) 0, V.digU.getD (c.toNat % 16) 0]) := zs8 (by rw [HT.out]; unfold V.encB; rw [hp]; rfl)
     clear hp HT
     go_wp2_with fail
     refine wp_region_any (by kernel_rfl) ?_
     change wpAny _ _ _ _ _ _ _ (World.drew _)
     have HB3 := zs8 (HB.out.below (ztb _ w2).drew)
     clear HB
     generalize w2.drew = w3 at *
     refine wpAny_take (i := 0) (v := .slice oa L.length oc) rfl (by kernel_rfl) (by kernel_rfl) (by kernel_rfl) (fun _ _ _ h => h) (Or.inl ⟨by rfl, fun W => by go_simp⟩) ?_
     refine wpAny_take (i := 1) (v := .string s) rfl (by kernel_rfl) (by kernel_rfl) (by kernel_rfl) (fun _ _ _ h => h) (Or.inl ⟨by rfl, fun W => by go_simp⟩) ?_
     refine wpAny_take (i := 2) (v := .int .i64 k) rfl (by kernel_rfl) (by kernel_rfl) (by kernel_rfl) (fun _ _ _ h => h) (Or.inl ⟨by rfl, fun W => by go_simp⟩) ?_
     refine wpAny_take (i := 6) (v := .string s) rfl (by kernel_rfl) (by kernel_rfl) (by kernel_rfl) (fun _ _ _ h => h) (Or.inl ⟨by rfl, fun W => by go_simp⟩) ?_
     refine wpAny_take (i := 7) (v := .int .i64 k) rfl (by kernel_rfl) (by kernel_rfl) (by kernel_rfl) (fun _ _ _ h => h) (Or.inl ⟨by rfl, fun W => by go_simp⟩) ?_
     simp only [zs3, zs4, zs5, Act.put, zs6, List.set_cons_succ, List.set_cons_zero]
     refine wpAny_take (i := 3) (v := .int .u8 c.toNat) rfl (by kernel_rfl) (by kernel_rfl) (by kernel_rfl) (fun _ _ _ h => h) (Or.inl ⟨by rfl, fun W => yc rfl rfl rfl hs1 HCI.out⟩) ?_
     refine wpAny_take (i := 8) (v := .int .u8 c.toNat) rfl (by kernel_rfl) (by kernel_rfl) (by kernel_rfl) (fun _ _ _ h => h) (Or.inl ⟨by rfl, fun W => yc rfl rfl rfl hs1 HCI.out⟩) ?_
     simp only [zs3, zs4, zs5, Act.put, zs6, List.set_cons_succ, List.set_cons_zero]
     refine wpAny_take (i := 4) (v := .int .u8 ((c.toNat / 16 : Nat) : Int)) rfl (by kernel_rfl) (by kernel_rfl) (by kernel_rfl) (fun _ _ _ h => h) (Or.inl ⟨by rfl, fun W => zrs rfl rfl rfl⟩) ?_
     refine wpAny_take (i := 9) (v := .int .u8 ((c.toNat % 16 : Nat) : Int)) rfl (by kernel_rfl) (by kernel_rfl) (by kernel_rfl) (fun _ _ _ h => h) (Or.inl ⟨by rfl, fun W => znl rfl rfl rfl⟩) ?_
     simp only [zs3, zs4, zs5, Act.put, zs6, List.set_cons_succ, List.set_cons_zero]
     refine wpAny_take (i := 5) (v := .int .u8 (V.digU.getD (c.toNat / 16) 0).toNat) rfl (by kernel_rfl) (by kernel_rfl) (by kernel_rfl) (fun _ _ _ h => h) (Or.inl ⟨by rfl, fun W => yc rfl rfl rfl (by omega) HD1.out⟩) ?_
     refine wpAny_take (i := 10) (v := .int .u8 (V.digU.getD (c.toNat % 16) 0).toNat) rfl (by kernel_rfl) (by kernel_rfl) (by kernel_rfl) (fun _ _ _ h => h) (Or.inl ⟨by rfl, fun W => yc rfl rfl rfl (by omega) HD2.out⟩) ?_
     simp only [zs3, zs4, zs5, Act.put, zs6, List.set_cons_succ, List.set_cons_zero]
     refine wpAny_all (rs := [11]) (by kernel_rfl) (by simp) ?_
     intro i0 hi0
     obtain rfl : i0 = 11 := by simpa using hi0
     clear hi0
     refine wpOp_step (by rfl) (fun K hK => zd3 rfl _ _ _ rfl 37 (V.digU.getD (c.toNat / 16) 0) (V.digU.getD (c.toNat % 16) 0) rfl rfl rfl (hK _ _ ?_))
     clear hK K
     have HBN := zs8 (kv [37, V.digU.getD (c.toNat / 16) 0, V.digU.getD (c.toNat % 16) 0] w3)
     have HB4 := zs8 (HB3.out.below ((ztb _ w3).alloc (zta _) (.cells (bvals [37, V.digU.getD (c.toNat / 16) 0, V.digU.getD (c.toNat % 16) 0]).toArray 5)))
     clear HB3
     generalize w3.alloc (.cells (bvals [37, V.digU.getD (c.toNat / 16) 0, V.digU.getD (c.toNat % 16) 0]).toArray 5) = w4 at *
     simp only [zs3, zs4, zs5, Act.put, zs6, List.set_cons_succ, List.set_cons_zero]
     refine wpAny_all (rs := [12]) (by kernel_rfl) (by simp) ?_
     intro i0 hi0
     obtain rfl : i0 = 12 := by simpa using hi0
     clear hi0
     refine wpOp_step (by rfl) (fun K hK => ?_)
     refine zho rfl _ _ rfl w'.heap.size (.slice oa L.length oc) L w' rfl HB4.out w3.heap.size 3 [37, V.digU.getD (c.toNat / 16) 0, V.digU.getD (c.toNat % 16) 0] rfl HBN.out (by simp; omega) ?_
     intro v9 w9 hb9
     refine hK _ _ ?_
     clear hK K
     have HB9 := zs8 hb9
     clear hb9 HBN HB4
     simp only [zs3, zs4, zs5, Act.put, zs6, List.set_cons_succ, List.set_cons_zero]
     refine wpAny_take (i := 13) (v := v9) rfl (by kernel_rfl) (by kernel_rfl) (by kernel_rfl) (fun _ _ _ h => h) (Or.inl ⟨by rfl, fun W => by go_simp⟩) ?_
     simp only [zs3, zs4, zs5, Act.put, zs6, List.set_cons_succ, List.set_cons_zero]
     refine wpAny_done (by kernel_rfl) ?_ _
     exact zuk
    ·exact zt3
   ·exact zuf
theorem zlh (s : ByteArray) (w : World) (hs : s.size ≤ 100000) : Calls Tryz.prog 82 #[.string s] w fun e w' => e = .returned (.string ⟨(V.word s.data.toList).toArray⟩) /\ Below w.heap.size w w' := by
 by_cases h0 : s.data.toList = []
 ·have hs0 : s = ⟨#[]⟩ := jr (by rw [h0])
  subst hs0
  go_enter Tryz.func82, Tryz.ntmps82
  go_wp2
  go_ret
  exact ⟨rfl, ztb _ _⟩
 ·have hse : s.toList.isEmpty = false := by
   rw [Lib.toList_data]
   cases hq : s.data.toList with
   | nil => exact absurd hq h0
   | cons c r => rfl
  have HW : Hid (V.word s.data.toList = s.data.toList.flatMap V.encB) := zs8 (by
    unfold V.word
    cases hq : s.data.toList with
    | nil => exact absurd hq h0
    | cons c r => rw [List.isEmpty_cons, if_neg (by decide)])
  have HP : Hid (0 < s.data.toList.length) := zs8 (List.length_pos_iff.2 h0)
  have hsz := V.kt s.data.toList
  rw [zf] at hsz
  clear h0
  go_enter Tryz.func82, Tryz.ntmps82
  obtain ⟨w', hw'⟩ : ∃ w', w' = w := ⟨_, rfl⟩
  subst hw'
  have HB1 : Hid (Buf w'.heap.size (.slice none 0 0) [] w' w') := zs8 (Buf.nil (ztb _ _) (zta _))
  go_wp2
  clear hse
  go_loopw [4, 5] (fun ov iv wx => ∃ k : Nat, k ≤ s.size /\ iv = .int .i64 k /\ Buf w'.heap.size ov ((s.data.toList.take k).flatMap V.encB) w' wx) (fun _ iv _ => s.size - (intOf iv).toNat)
  case atStart => exact ⟨0, Nat.zero_le _, rfl, HB1.out⟩
  case round =>
   obtain ⟨k, hk, rfl, hb⟩ := hrel
   have HB := zs8 hb
   obtain ⟨oa, oc, rfl⟩ := hb.slice
   have hl := zf s
   have hle := zrp s.data.toList k
   rw [hl] at hle
   clear hb HB1
   by_cases hlt : k < s.size
   ·have HT := zs8 (zj2 (l := s.data.toList) (k := k) (by omega))
    have he : s.data.toList[k]'(by omega) = s[k] := by simp; rfl
    rw [he] at HT
    have hs1 : (0 : Int) ≤ (k : Int) := by omega
    have hs2 : (k : Int) < (s.size : Int) := by omega
    obtain ⟨L, hL⟩ : ∃ L, L = (s.data.toList.take k).flatMap V.encB := ⟨_, rfl⟩
    rw [← hL] at HT hle HB ⊢
    obtain ⟨c, hc⟩ : ∃ c, c = s[k] := ⟨_, rfl⟩
    have HCI : Hid (s.data.toList[((k : Int)).toNat]? = some c) := zs8 (by rw [Int.toNat_natCast, List.getElem?_eq_getElem (by omega), he, ← hc])
    have hc256 := c.toNat_lt
    have HD1 : Hid ((ByteArray.mk #[48, 49, 50, 51, 52, 53, 54, 55, 56, 57, 65, 66, 67, 68, 69, 70]).data.toList[(((c.toNat / 16 : Nat) : Int)).toNat]? = some (V.digU.getD (c.toNat / 16) 0)) := zs8 (by rw [Int.toNat_natCast]; exact zlj (by omega))
    have HD2 : Hid ((ByteArray.mk #[48, 49, 50, 51, 52, 53, 54, 55, 56, 57, 65, 66, 67, 68, 69, 70]).data.toList[(((c.toNat % 16 : Nat) : Int)).toNat]? = some (V.digU.getD (c.toNat % 16) 0)) := zs8 (by rw [Int.toNat_natCast]; exact zlj (by omega))
    rw [← hc] at HT
    have HC := zs8 hc
    clear he hl hL hc
    go_wp2_with fail
    rw [← HC.out]
    refine (zjd c wr).mono ?_
    rintro e w2 ⟨rfl, rfl⟩
    rcases hp : V.qz c with _ | _
    ·have HN : Hid ((s.data.toList.take (k + 1)).flatMap V.encB = L ++ [37, V.digU.getD (c.toNat / 16) 0, V.digU.getD (c.toNat % 16) 0]) := zs8 (by rw [HT.out]; unfold V.encB; rw [hp]; rfl)
     clear hp HT
     go_wp2_with fail
     refine wp_region_any (by kernel_rfl) ?_
     change wpAny _ _ _ _ _ _ _ (World.drew _)
     have HB3 := zs8 (HB.out.below (ztb _ w2).drew)
     clear HB
     generalize w2.drew = w3 at *
     refine wpAny_take (i := 1) (v := .string ⟨#[48, 49, 50, 51, 52, 53, 54, 55, 56, 57, 65, 66, 67, 68, 69, 70]⟩) rfl (by kernel_rfl) (by kernel_rfl) (by kernel_rfl) (fun _ _ _ h => h) (Or.inl ⟨by rfl, fun W => by go_simp⟩) ?_
     refine wpAny_take (i := 7) (v := .string ⟨#[48, 49, 50, 51, 52, 53, 54, 55, 56, 57, 65, 66, 67, 68, 69, 70]⟩) rfl (by kernel_rfl) (by kernel_rfl) (by kernel_rfl) (fun _ _ _ h => h) (Or.inl ⟨by rfl, fun W => by go_simp⟩) ?_
     refine wpAny_take (i := 0) (v := .slice oa L.length oc) rfl (by kernel_rfl) (by kernel_rfl) (by kernel_rfl) (fun _ _ _ h => h) (Or.inl ⟨by rfl, fun W => by go_simp⟩) ?_
     refine wpAny_take (i := 2) (v := .string s) rfl (by kernel_rfl) (by kernel_rfl) (by kernel_rfl) (fun _ _ _ h => h) (Or.inl ⟨by rfl, fun W => by go_simp⟩) ?_
     refine wpAny_take (i := 3) (v := .int .i64 k) rfl (by kernel_rfl) (by kernel_rfl) (by kernel_rfl) (fun _ _ _ h => h) (Or.inl ⟨by rfl, fun W => by go_simp⟩) ?_
     refine wpAny_take (i := 8) (v := .string s) rfl (by kernel_rfl) (by kernel_rfl) (by kernel_rfl) (fun _ _ _ h => h) (Or.inl ⟨by rfl, fun W => by go_simp⟩) ?_
     refine wpAny_take (i := 9) (v := .int .i64 k) rfl (by kernel_rfl) (by kernel_rfl) (by kernel_rfl) (fun _ _ _ h => h) (Or.inl ⟨by rfl, fun W => by go_simp⟩) ?_
     simp only [zs3, zs4, zs5, Act.put, zs6, List.set_cons_succ, List.set_cons_zero]
     refine wpAny_take (i := 4) (v := .int .u8 c.toNat) rfl (by kernel_rfl) (by kernel_rfl) (by kernel_rfl) (fun _ _ _ h => h) (Or.inl ⟨by rfl, fun W => yc rfl rfl rfl hs1 HCI.out⟩) ?_
     refine wpAny_take (i := 10) (v := .int .u8 c.toNat) rfl (by kernel_rfl) (by kernel_rfl) (by kernel_rfl) (fun _ _ _ h => h) (Or.inl ⟨by rfl, fun W => yc rfl rfl rfl hs1 HCI.out⟩) ?_
     simp only [zs3, zs4, zs5, Act.put, zs6, List.set_cons_succ, List.set_cons_zero]
     refine wpAny_take (i := 5) (v := .int .u8 ((c.toNat / 16 : Nat) : Int)) rfl (by kernel_rfl) (by kernel_rfl) (by kernel_rfl) (fun _ _ _ h => h) (Or.inl ⟨by rfl, fun W => zrs rfl rfl rfl⟩) ?_
     refine wpAny_take (i := 11) (v := .int .u8 ((c.toNat % 16 : Nat) : Int)) rfl (by kernel_rfl) (by kernel_rfl) (by kernel_rfl) (fun _ _ _ h => h) (Or.inl ⟨by rfl, fun W => znl rfl rfl rfl⟩) ?_
     simp only [zs3, zs4, zs5, Act.put, zs6, List.set_cons_succ, List.set_cons_zero]
     refine wpAny_take (i := 6) (v := .int .u8 (V.digU.getD (c.toNat / 16) 0).toNat) rfl (by kernel_rfl) (by kernel_rfl) (by kernel_rfl) (fun _ _ _ h => h) (Or.inl ⟨by rfl, fun W => yc rfl rfl rfl (by omega) HD1.out⟩) ?_
     refine wpAny_take (i := 12) (v := .int .u8 (V.digU.getD (c.toNat % 16) 0).toNat) rfl (by kernel_rfl) (by kernel_rfl) (by kernel_rfl) (fun _ _ _ h => h) (Or.inl ⟨by rfl, fun W => yc rfl rfl rfl (by omega) HD2.out⟩) ?_
     simp only [zs3, zs4, zs5, Act.put, zs6, List.set_cons_succ, List.set_cons_zero]
     refine wpAny_all (rs := [13]) (by kernel_rfl) (by simp) ?_
     intro i0 hi0
     obtain rfl : i0 = 13 := by simpa using hi0
     clear hi0
     refine wpOp_step (by rfl) (fun K hK => zd3 rfl _ _ _ rfl 37 (V.digU.getD (c.toNat / 16) 0) (V.digU.getD (c.toNat % 16) 0) rfl rfl rfl (hK _ _ ?_))
     clear hK K
     have HBN := zs8 (kv [37, V.digU.getD (c.toNat / 16) 0, V.digU.getD (c.toNat % 16) 0] w3)
     have HB4 := zs8 (HB3.out.below ((ztb _ w3).alloc (zta _) (.cells (bvals [37, V.digU.getD (c.toNat / 16) 0, V.digU.getD (c.toNat % 16) 0]).toArray 5)))
     clear HB3
     generalize w3.alloc (.cells (bvals [37, V.digU.getD (c.toNat / 16) 0, V.digU.getD (c.toNat % 16) 0]).toArray 5) = w4 at *
     simp only [zs3, zs4, zs5, Act.put, zs6, List.set_cons_succ, List.set_cons_zero]
     refine wpAny_all (rs := [14]) (by kernel_rfl) (by simp) ?_
     intro i0 hi0
     obtain rfl : i0 = 14 := by simpa using hi0
     clear hi0
     refine wpOp_step (by rfl) (fun K hK => ?_)
     refine zho rfl _ _ rfl w'.heap.size (.slice oa L.length oc) L w' rfl HB4.out w3.heap.size 3 [37, V.digU.getD (c.toNat / 16) 0, V.digU.getD (c.toNat % 16) 0] rfl HBN.out (by simp; omega) ?_
     intro v9 w9 hb9
     refine hK _ _ ?_
     clear hK K
     have HB9 := zs8 hb9
     clear hb9 HBN HB4
     simp only [zs3, zs4, zs5, Act.put, zs6, List.set_cons_succ, List.set_cons_zero]
     refine wpAny_take (i := 15) (v := v9) rfl (by kernel_rfl) (by kernel_rfl) (by kernel_rfl) (fun _ _ _ h => h) (Or.inl ⟨by rfl, fun W => by go_simp⟩) ?_
     simp only [zs3, zs4, zs5, Act.put, zs6, List.set_cons_succ, List.set_cons_zero]
     refine wpAny_done (by kernel_rfl) ?_ _
     exact zuk
    ·exact zt3
   ·exact zuf
end Go.Proofs.YtnhfaincdabdkaaGreatDoor
