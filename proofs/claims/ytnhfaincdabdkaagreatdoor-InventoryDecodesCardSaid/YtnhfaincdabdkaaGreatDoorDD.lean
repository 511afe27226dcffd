/-
  Walk: Word of the reference (printed by gen_DD.py out of XDC).
-/
import Derived.Test.YtnhfaincdabdkaaGreatDoorDC
namespace Go.Proofs.YtnhfaincdabdkaaGreatDoor
open Go.RowKit

set_option maxRecDepth 100000 in
set_option maxHeartbeats 3200000 in
theorem rdocWord_any (s : ByteArray) (w : World) (hs : s.size ≤ 100000) : Calls Tryz.prog 82 #[.string s] w fun e w' => e = .returned (.string ⟨(V.word s.data.toList).toArray⟩) ∧ Below w.heap.size w w' := by
  by_cases h0 : s.data.toList = []
  · have hs0 : s = ⟨#[]⟩ := bs_ext (by rw [h0])
    subst hs0
    go_enter Tryz.func82, Tryz.ntmps82
    go_wp2
    go_ret
    exact ⟨rfl, Below.refl _ _⟩
  · have hse : s.toList.isEmpty = false := by
      rw [Lib.toList_data]
      cases hq : s.data.toList with
      | nil => exact absurd hq h0
      | cons c r => rfl
    have HW : Hid (V.word s.data.toList = s.data.toList.flatMap V.encB) := Lib.hid (by
      unfold V.word
      cases hq : s.data.toList with
      | nil => exact absurd hq h0
      | cons c r => rw [List.isEmpty_cons, if_neg (by decide)])
    have HP : Hid (0 < s.data.toList.length) := Lib.hid (List.length_pos_iff.2 h0)
    have hsz := V.sizeW_le s.data.toList
    rw [bs_size] at hsz
    clear h0
    go_enter Tryz.func82, Tryz.ntmps82
    obtain ⟨w', hw'⟩ : ∃ w', w' = w := ⟨_, rfl⟩
    subst hw'
    have HB1 : Hid (Buf w'.heap.size (.slice none 0 0) [] w' w') := Lib.hid (Buf.nil (Below.refl _ _) (Nat.le_refl _))
    go_wp2
    clear hse
    go_loopw [4, 5] (fun ov iv wx => ∃ k : Nat, k ≤ s.size ∧ iv = .int .i64 k ∧ Buf w'.heap.size ov ((s.data.toList.take k).flatMap V.encB) w' wx) (fun _ iv _ => s.size - (intOf iv).toNat)
    case atStart => exact ⟨0, Nat.zero_le _, rfl, HB1.out⟩
    case round =>
      obtain ⟨k, hk, rfl, hb⟩ := hrel
      have HB := Lib.hid hb
      obtain ⟨oa, oc, rfl⟩ := hb.slice
      have hl := bs_size s
      have hle := word_to s.data.toList k
      rw [hl] at hle
      clear hb HB1
      by_cases hlt : k < s.size
      · have HT := Lib.hid (word_step (l := s.data.toList) (k := k) (by omega))
        have he : s.data.toList[k]'(by omega) = s[k] := by simp; rfl
        rw [he] at HT
        have hs1 : (0 : Int) ≤ (k : Int) := by omega
        have hs2 : (k : Int) < (s.size : Int) := by omega
        obtain ⟨L, hL⟩ : ∃ L, L = (s.data.toList.take k).flatMap V.encB := ⟨_, rfl⟩
        rw [← hL] at HT hle HB ⊢
        obtain ⟨c, hc⟩ : ∃ c, c = s[k] := ⟨_, rfl⟩
        have HCI : Hid (s.data.toList[((k : Int)).toNat]? = some c) := Lib.hid (by rw [Int.toNat_natCast, List.getElem?_eq_getElem (by omega), he, ← hc])
        have hc256 := c.toNat_lt
        have HD1 : Hid ((ByteArray.mk #[48, 49, 50, 51, 52, 53, 54, 55, 56, 57, 65, 66, 67, 68, 69, 70]).data.toList[(((c.toNat / 16 : Nat) : Int)).toNat]? = some (V.digU.getD (c.toNat / 16) 0)) := Lib.hid (by rw [Int.toNat_natCast]; exact dig_at (by omega))
        have HD2 : Hid ((ByteArray.mk #[48, 49, 50, 51, 52, 53, 54, 55, 56, 57, 65, 66, 67, 68, 69, 70]).data.toList[(((c.toNat % 16 : Nat) : Int)).toNat]? = some (V.digU.getD (c.toNat % 16) 0)) := Lib.hid (by rw [Int.toNat_natCast]; exact dig_at (by omega))
        rw [← hc] at HT
        have HC := Lib.hid hc
        clear he hl hL hc
        go_wp2_with fail
        rw [← HC.out]
        refine (rdocPlain_any c wr).mono ?_
        rintro e w2 ⟨rfl, rfl⟩
        rcases hp : V.plainB c with _ | _
        · have HN : Hid ((s.data.toList.take (k + 1)).flatMap V.encB = L ++ [37, V.digU.getD (c.toNat / 16) 0, V.digU.getD (c.toNat % 16) 0]) := Lib.hid (by rw [HT.out]; unfold V.encB; rw [hp]; rfl)
          clear hp HT
          go_wp2_with fail
          refine wp_region_any (by kernel_rfl) ?_
          change wpAny _ _ _ _ _ _ _ (World.drew _)
          have HB3 := Lib.hid (HB.out.below (Below.refl _ w2).drew)
          clear HB
          generalize w2.drew = w3 at *
          refine wpAny_take (i := 1) (v := .string ⟨#[48, 49, 50, 51, 52, 53, 54, 55, 56, 57, 65, 66, 67, 68, 69, 70]⟩) rfl (by kernel_rfl) (by kernel_rfl) (by kernel_rfl) (fun _ _ _ h => h) (Or.inl ⟨by rfl, fun W => by go_simp⟩) ?_
          refine wpAny_take (i := 7) (v := .string ⟨#[48, 49, 50, 51, 52, 53, 54, 55, 56, 57, 65, 66, 67, 68, 69, 70]⟩) rfl (by kernel_rfl) (by kernel_rfl) (by kernel_rfl) (fun _ _ _ h => h) (Or.inl ⟨by rfl, fun W => by go_simp⟩) ?_
          refine wpAny_take (i := 0) (v := .slice oa L.length oc) rfl (by kernel_rfl) (by kernel_rfl) (by kernel_rfl) (fun _ _ _ h => h) (Or.inl ⟨by rfl, fun W => by go_simp⟩) ?_
          refine wpAny_take (i := 2) (v := .string s) rfl (by kernel_rfl) (by kernel_rfl) (by kernel_rfl) (fun _ _ _ h => h) (Or.inl ⟨by rfl, fun W => by go_simp⟩) ?_
          refine wpAny_take (i := 3) (v := .int .i64 k) rfl (by kernel_rfl) (by kernel_rfl) (by kernel_rfl) (fun _ _ _ h => h) (Or.inl ⟨by rfl, fun W => by go_simp⟩) ?_
          refine wpAny_take (i := 8) (v := .string s) rfl (by kernel_rfl) (by kernel_rfl) (by kernel_rfl) (fun _ _ _ h => h) (Or.inl ⟨by rfl, fun W => by go_simp⟩) ?_
          refine wpAny_take (i := 9) (v := .int .i64 k) rfl (by kernel_rfl) (by kernel_rfl) (by kernel_rfl) (fun _ _ _ h => h) (Or.inl ⟨by rfl, fun W => by go_simp⟩) ?_
          simp only [List.getElem_toArray, List.getElem_cons_succ, List.getElem_cons_zero, Act.put, List.setIfInBounds_toArray, List.set_cons_succ, List.set_cons_zero]
          refine wpAny_take (i := 4) (v := .int .u8 c.toNat) rfl (by kernel_rfl) (by kernel_rfl) (by kernel_rfl) (fun _ _ _ h => h) (Or.inl ⟨by rfl, fun W => ex_index rfl rfl rfl hs1 HCI.out⟩) ?_
          refine wpAny_take (i := 10) (v := .int .u8 c.toNat) rfl (by kernel_rfl) (by kernel_rfl) (by kernel_rfl) (fun _ _ _ h => h) (Or.inl ⟨by rfl, fun W => ex_index rfl rfl rfl hs1 HCI.out⟩) ?_
          simp only [List.getElem_toArray, List.getElem_cons_succ, List.getElem_cons_zero, Act.put, List.setIfInBounds_toArray, List.set_cons_succ, List.set_cons_zero]
          refine wpAny_take (i := 5) (v := .int .u8 ((c.toNat / 16 : Nat) : Int)) rfl (by kernel_rfl) (by kernel_rfl) (by kernel_rfl) (fun _ _ _ h => h) (Or.inl ⟨by rfl, fun W => ex_shr4 rfl rfl rfl⟩) ?_
          refine wpAny_take (i := 11) (v := .int .u8 ((c.toNat % 16 : Nat) : Int)) rfl (by kernel_rfl) (by kernel_rfl) (by kernel_rfl) (fun _ _ _ h => h) (Or.inl ⟨by rfl, fun W => ex_and15 rfl rfl rfl⟩) ?_
          simp only [List.getElem_toArray, List.getElem_cons_succ, List.getElem_cons_zero, Act.put, List.setIfInBounds_toArray, List.set_cons_succ, List.set_cons_zero]
          refine wpAny_take (i := 6) (v := .int .u8 (V.digU.getD (c.toNat / 16) 0).toNat) rfl (by kernel_rfl) (by kernel_rfl) (by kernel_rfl) (fun _ _ _ h => h) (Or.inl ⟨by rfl, fun W => ex_index rfl rfl rfl (by omega) HD1.out⟩) ?_
          refine wpAny_take (i := 12) (v := .int .u8 (V.digU.getD (c.toNat % 16) 0).toNat) rfl (by kernel_rfl) (by kernel_rfl) (by kernel_rfl) (fun _ _ _ h => h) (Or.inl ⟨by rfl, fun W => ex_index rfl rfl rfl (by omega) HD2.out⟩) ?_
          simp only [List.getElem_toArray, List.getElem_cons_succ, List.getElem_cons_zero, Act.put, List.setIfInBounds_toArray, List.set_cons_succ, List.set_cons_zero]
          refine wpAny_all (rs := [13]) (by kernel_rfl) (by simp) ?_
          intro i0 hi0
          obtain rfl : i0 = 13 := by simpa using hi0
          clear hi0
          refine wpOp_step (by rfl) (fun K hK => step_build3B rfl _ _ _ rfl 37 (V.digU.getD (c.toNat / 16) 0) (V.digU.getD (c.toNat % 16) 0) rfl rfl rfl (hK _ _ ?_))
          clear hK K
          have HBN := Lib.hid (bytes_new [37, V.digU.getD (c.toNat / 16) 0, V.digU.getD (c.toNat % 16) 0] w3)
          have HB4 := Lib.hid (HB3.out.below ((Below.refl _ w3).alloc (Nat.le_refl _) (.cells (bvals [37, V.digU.getD (c.toNat / 16) 0, V.digU.getD (c.toNat % 16) 0]).toArray 5)))
          clear HB3
          generalize w3.alloc (.cells (bvals [37, V.digU.getD (c.toNat / 16) 0, V.digU.getD (c.toNat % 16) 0]).toArray 5) = w4 at *
          simp only [List.getElem_toArray, List.getElem_cons_succ, List.getElem_cons_zero, Act.put, List.setIfInBounds_toArray, List.set_cons_succ, List.set_cons_zero]
          refine wpAny_all (rs := [14]) (by kernel_rfl) (by simp) ?_
          intro i0 hi0
          obtain rfl : i0 = 14 := by simpa using hi0
          clear hi0
          refine wpOp_step (by rfl) (fun K hK => ?_)
          refine step_bytes rfl _ _ rfl w'.heap.size (.slice oa L.length oc) L w' rfl HB4.out w3.heap.size 3 [37, V.digU.getD (c.toNat / 16) 0, V.digU.getD (c.toNat % 16) 0] rfl HBN.out (by simp; omega) ?_
          intro v9 w9 hb9
          refine hK _ _ ?_
          clear hK K
          have HB9 := Lib.hid hb9
          clear hb9 HBN HB4
          simp only [List.getElem_toArray, List.getElem_cons_succ, List.getElem_cons_zero, Act.put, List.setIfInBounds_toArray, List.set_cons_succ, List.set_cons_zero]
          refine wpAny_take (i := 15) (v := v9) rfl (by kernel_rfl) (by kernel_rfl) (by kernel_rfl) (fun _ _ _ h => h) (Or.inl ⟨by rfl, fun W => by go_simp⟩) ?_
          simp only [List.getElem_toArray, List.getElem_cons_succ, List.getElem_cons_zero, Act.put, List.setIfInBounds_toArray, List.set_cons_succ, List.set_cons_zero]
          refine wpAny_done (by kernel_rfl) ?_ _
          go_wp2
          go_roundw
          case rel => exact ⟨k + 1, by omega, by go_num, by rw [HN.out]; exact HB9.out⟩
          case measure => simp [intOf]; omega
        · have HN : Hid ((s.data.toList.take (k + 1)).flatMap V.encB = L ++ [c]) := Lib.hid (by rw [HT.out]; unfold V.encB; rw [hp]; rfl)
          clear hp HT
          have HB2 : Hid (Buf w'.heap.size (.slice oa L.length oc) L w' (w2.alloc (.cells #[.int .u8 s[k].toNat] 5))) := Lib.hid (HB.out.below ((Below.refl _ w2).alloc (Nat.le_refl _) _))
          go_wp2_with (first | (refine wl_bytes rfl _ _ rfl w'.heap.size (.slice oa L.length oc) L w' rfl HB2.out w2.heap.size 1 [c] rfl ?_ (by simp; omega) ?_; rotate_left; intro v9 w9 hb9) | fail)
          · have HB9 := Lib.hid hb9
            clear hb9
            go_wp2
            go_roundw
            case rel => exact ⟨k + 1, by omega, by go_num, by rw [HN.out]; exact HB9.out⟩
            case measure => simp [intOf]; omega
          · rw [← HC.out]
            exact bytes_new [c] w2
      · obtain rfl : k = s.size := by omega
        have ht : s.data.toList.take s.size = s.data.toList := List.take_of_length_le (by omega)
        rw [ht, ← HW.out] at HB
        have hcv := conv_buf HB.out (by rw [V.word_len]; have := HP.out; unfold V.sizeW; omega)
        have hll : ((s.data.toList.take s.size).flatMap V.encB).length = (V.word s.data.toList).length := by rw [ht, HW.out]
        rw [hll] at *
        have HBL := Lib.hid HB.out.2.1
        go_wp2
        go_ret
        exact ⟨rfl, HBL.out⟩
end Go.Proofs.YtnhfaincdabdkaaGreatDoor
