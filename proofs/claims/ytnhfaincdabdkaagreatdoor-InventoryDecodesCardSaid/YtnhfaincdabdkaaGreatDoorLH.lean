/-
  Walk: digest.unhex. (Printed by gen_LH.py.)
-/
import Derived.Test.YtnhfaincdabdkaaGreatDoorPG
import Derived.Test.YtnhfaincdabdkaaGreatDoorDB
import Derived.Test.YtnhfaincdabdkaaGreatDoorDK
import Derived.Test.YtnhfaincdabdkaaGreatDoorDG
import Derived.Deep.RegionHeld3
namespace Go.Proofs.YtnhfaincdabdkaaGreatDoor
open Go.RowKit

theorem digL_val : ∀ n : Fin 256, Lib.indexByte (ByteArray.mk #[48, 49, 50, 51, 52, 53, 54, 55, 56, 57, 97, 98, 99, 100, 101, 102]).data.toList (UInt8.ofNat n.val) = (match V.hexL (UInt8.ofNat n.val) with | some x => (x : Int) | none => -1) := by decide +kernel
/-- a digit's value, or a number for none -/
def dvL (bad : Int) (c : UInt8) : Int := match V.hexL c with | some x => (x : Int) | none => bad
theorem digLIdx_any (c : UInt8) (w : World) : Calls Tryz.prog 131 #[.string (ByteArray.mk #[48, 49, 50, 51, 52, 53, 54, 55, 56, 57, 97, 98, 99, 100, 101, 102]), .int .u8 c.toNat] w fun e w' => e = .returned (.int .i64 (dvL (-1) c)) ∧ w' = w := by
  refine (Tryz.strings_IndexByte (ByteArray.mk #[48, 49, 50, 51, 52, 53, 54, 55, 56, 57, 97, 98, 99, 100, 101, 102]) c.toNat w).mono ?_
  rintro e w' ⟨rfl, rfl⟩
  refine ⟨?_, rfl⟩
  have h := digL_val ⟨c.toNat, c.toNat_lt⟩
  simp only [UInt8.ofNat_toNat] at h
  have e : ((c.toNat : Int)).toNat.toUInt8 = c := by simp
  rw [e, h]
  rfl
/-- what unhex leaves -/
def UnxPost (s : V.Bs) (g : Nat) (w : World) (e : Ending) (w' : World) : Prop :=
  ∃ cs ok, e = .returned (.bool ok) ∧ w'.heap[g]? = some (.cells cs 24 (0, 0)) ∧ cs.size = 32 ∧ w.grownBy w' (some g) ∧ ok = (V.unx s).isSome ∧ ∀ d, V.unx s = some d → cs = cells32 d
theorem grown_of_below {w w' : World} (h : Below w.heap.size w w') (g : Nat) : w.grownBy w' (some g) := ⟨h.os, h.tape, h.output, h.size, fun k hk _ => h.block k hk⟩

set_option maxRecDepth 100000 in
set_option maxHeartbeats 3200000 in
theorem digUnhex_any (s : ByteArray) (g : Nat) (w : World) (_hs : s.size ≤ maxLen) (hg : w.heap[g]? = some (.cells (cells32 []) 24 (0, 0))) : Calls Tryz.prog 94 #[.string s, .slice (some ⟨g, 0, none⟩) 32 32] w (UnxPost s.data.toList g w) := by
  have hl := bs_size s
  unfold maxLen at _hs
  have HH0 := Lib.hid hg
  have HG0 := Lib.hid (grown_of_below (Below.refl _ w) g)
  clear hg
  by_cases h64 : s.size = 64
  · have hs64 : s.data.toList.length = 64 := by omega
    have hnq : ((s.size : Int) == 64) = true := by rw [h64]; rfl
    go_enter Tryz.func94, Tryz.ntmps94
    go_wp2
    go_loopw [16] (fun iv wx => ∃ (i : Nat) (out : V.Bs), i ≤ 32 ∧ iv = .int .i64 i ∧ out.length = i ∧ V.unhx s.data.toList = (V.unhx (s.data.toList.drop (2 * i))).map (out ++ ·) ∧ wx.heap[g]? = some (.cells (cells32 out) 24 (0, 0)) ∧ w.grownBy wx (some g)) (fun iv _ => 32 - (intOf iv).toNat)
    case atStart => exact ⟨0, [], Nat.zero_le _, rfl, rfl, by simp, HH0.out, HG0.out⟩
    case round =>
      obtain ⟨i, out, hi, rfl, hol, hg2, hh, hgr⟩ := hrel
      have HH := Lib.hid hh
      have HG := Lib.hid hgr
      clear hh hgr
      by_cases hlt : i < 32
      · skip
        have hb1 : 2 * i + 1 < s.data.toList.length := by omega
        have HAT := Lib.hid (V.unhx_at hg2 hb1)
        have he1 : s.data.toList[2 * i]'(by omega) = s[2 * i]'(by omega) := by simp; rfl
        have he2 : s.data.toList[2 * i + 1]'(by omega) = s[2 * i + 1]'(by omega) := by simp; rfl
        obtain ⟨c1, hc1⟩ : ∃ c1, c1 = s[2 * i]'(by omega) := ⟨_, rfl⟩
        obtain ⟨c2, hc2⟩ : ∃ c2, c2 = s[2 * i + 1]'(by omega) := ⟨_, rfl⟩
        have HC1 : Hid (s.data.toList[(2 * (i : Int)).toNat]? = some c1) := Lib.hid (by rw [show (2 * (i : Int)).toNat = 2 * i by omega, List.getElem?_eq_getElem (by omega), he1, ← hc1])
        have HC2 : Hid (s.data.toList[(2 * (i : Int) + 1).toNat]? = some c2) := Lib.hid (by rw [show (2 * (i : Int) + 1).toNat = 2 * i + 1 by omega, List.getElem?_eq_getElem (by omega), he2, ← hc2])
        have A1 : Hid (V.hexL c1 = none ∨ V.hexL c2 = none → V.unhx s.data.toList = none) := Lib.hid (fun h => HAT.out.1 (by rw [he1, he2, ← hc1, ← hc2]; exact h))
        have A2 := Lib.hid (fun (x y : Nat) (hx : V.hexL c1 = some x) (hy : V.hexL c2 = some y) => HAT.out.2 x y (by rw [he1, ← hc1]; exact hx) (by rw [he2, ← hc2]; exact hy))
        have hq1 : IntKind.i64.wrap (2 * (i : Int)) = 2 * (i : Int) := by unfold IntKind.wrap; simp [IntKind.signed, IntKind.bits]; omega
        have hq2 : IntKind.i64.wrap (2 * (i : Int) + 1) = 2 * (i : Int) + 1 := by unfold IntKind.wrap; simp [IntKind.signed, IntKind.bits]; omega
        have hi1 : (0 : Int) ≤ (i : Int) := by omega
        have hi2 : (i : Int) < 32 := by omega
        clear HAT he1 he2 hc1 hc2 hg2 hb1
        have hs64c := hs64
        go_wp2_with fail
        refine wp_region_held_drew (S := (fun W' => Below wr.heap.size wr W')) (by kernel_rfl) (by (try dsimp only); exact (Below.refl _ wr).drew) (fun hHeld => ?_)
        refine wpAnyH_take (i := 0) (v := ?_) rfl (by kernel_rfl) (by kernel_rfl) (by kernel_rfl) (fun _ _ _ h => h) (Or.inl ⟨by rfl, ?_⟩) (by assumption) ?_
        rotate_left
        · (intro w' hSw; (try dsimp only at hSw); go_simp; try with_reducible rfl)
        try simp only [List.getElem_toArray, List.getElem_cons_zero, Act.put, List.setIfInBounds_toArray, List.set_cons_succ, List.set_cons_zero]
        refine wpAnyH_take (i := 1) (v := ?_) rfl (by kernel_rfl) (by kernel_rfl) (by kernel_rfl) (fun _ _ _ h => h) (Or.inl ⟨by rfl, ?_⟩) (by assumption) ?_
        rotate_left
        · (intro w' hSw; (try dsimp only at hSw); go_simp; try with_reducible rfl)
        try simp only [List.getElem_toArray, List.getElem_cons_succ, List.getElem_cons_zero, Act.put, List.setIfInBounds_toArray, List.set_cons_succ, List.set_cons_zero]
        refine wpAnyH_take (i := 2) (v := (.int .i64 (2 * (i : Int)))) rfl (by kernel_rfl) (by kernel_rfl) (by kernel_rfl) (fun _ _ _ h => h) (Or.inl ⟨by rfl, fun w' hSw => by go_simp; try rfl⟩) (by assumption) ?_
        try simp only [List.getElem_toArray, List.getElem_cons_succ, List.getElem_cons_zero, Act.put, List.setIfInBounds_toArray, List.set_cons_succ, List.set_cons_zero]
        refine wpAnyH_take (i := 3) (v := (.int .u8 c1.toNat)) rfl (by kernel_rfl) (by kernel_rfl) (by kernel_rfl) (fun _ _ _ h => h) (Or.inl ⟨by rfl, fun w' hSw => ex_index rfl rfl rfl (by omega) HC1.out⟩) (by assumption) ?_
        try simp only [List.getElem_toArray, List.getElem_cons_succ, List.getElem_cons_zero, Act.put, List.setIfInBounds_toArray, List.set_cons_succ, List.set_cons_zero]
        refine wpAnyH_take (i := 5) (v := ?_) rfl (by kernel_rfl) (by kernel_rfl) (by kernel_rfl) (fun _ _ _ h => h) (Or.inl ⟨by rfl, ?_⟩) (by assumption) ?_
        rotate_left
        · (intro w' hSw; (try dsimp only at hSw); go_simp; try with_reducible rfl)
        try simp only [List.getElem_toArray, List.getElem_cons_succ, List.getElem_cons_zero, Act.put, List.setIfInBounds_toArray, List.set_cons_succ, List.set_cons_zero]
        refine wpAnyH_take (i := 6) (v := ?_) rfl (by kernel_rfl) (by kernel_rfl) (by kernel_rfl) (fun _ _ _ h => h) (Or.inl ⟨by rfl, ?_⟩) (by assumption) ?_
        rotate_left
        · (intro w' hSw; (try dsimp only at hSw); go_simp; try with_reducible rfl)
        try simp only [List.getElem_toArray, List.getElem_cons_succ, List.getElem_cons_zero, Act.put, List.setIfInBounds_toArray, List.set_cons_succ, List.set_cons_zero]
        refine wpAnyH_take (i := 7) (v := (.int .i64 (2 * (i : Int)))) rfl (by kernel_rfl) (by kernel_rfl) (by kernel_rfl) (fun _ _ _ h => h) (Or.inl ⟨by rfl, fun w' hSw => by go_simp; try rfl⟩) (by assumption) ?_
        try simp only [List.getElem_toArray, List.getElem_cons_succ, List.getElem_cons_zero, Act.put, List.setIfInBounds_toArray, List.set_cons_succ, List.set_cons_zero]
        refine wpAnyH_take (i := 8) (v := (.int .i64 (2 * (i : Int) + 1))) rfl (by kernel_rfl) (by kernel_rfl) (by kernel_rfl) (fun _ _ _ h => h) (Or.inl ⟨by rfl, fun w' hSw => by go_simp; try rfl⟩) (by assumption) ?_
        try simp only [List.getElem_toArray, List.getElem_cons_succ, List.getElem_cons_zero, Act.put, List.setIfInBounds_toArray, List.set_cons_succ, List.set_cons_zero]
        refine wpAnyH_take (i := 9) (v := (.int .u8 c2.toNat)) rfl (by kernel_rfl) (by kernel_rfl) (by kernel_rfl) (fun _ _ _ h => h) (Or.inl ⟨by rfl, fun w' hSw => ex_index rfl rfl rfl (by omega) HC2.out⟩) (by assumption) ?_
        try simp only [List.getElem_toArray, List.getElem_cons_succ, List.getElem_cons_zero, Act.put, List.setIfInBounds_toArray, List.set_cons_succ, List.set_cons_zero]
        refine wpAnyH_ready (rs := [4]) (by kernel_rfl) (by simp) ?_
        refine AllReadyH.cons (o := _) rfl (fun K hK => ?_) AllReadyH.nil
        go_simp
        refine (digLIdx_any c1 _).mono ?_
        rintro e wA ⟨rfl, rfl⟩
        try dsimp only
        refine hK.out _ _ ?_ (fun hHeld => ?_)
        · (try dsimp only); exact (Below.refl _ wr).drew
        clear hK K
        try simp only [List.getElem_toArray, List.getElem_cons_succ, List.getElem_cons_zero, Act.put, List.setIfInBounds_toArray, List.set_cons_succ, List.set_cons_zero]
        refine wpAnyH_ready (rs := [10]) (by kernel_rfl) (by simp) ?_
        refine AllReadyH.cons (o := _) rfl (fun K hK => ?_) AllReadyH.nil
        go_simp
        refine (digLIdx_any c2 _).mono ?_
        rintro e wB ⟨rfl, rfl⟩
        try dsimp only
        refine hK.out _ _ ?_ (fun hHeld => ?_)
        · (try dsimp only); exact (Below.refl _ wr).drew
        clear hK K
        try simp only [List.getElem_toArray, List.getElem_cons_succ, List.getElem_cons_zero, Act.put, List.setIfInBounds_toArray, List.set_cons_succ, List.set_cons_zero]
        refine wpAnyH_take (i := 11) (v := ?_) rfl (by kernel_rfl) (by kernel_rfl) (by kernel_rfl) (fun _ _ _ h => h) (Or.inl ⟨by rfl, ?_⟩) (by assumption) ?_
        rotate_left
        · (intro w' hSw; (try dsimp only at hSw); go_simp; try with_reducible rfl)
        try simp only [List.getElem_toArray, List.getElem_cons_succ, List.getElem_cons_zero, Act.put, List.setIfInBounds_toArray, List.set_cons_succ, List.set_cons_zero]
        refine wpAnyH_take (i := 12) (v := ?_) rfl (by kernel_rfl) (by kernel_rfl) (by kernel_rfl) (fun _ _ _ h => h) (Or.inl ⟨by rfl, ?_⟩) (by assumption) ?_
        rotate_left
        · (intro w' hSw; (try dsimp only at hSw); go_simp; try with_reducible rfl)
        try simp only [List.getElem_toArray, List.getElem_cons_succ, List.getElem_cons_zero, Act.put, List.setIfInBounds_toArray, List.set_cons_succ, List.set_cons_zero]
        refine wpAnyH_done (by kernel_rfl) ?_ _
        clear hHeld HC1 HC2
        rcases hx : V.hexL c1 with _ | x
        · have hd1 : dvL (-1) c1 = (-1) := by unfold dvL; rw [hx]
          have HNO := Lib.hid (A1.out (.inl hx))
          clear hx A1 A2
          have HUN : Hid (V.unx s.data.toList = none) := Lib.hid (by unfold V.unx; rw [if_pos hs64, HNO.out])
          have HGG := Lib.hid (HG.out.trans (grown_of_below (Below.refl _ wr).drew g))
          have HHG : Hid (wr.drew.heap[g]? = some (.cells (cells32 out) 24 (0, 0))) := Lib.hid HH.out
          go_wp2
          go_ret
          exact ⟨cells32 out, false, rfl, HHG.out, cells32_size (by omega), HGG.out, by rw [HUN.out]; rfl, fun d h => by rw [HUN.out] at h; cases h⟩
        · have hd1 : dvL (-1) c1 = (x : Int) := by unfold dvL; rw [hx]
          have hx16 := V.hexL_lt hx
          have hxn : ¬ (x : Int) < 0 := by omega
          have hxe : ((x : Int) == 16) = false := by rw [beq_eq_false_iff_ne]; omega
          rcases hy : V.hexL c2 with _ | y
          · have hd2 : dvL (-1) c2 = (-1) := by unfold dvL; rw [hy]
            have HNO := Lib.hid (A1.out (.inr hy))
            clear hx hy A1 A2
            have HUN : Hid (V.unx s.data.toList = none) := Lib.hid (by unfold V.unx; rw [if_pos hs64, HNO.out])
            have HGG := Lib.hid (HG.out.trans (grown_of_below (Below.refl _ wr).drew g))
            have HHG : Hid (wr.drew.heap[g]? = some (.cells (cells32 out) 24 (0, 0))) := Lib.hid HH.out
            go_wp2
            go_ret
            exact ⟨cells32 out, false, rfl, HHG.out, cells32_size (by omega), HGG.out, by rw [HUN.out]; rfl, fun d h => by rw [HUN.out] at h; cases h⟩
          · have hd2 : dvL (-1) c2 = (y : Int) := by unfold dvL; rw [hy]
            have hy16 := V.hexL_lt hy
            have hyn : ¬ (y : Int) < 0 := by omega
            have hye : ((y : Int) == 16) = false := by rw [beq_eq_false_iff_ne]; omega
            have HNX0 := A2.out x y hx hy
            clear hx hy A1 A2
            obtain ⟨v, hv⟩ : ∃ v, v = UInt8.ofNat (16 * x + y) := ⟨_, rfl⟩
            have hvv : (v.toNat : Int) = 16 * (x : Int) + (y : Int) := by rw [hv]; simp; omega
            rw [← hv] at HNX0
            have HNX := Lib.hid HNX0
            clear hv HNX0
            have hw1 : IntKind.i64.wrap (16 * (x : Int)) = 16 * (x : Int) := by unfold IntKind.wrap; simp [IntKind.signed, IntKind.bits]; omega
            have hw2 : IntKind.i64.wrap (16 * (x : Int) + (y : Int)) = 16 * (x : Int) + (y : Int) := by unfold IntKind.wrap; simp [IntKind.signed, IntKind.bits]; omega
            have hw3 : IntKind.u8.wrap (16 * (x : Int) + (y : Int)) = 16 * (x : Int) + (y : Int) := by unfold IntKind.wrap; simp [IntKind.signed, IntKind.bits]; omega
            have HVV := Lib.hid hvv
            clear hvv
            have HGG := Lib.hid (HG.out.trans (grown_of_below (Below.refl _ wr).drew g))
            have HHG : Hid (wr.drew.heap[g]? = some (.cells (cells32 out) 24 (0, 0))) := Lib.hid HH.out
            have hil : i < (cells32 out).size := by rw [cells32_size (by omega)]; exact hlt
            have hxx := (cells32_set (by omega : out.length < 32) v)
            rw [hol, HVV.out] at hxx
            have HXX := Lib.hid hxx
            clear hxx
            go_wp2_with (first | (refine wl_put1 rfl 5 _ _ rfl g i (cells32 out) _ HHG.out hil rfl (.int .u8 (16 * (x : Int) + (y : Int))) rfl (by kernel_rfl) rfl ?_; intro W2 hp2) | fail)
            have HP2 := Lib.hid hp2
            clear hp2
            go_wp2
            go_roundw
            case rel => exact ⟨i + 1, out ++ [v], by omega, by go_num, by simp [hol], HNX.out, by rw [← HXX.out]; exact HP2.out.here, HGG.out.trans HP2.out.grown⟩
            case measure => simp [intOf]; omega
      · obtain rfl : i = 32 := by omega
        have HUN : Hid (V.unx s.data.toList = some out) := Lib.hid (by
          unfold V.unx
          rw [if_pos hs64, hg2, List.drop_of_length_le (by omega)]
          simp [V.unhx])
        clear hg2
        go_wp2
        go_ret
        exact ⟨cells32 out, true, rfl, HH.out, cells32_size (by omega), HG.out, by rw [HUN.out]; rfl, fun d h => by rw [HUN.out] at h; cases h; rfl⟩
  · have HUN : Hid (V.unx s.data.toList = none) := Lib.hid (by unfold V.unx; rw [if_neg (by omega)])
    have hnq : ((s.size : Int) == 64) = false := by rw [beq_eq_false_iff_ne]; omega
    go_enter Tryz.func94, Tryz.ntmps94
    go_wp2
    go_ret
    exact ⟨cells32 [], false, rfl, HH0.out, cells32_size (by simp), HG0.out, by rw [HUN.out]; rfl, fun d h => by rw [HUN.out] at h; cases h⟩
end Go.Proofs.YtnhfaincdabdkaaGreatDoor
