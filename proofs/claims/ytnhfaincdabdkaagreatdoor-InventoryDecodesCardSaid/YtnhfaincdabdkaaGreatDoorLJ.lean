/-
  Walk: the reference's unhex. (Printed by gen_LH.py.)
  Walks: Parse of digests, of both.
-/
import Derived.Test.YtnhfaincdabdkaaGreatDoorLH
import Derived.Test.YtnhfaincdabdkaaGreatDoorJM
namespace Go.Proofs.YtnhfaincdabdkaaGreatDoor
open Go.RowKit

set_option maxRecDepth 100000 in
theorem rvalueL_any (c : UInt8) (w : World) : Calls Tryz.prog 135 #[.int .u8 c.toNat] w fun e w' => e = .returned (.int .i64 (dvL 16 c)) ∧ w' = w := by
  have hc := c.toNat_lt
  have hdv : dvL 16 c = if 48 ≤ c.toNat ∧ c.toNat ≤ 57 then ((c.toNat : Int) - 48) else if 97 ≤ c.toNat ∧ c.toNat ≤ 102 then ((c.toNat : Int) - 97 + 10) else 16 := by
    unfold dvL V.hexL
    by_cases h1 : 48 ≤ c.toNat ∧ c.toNat ≤ 57
    · rw [if_pos h1, if_pos h1]
      show ((c.toNat - 48 : Nat) : Int) = _
      omega
    · rw [if_neg h1, if_neg h1]
      by_cases h2 : 97 ≤ c.toNat ∧ c.toNat ≤ 102
      · rw [if_pos h2, if_pos h2]
        show ((c.toNat - 87 : Nat) : Int) = _
        omega
      · rw [if_neg h2, if_neg h2]
  obtain ⟨m, hm⟩ : ∃ m, m = c.toNat := ⟨_, rfl⟩
  rw [← hm] at hdv hc ⊢
  clear hm
  have HDV := Lib.hid hdv
  clear hdv
  by_cases h1 : 48 ≤ m ∧ m ≤ 57
  · obtain ⟨h2, h3⟩ := h1
    have HD : Hid (dvL 16 c = (m : Int) - 48) := Lib.hid (by rw [HDV.out, if_pos ⟨h2, h3⟩])
    have q1 : (48 : Int) ≤ (m : Int) := by omega
    have q2 : (m : Int) ≤ 57 := by omega
    have q3 : IntKind.u8.wrap ((m : Int) - 48) = (m : Int) - 48 := by unfold IntKind.wrap; simp [IntKind.signed, IntKind.bits]; omega
    have q4 : IntKind.i64.wrap ((m : Int) - 48) = (m : Int) - 48 := by unfold IntKind.wrap; simp [IntKind.signed, IntKind.bits]; omega
    go_enter Tryz.func135, Tryz.ntmps135
    go_wp2
    go_ret
    exact ⟨by rw [HD.out]; rfl, rfl⟩
  · by_cases h4 : 97 ≤ m ∧ m ≤ 102
    · obtain ⟨h2, h3⟩ := h4
      have HD : Hid (dvL 16 c = (m : Int) - 97 + 10) := Lib.hid (by rw [HDV.out, if_neg h1, if_pos ⟨h2, h3⟩])
      have q1 : (48 : Int) ≤ (m : Int) := by omega
      have q2 : ¬ (m : Int) ≤ 57 := by omega
      have q5 : (97 : Int) ≤ (m : Int) := by omega
      have q6 : (m : Int) ≤ 102 := by omega
      have q3 : IntKind.u8.wrap ((m : Int) - 97) = (m : Int) - 97 := by unfold IntKind.wrap; simp [IntKind.signed, IntKind.bits]; omega
      have q4 : IntKind.i64.wrap ((m : Int) - 97) = (m : Int) - 97 := by unfold IntKind.wrap; simp [IntKind.signed, IntKind.bits]; omega
      have q7 : IntKind.i64.wrap ((m : Int) - 97 + 10) = (m : Int) - 97 + 10 := by unfold IntKind.wrap; simp [IntKind.signed, IntKind.bits]; omega
      go_enter Tryz.func135, Tryz.ntmps135
      go_wp2
      go_ret
      exact ⟨by rw [HD.out]; rfl, rfl⟩
    · have HD : Hid (dvL 16 c = 16) := Lib.hid (by rw [HDV.out, if_neg h1, if_neg h4])
      have hcase : (¬ (48 : Int) ≤ (m : Int) ∧ ¬ (97 : Int) ≤ (m : Int)) ∨ ((48 : Int) ≤ (m : Int) ∧ ¬ (m : Int) ≤ 57 ∧ ¬ (97 : Int) ≤ (m : Int)) ∨ ((48 : Int) ≤ (m : Int) ∧ ¬ (m : Int) ≤ 57 ∧ (97 : Int) ≤ (m : Int) ∧ ¬ (m : Int) ≤ 102) := by omega
      clear h1 h4 HDV
      rcases hcase with ⟨q1, q2⟩ | ⟨q1, q2, q3⟩ | ⟨q1, q2, q3, q4⟩
      all_goals
        go_enter Tryz.func135, Tryz.ntmps135
        go_wp2
        go_ret
        exact ⟨by rw [HD.out]; rfl, rfl⟩

/-- what the reference's unhex returns -/
def RUnxPost (s : V.Bs) (w : World) (e : Ending) (w' : World) : Prop :=
  ∃ u, e = .returned (.tuple #[u, .bool (V.unx s).isSome]) ∧ (∀ d, V.unx s = some d → Buf w.heap.size u d w w') ∧ (V.unx s = none → u = .slice none 0 0) ∧ Below w.heap.size w w'

set_option maxRecDepth 100000 in
set_option maxHeartbeats 3200000 in
theorem rUnhex_any (s : ByteArray) (w : World) (_hs : s.size ≤ maxLen) : Calls Tryz.prog 99 #[.string s, .int .i64 32] w (RUnxPost s.data.toList w) := by
  have hl := bs_size s
  unfold maxLen at _hs
  have HB0 : Hid (Buf w.heap.size (.slice none 0 0) [] w w) := Lib.hid (Buf.nil (Below.refl _ _) (Nat.le_refl _))
  by_cases h64 : s.size = 64
  · have hs64 : s.data.toList.length = 64 := by omega
    have hnq : ((s.size : Int) == 64) = true := by rw [h64]; rfl
    go_enter Tryz.func99, Tryz.ntmps99
    go_wp2
    go_loopw [6, 7] (fun ov iv wx => ∃ (i : Nat) (out : V.Bs), i ≤ 32 ∧ iv = .int .i64 i ∧ out.length = i ∧ V.unhx s.data.toList = (V.unhx (s.data.toList.drop (2 * i))).map (out ++ ·) ∧ Buf w.heap.size ov out w wx) (fun _ iv _ => 32 - (intOf iv).toNat)
    case atStart => exact ⟨0, [], Nat.zero_le _, rfl, rfl, by simp, HB0.out⟩
    case round =>
      obtain ⟨i, out, hi, rfl, hol, hg2, hb⟩ := hrel
      have HB := Lib.hid hb
      obtain ⟨oa, oc, rfl⟩ := hb.slice
      clear hb
      by_cases hlt : i < 32
      · have HOL := Lib.hid hol
        have hb1 : 2 * i + 1 < s.data.toList.length := by omega
        have HAT := Lib.hid (V.unhx_at hg2 hb1)
        have he1 : s.data.toList[2 * i]'(by omega) = s[2 * i]'(by omega) := by simp; rfl
        have he2 : s.data.toList[2 * i + 1]'(by omega) = s[2 * i + 1]'(by omega) := by simp; rfl
        obtain ⟨c1, hc1⟩ : ∃ c1, c1 = s[2 * i]'(by omega) := ⟨_, rfl⟩
        obtain ⟨c2, hc2⟩ : ∃ c2, c2 = s[2 * i + 1]'(by omega) := ⟨_, rfl⟩
        have HC1 : Hid (s.data.toList[(2 * (i : Int)).toNat]? = some c1) := Lib.hid (by rw [show (2 * (i : Int)).toNat = 2 * i by omega, List.getElem?_eq_getElem (by omega), he1, ← hc1])
        have HC2 : Hid (s.data.toList[(2 * (i : Int) + 1).toNat]? = some c2) := Lib.hid (by rw [show (2 * (i : Int) + 1).toNat = 2 * i + 1 by omega, List.getElem?_eq_getElem (by omega), he2, ← hc2])
        have A1 : Hid (V.hexL c1 = none ∨ V.hexL c2 = none → V.unhx s.data.toList = none) := Lib.hid (fun h => HAT.out.1 (by rw [he1, he2, ← hc1, ← hc2]; exact h))
        have A2 := Lib.hid (fun (x y : Nat) (hx : V.hexL c1 = some x) (hy : V.hexL c2 = some y) => HAT.out.2 x y (by rw [he1, ← hc1]; exact hx) (by rw [he2, ← hc2]; exact hy))
        have hq1 : IntKind.i64.wrap (2 * (i : Int)) = 2 * (i : Int) := by unfold IntKind.wrap; simp [IntKind.signed, IntKind.bits]; omega
        have hq2 : IntKind.i64.wrap (2 * (i : Int) + 1) = 2 * (i : Int) + 1 := by unfold IntKind.wrap; simp [IntKind.signed, IntKind.bits]; omega
        have hi1 : (0 : Int) ≤ (i : Int) := by omega
        have hi2 : (i : Int) < 32 := by omega
        clear HAT he1 he2 hc1 hc2 hg2 hb1
        have hs64c := hs64
        clear hol
        go_wp2_with fail
        refine wp_region_held_drew (S := (fun W' => Below wr.heap.size wr W')) (by kernel_rfl) (by (try dsimp only); exact (Below.refl _ wr).drew) (fun hHeld => ?_)
        refine wpAnyH_take (i := 0) (v := ?_) rfl (by kernel_rfl) (by kernel_rfl) (by kernel_rfl) (fun _ _ _ h => h) (Or.inl ⟨by rfl, ?_⟩) (by assumption) ?_
        rotate_left
        · (intro w' hSw; (try dsimp only at hSw); go_simp; try with_reducible rfl)
        try simp only [List.getElem_toArray, List.getElem_cons_zero, Act.put, List.setIfInBounds_toArray, List.set_cons_succ, List.set_cons_zero]
        refine wpAnyH_take (i := 1) (v := ?_) rfl (by kernel_rfl) (by kernel_rfl) (by kernel_rfl) (fun _ _ _ h => h) (Or.inl ⟨by rfl, ?_⟩) (by assumption) ?_
        rotate_left
        · (intro w' hSw; (try dsimp only at hSw); go_simp; try with_reducible rfl)
        try simp only [List.getElem_toArray, List.getElem_cons_succ, List.getElem_cons_zero, Act.put, List.setIfInBounds_toArray, List.set_cons_succ, List.set_cons_zero]
        refine wpAnyH_take (i := 2) (v := (.int .i64 (2 * (i : Int)))) rfl (by kernel_rfl) (by kernel_rfl) (by kernel_rfl) (fun _ _ _ h => h) (Or.inl ⟨by rfl, fun w' hSw => by go_simp; try rfl⟩) (by assumption) ?_
        try simp only [List.getElem_toArray, List.getElem_cons_succ, List.getElem_cons_zero, Act.put, List.setIfInBounds_toArray, List.set_cons_succ, List.set_cons_zero]
        refine wpAnyH_take (i := 3) (v := (.int .u8 c1.toNat)) rfl (by kernel_rfl) (by kernel_rfl) (by kernel_rfl) (fun _ _ _ h => h) (Or.inl ⟨by rfl, fun w' hSw => ex_index rfl rfl rfl (by omega) HC1.out⟩) (by assumption) ?_
        try simp only [List.getElem_toArray, List.getElem_cons_succ, List.getElem_cons_zero, Act.put, List.setIfInBounds_toArray, List.set_cons_succ, List.set_cons_zero]
        refine wpAnyH_take (i := 5) (v := ?_) rfl (by kernel_rfl) (by kernel_rfl) (by kernel_rfl) (fun _ _ _ h => h) (Or.inl ⟨by rfl, ?_⟩) (by assumption) ?_
        rotate_left
        · (intro w' hSw; (try dsimp only at hSw); go_simp; try with_reducible rfl)
        try simp only [List.getElem_toArray, List.getElem_cons_succ, List.getElem_cons_zero, Act.put, List.setIfInBounds_toArray, List.set_cons_succ, List.set_cons_zero]
        refine wpAnyH_take (i := 6) (v := ?_) rfl (by kernel_rfl) (by kernel_rfl) (by kernel_rfl) (fun _ _ _ h => h) (Or.inl ⟨by rfl, ?_⟩) (by assumption) ?_
        rotate_left
        · (intro w' hSw; (try dsimp only at hSw); go_simp; try with_reducible rfl)
        try simp only [List.getElem_toArray, List.getElem_cons_succ, List.getElem_cons_zero, Act.put, List.setIfInBounds_toArray, List.set_cons_succ, List.set_cons_zero]
        refine wpAnyH_take (i := 7) (v := (.int .i64 (2 * (i : Int)))) rfl (by kernel_rfl) (by kernel_rfl) (by kernel_rfl) (fun _ _ _ h => h) (Or.inl ⟨by rfl, fun w' hSw => by go_simp; try rfl⟩) (by assumption) ?_
        try simp only [List.getElem_toArray, List.getElem_cons_succ, List.getElem_cons_zero, Act.put, List.setIfInBounds_toArray, List.set_cons_succ, List.set_cons_zero]
        refine wpAnyH_take (i := 8) (v := (.int .i64 (2 * (i : Int) + 1))) rfl (by kernel_rfl) (by kernel_rfl) (by kernel_rfl) (fun _ _ _ h => h) (Or.inl ⟨by rfl, fun w' hSw => by go_simp; try rfl⟩) (by assumption) ?_
        try simp only [List.getElem_toArray, List.getElem_cons_succ, List.getElem_cons_zero, Act.put, List.setIfInBounds_toArray, List.set_cons_succ, List.set_cons_zero]
        refine wpAnyH_take (i := 9) (v := (.int .u8 c2.toNat)) rfl (by kernel_rfl) (by kernel_rfl) (by kernel_rfl) (fun _ _ _ h => h) (Or.inl ⟨by rfl, fun w' hSw => ex_index rfl rfl rfl (by omega) HC2.out⟩) (by assumption) ?_
        try simp only [List.getElem_toArray, List.getElem_cons_succ, List.getElem_cons_zero, Act.put, List.setIfInBounds_toArray, List.set_cons_succ, List.set_cons_zero]
        refine wpAnyH_ready (rs := [4]) (by kernel_rfl) (by simp) ?_
        refine AllReadyH.cons (o := _) rfl (fun K hK => ?_) AllReadyH.nil
        go_simp
        refine (rvalueL_any c1 _).mono ?_
        rintro e wA ⟨rfl, rfl⟩
        try dsimp only
        refine hK.out _ _ ?_ (fun hHeld => ?_)
        · (try dsimp only); exact (Below.refl _ wr).drew
        clear hK K
        try simp only [List.getElem_toArray, List.getElem_cons_succ, List.getElem_cons_zero, Act.put, List.setIfInBounds_toArray, List.set_cons_succ, List.set_cons_zero]
        refine wpAnyH_ready (rs := [10]) (by kernel_rfl) (by simp) ?_
        refine AllReadyH.cons (o := _) rfl (fun K hK => ?_) AllReadyH.nil
        go_simp
        refine (rvalueL_any c2 _).mono ?_
        rintro e wB ⟨rfl, rfl⟩
        try dsimp only
        refine hK.out _ _ ?_ (fun hHeld => ?_)
        · (try dsimp only); exact (Below.refl _ wr).drew
        clear hK K
        try simp only [List.getElem_toArray, List.getElem_cons_succ, List.getElem_cons_zero, Act.put, List.setIfInBounds_toArray, List.set_cons_succ, List.set_cons_zero]
        refine wpAnyH_take (i := 11) (v := ?_) rfl (by kernel_rfl) (by kernel_rfl) (by kernel_rfl) (fun _ _ _ h => h) (Or.inl ⟨by rfl, ?_⟩) (by assumption) ?_
        rotate_left
        · (intro w' hSw; (try dsimp only at hSw); go_simp; try with_reducible rfl)
        try simp only [List.getElem_toArray, List.getElem_cons_succ, List.getElem_cons_zero, Act.put, List.setIfInBounds_toArray, List.set_cons_succ, List.set_cons_zero]
        refine wpAnyH_take (i := 12) (v := ?_) rfl (by kernel_rfl) (by kernel_rfl) (by kernel_rfl) (fun _ _ _ h => h) (Or.inl ⟨by rfl, ?_⟩) (by assumption) ?_
        rotate_left
        · (intro w' hSw; (try dsimp only at hSw); go_simp; try with_reducible rfl)
        try simp only [List.getElem_toArray, List.getElem_cons_succ, List.getElem_cons_zero, Act.put, List.setIfInBounds_toArray, List.set_cons_succ, List.set_cons_zero]
        refine wpAnyH_done (by kernel_rfl) ?_ _
        clear hHeld HC1 HC2
        have hol := HOL.out
        rcases hx : V.hexL c1 with _ | x
        · have hd1 : dvL 16 c1 = 16 := by unfold dvL; rw [hx]
          have HNO := Lib.hid (A1.out (.inl hx))
          clear hx A1 A2
          have HUN : Hid (V.unx s.data.toList = none) := Lib.hid (by unfold V.unx; rw [if_pos hs64, HNO.out])
          have HBE := Lib.hid (HB.out.2.1.trans ((Below.refl _ wr).drew.mono HB.out.2.1.size))
          go_wp2
          go_ret2
          exact ⟨.slice none 0 0, by rw [HUN.out]; rfl, fun d h => (by rw [HUN.out] at h; cases h), fun _ => rfl, HBE.out⟩
        · have hd1 : dvL 16 c1 = (x : Int) := by unfold dvL; rw [hx]
          have hx16 := V.hexL_lt hx
          have hxn : ¬ (x : Int) < 0 := by omega
          have hxe : ((x : Int) == 16) = false := by rw [beq_eq_false_iff_ne]; omega
          rcases hy : V.hexL c2 with _ | y
          · have hd2 : dvL 16 c2 = 16 := by unfold dvL; rw [hy]
            have HNO := Lib.hid (A1.out (.inr hy))
            clear hx hy A1 A2
            have HUN : Hid (V.unx s.data.toList = none) := Lib.hid (by unfold V.unx; rw [if_pos hs64, HNO.out])
            have HBE := Lib.hid (HB.out.2.1.trans ((Below.refl _ wr).drew.mono HB.out.2.1.size))
            go_wp2
            go_ret2
            exact ⟨.slice none 0 0, by rw [HUN.out]; rfl, fun d h => (by rw [HUN.out] at h; cases h), fun _ => rfl, HBE.out⟩
          · have hd2 : dvL 16 c2 = (y : Int) := by unfold dvL; rw [hy]
            have hy16 := V.hexL_lt hy
            have hyn : ¬ (y : Int) < 0 := by omega
            have hye : ((y : Int) == 16) = false := by rw [beq_eq_false_iff_ne]; omega
            have HNX0 := A2.out x y hx hy
            clear hx hy A1 A2
            obtain ⟨v, hv⟩ : ∃ v, v = UInt8.ofNat (16 * x + y) := ⟨_, rfl⟩
            have hvv : (v.toNat : Int) = 16 * (x : Int) + (y : Int) := by rw [hv]; simp; omega
            rw [← hv] at HNX0
            have HNX := Lib.hid HNX0
            clear hv HNX0
            have hw1 : IntKind.i64.wrap (16 * (x : Int)) = 16 * (x : Int) := by unfold IntKind.wrap; simp [IntKind.signed, IntKind.bits]; omega
            have hw2 : IntKind.i64.wrap (16 * (x : Int) + (y : Int)) = 16 * (x : Int) + (y : Int) := by unfold IntKind.wrap; simp [IntKind.signed, IntKind.bits]; omega
            have hw3 : IntKind.u8.wrap (16 * (x : Int) + (y : Int)) = 16 * (x : Int) + (y : Int) := by unfold IntKind.wrap; simp [IntKind.signed, IntKind.bits]; omega
            have HVV := Lib.hid hvv
            clear hvv
            have HB2 : Hid (Buf w.heap.size (.slice oa out.length oc) out w (wr.drew.alloc (.cells #[.int .u8 (16 * (x : Int) + (y : Int))] 5))) := Lib.hid (HB.out.below (((Below.refl _ wr).drew).alloc (Nat.le_refl _) _))
            have HBN : Hid (∀ j u, (bvals [v])[j]? = some u → (wr.drew.alloc (.cells #[.int .u8 (16 * (x : Int) + (y : Int))] 5)).cell? ⟨wr.drew.heap.size, j, none⟩ = some u) := Lib.hid (by rw [← HVV.out]; exact bytes_new [v] wr.drew)
            have hol3 : out.length ≤ 32 := by omega
            go_wp2_with (first | (refine wl_bytes rfl _ _ rfl w.heap.size (.slice oa out.length oc) out w rfl HB2.out wr.drew.heap.size 1 [v] rfl HBN.out (by simp; omega) ?_; intro v9 w9 hb9) | fail)
            have HB9 := Lib.hid hb9
            clear hb9 HB2 HBN HB
            go_wp2
            go_roundw
            case rel => exact ⟨i + 1, out ++ [v], by omega, by go_num, by simp [hol], HNX.out, HB9.out⟩
            case measure => simp [intOf]; omega
      · obtain rfl : i = 32 := by omega
        have HUN : Hid (V.unx s.data.toList = some out) := Lib.hid (by
          unfold V.unx
          rw [if_pos hs64, hg2, List.drop_of_length_le (by omega)]
          simp [V.unhx])
        clear hg2 hol
        go_wp2
        go_ret2
        exact ⟨.slice oa out.length oc, by rw [HUN.out]; rfl, fun d h => (by rw [HUN.out] at h; cases h; exact HB.out), fun h => (by rw [HUN.out] at h; cases h), HB.out.2.1⟩
  · have HUN : Hid (V.unx s.data.toList = none) := Lib.hid (by unfold V.unx; rw [if_neg (by omega)])
    have hnq : ((s.size : Int) == 64) = false := by rw [beq_eq_false_iff_ne]; omega
    go_enter Tryz.func99, Tryz.ntmps99
    go_wp2
    go_ret2
    exact ⟨.slice none 0 0, by rw [HUN.out]; rfl, fun d h => (by rw [HUN.out] at h; cases h), fun _ => rfl, Below.refl _ _⟩
end Go.Proofs.YtnhfaincdabdkaaGreatDoor
namespace Go.Proofs.YtnhfaincdabdkaaGreatDoor
open Go.RowKit

theorem parD_no {S : V.Bs} (h : Lib.hasPrefix S V.pre256 = false) : V.parD S = none := by
  unfold V.parD
  rw [if_neg]
  rintro ⟨hl, ht⟩
  rw [← Lib.hasPrefix_of_take] at h
  have e : V.pre256.length = 7 := rfl
  rw [e, ht] at h
  simp at h
  omega
theorem parD_yes {S : V.Bs} (h : Lib.hasPrefix S V.pre256 = true) : V.parD S = V.unx (S.drop 7) ∧ Lib.trimPrefix S V.pre256 = S.drop 7 := by
  have h0 := h
  rw [← Lib.hasPrefix_of_take] at h
  have e : V.pre256.length = 7 := rfl
  rw [e] at h
  simp only [Bool.and_eq_true, decide_eq_true_eq, beq_iff_eq] at h
  refine ⟨?_, by unfold Lib.trimPrefix; rw [if_pos h0]; rfl⟩
  unfold V.parD V.unx
  rw [List.length_drop]
  by_cases hl : S.length = 71
  · rw [if_pos ⟨hl, h.2⟩, if_pos (by omega)]
  · rw [if_neg (fun e => hl e.1), if_neg (by omega)]
/-- what Parse of digests returns -/
def DigPost (S : V.Bs) (w : World) (e : Ending) (w' : World) : Prop := e = .returned (.tuple #[.agg (cells32 ((V.parD S).getD [])), .bool (V.parD S).isSome]) ∧ Below w.heap.size w w'
theorem cells32_one (out : V.Bs) : (cells32 out).all (·.oneCell') = true := by
  rw [Array.all_eq_true_iff_forall_mem]
  intro v hv
  unfold cells32 at hv
  simp at hv
  rcases hv with ⟨b, _, rfl⟩ | ⟨_, rfl⟩ <;> rfl
theorem loadVar_c32 {w : World} {g : Nat} {t : TypeId} {cs : Array Value} (hs : cs.size = 32) (hg : w.heap[g]? = some (.cells cs t (0, 0))) : (loadVar 24 ⟨g, 0, none⟩).run Tryz.prog w = .ok (.agg cs) w :=
  run_loadVar_row w g t _ cs (0, 0) _ hg Tryz.underlying24 rfl (by rw [digInfo, hs])
theorem parD_len {S d : V.Bs} (h : V.parD S = some d) : d.length = 32 := by
  unfold V.parD at h
  split at h
  · rename_i e
    have := V.unhx_len _ (Nat.le_refl _) h
    rw [List.length_drop] at this
    omega
  · cases h

set_option maxRecDepth 100000 in
set_option maxHeartbeats 3200000 in
theorem digParse_any (s : ByteArray) (w : World) (hs : s.size ≤ maxLen) : Calls Tryz.prog 45 #[.string s] w (DigPost s.data.toList w) := by
  have hb0 : Below w.heap.size w ((w.alloc (.cells (cells32 []) 24)).alloc (.cells (cells32 []) 24)) := ((Below.refl _ w).alloc (Nat.le_refl _) _).alloc (by simp) _
  have hg0 : ((w.alloc (.cells (cells32 []) 24)).alloc (.cells (cells32 []) 24)).heap[w.heap.size]? = some (.cells (cells32 []) 24 (0, 0)) := by
    rw [Below.heap_alloc _ _ _ (by simp)]; exact heap_alloc_new w _
  have hg1 : ((w.alloc (.cells (cells32 []) 24)).alloc (.cells (cells32 []) 24)).heap[w.heap.size + 1]? = some (.cells (cells32 []) 24 (0, 0)) := by
    have := heap_alloc_new (w.alloc (.cells (cells32 []) 24)) (.cells (cells32 []) 24); simpa using this
  have hl := bs_size s
  unfold maxLen at hs
  have HB0 := Lib.hid hb0
  have HG0 := Lib.hid hg0
  have HG1 := Lib.hid hg1
  clear hb0 hg0 hg1
  go_enter Tryz.func45, Tryz.ntmps45
  go_wp2_with fail
  change Calls _ _ _ ((w.alloc (.cells (cells32 []) 24)).alloc (.cells (cells32 []) 24)) _
  have hz2 : ((w.alloc (.cells (cells32 []) 24)).alloc (.cells (cells32 []) 24)).heap.size = w.heap.size + 2 := by simp
  generalize (w.alloc (.cells (cells32 []) 24)).alloc (.cells (cells32 []) 24) = W2 at *
  refine (Tryz.strings_CutPrefix s ⟨#[115, 104, 97, 50, 53, 54, 58]⟩ W2).mono ?_
  rintro e w' ⟨rfl, rfl⟩
  have hpp : (ByteArray.mk #[115, 104, 97, 50, 53, 54, 58]).data.toList = V.pre256 := rfl
  rw [hpp]
  clear hpp
  have hzI : (Tryz.prog.info? 24).map (·.size) = some (cells32 []).size := by rw [digInfo]; rfl
  have HZI := Lib.hid hzI
  clear hzI
  rcases hpre : Lib.hasPrefix s.data.toList V.pre256 with _ | _
  · have HN := Lib.hid (parD_no hpre)
    clear hpre
    go_wp2_with (first | (refine wl_putRow rfl 24 _ _ rfl w.heap.size (cells32 []) _ HG0.out rfl (cells32 []) rfl rfl HZI.out (cells32_one _) ?_; intro W3 hp3) | fail)
    have HP3 := Lib.hid hp3
    clear hp3
    refine bodyPost_ret (v := .tuple #[.agg (cells32 []), .bool false]) ?_ rfl ⟨?_, HP3.out.below HB0.out (Nat.le_refl _)⟩
    · exact results_two Tryz.results45 rfl rfl (loadVar_c32 rfl HP3.out.here)
    · rw [HN.out]; rfl
  · obtain ⟨hpd, htp⟩ := parD_yes hpre
    rw [htp]
    have HPD := Lib.hid hpd
    clear hpre htp hpd
    have HU := Lib.hid (digUnhex_any ⟨(s.data.toList.drop 7).toArray⟩ (w.heap.size + 1) w' (by unfold maxLen; rw [sz_arr, List.length_drop]; omega) HG1.out)
    go_wp2_with fail
    refine HU.out.mono ?_
    clear HU
    rintro e w3 ⟨cs, ok, rfl, hh, hsz, hgr, hok, hcs⟩
    rw [bs_arr, ← HPD.out] at hok hcs
    have HB3 : Hid (Below w.heap.size w w3) := Lib.hid (HB0.out.trans ⟨hgr.os, hgr.tape, hgr.output, by have := hgr.size; omega, fun k hk => hgr.block k (by omega) (fun e => by have := Option.some.inj e; omega)⟩)
    have HG3 : Hid (w3.heap[w.heap.size]? = some (.cells (cells32 []) 24 (0, 0))) := Lib.hid ((hgr.block w.heap.size (by omega) (fun e => by have := Option.some.inj e; omega)).trans HG0.out)
    have HH := Lib.hid hh
    have HCS := Lib.hid hcs
    have HSZ := Lib.hid hsz
    have hsi : Hid ((Tryz.prog.info? 24).map (·.size) = some cs.size) := Lib.hid (by rw [digInfo, hsz])
    clear hh hcs hgr hsz HG0 HG1 HB0
    cases hq : V.parD s.data.toList with
    | none =>
      rw [hq] at hok
      subst hok
      have HN := Lib.hid hq
      clear hq
      go_wp2_with (first | (refine wl_putRow rfl 24 _ _ rfl w.heap.size (cells32 []) _ HG3.out rfl (cells32 []) rfl rfl HZI.out (cells32_one _) ?_; intro W4 hp4) | fail)
      have HP4 := Lib.hid hp4
      clear hp4
      refine bodyPost_ret (v := .tuple #[.agg (cells32 []), .bool false]) ?_ rfl ⟨?_, HP4.out.below HB3.out (Nat.le_refl _)⟩
      · exact results_two Tryz.results45 rfl rfl (loadVar_c32 rfl HP4.out.here)
      · rw [HN.out]; rfl
    | some d =>
      rw [hq] at hok
      subst hok
      have HN := Lib.hid hq
      have hcd := HCS.out d hq
      have h1c : cs.all (·.oneCell') = true := by rw [hcd]; exact cells32_one d
      have hs32 : (cells32 []).size = cs.size := by rw [HSZ.out]; rfl
      clear hq
      go_wp2_with (first | (refine wpList_load_row rfl 24 _ rfl (w.heap.size + 1) rfl _ cs (0, 0) _ HH.out Tryz.underlying24 rfl hsi.out ?_) | (refine wl_putRow rfl 24 _ _ rfl w.heap.size (cells32 []) _ HG3.out rfl cs rfl hs32 hsi.out h1c ?_; intro W4 hp4) | fail)
      have HP4 := Lib.hid hp4
      clear hp4
      refine bodyPost_ret (v := .tuple #[.agg cs, .bool true]) ?_ rfl ⟨?_, HP4.out.below HB3.out (Nat.le_refl _)⟩
      · exact results_two Tryz.results45 rfl rfl (loadVar_c32 HSZ.out HP4.out.here)
      · rw [HN.out, hcd]; rfl
end Go.Proofs.YtnhfaincdabdkaaGreatDoor
