/-
  Walks: texts cut and weighed.
-/
import Derived.Test.YtabeblbhbekjaaaV3
import Derived.Test.YtabeblbhbekjaaaP3
namespace Go.Proofs.Ytabeblbhbekjaaa
open Go.RowKit

theorem extract_to {s : ByteArray} {k : Nat} : (s.extract 0 k).data.toList = s.data.toList.take k := by
  rw [Lib.extract_data]; simp

set_option maxRecDepth 100000 in
set_option maxHeartbeats 800000 in
theorem take_any (s : ByteArray) (d : Bool) (w : World) (hs : s.size ≤ maxLen) :
    Calls Try.prog 99 #[.string s, .bool d] w fun e w' => e = .returned (.tuple #[.string ⟨(V.takeD s.data.toList d).1.toArray⟩, .string ⟨(V.takeD s.data.toList d).2.toArray⟩]) ∧ Below w.heap.size w w' := by
  unfold maxLen at hs
  go_enter Try.func99, Try.ntmps99
  go_wp2
  go_loop [6] (fun i => ∃ k : Nat, k ≤ s.size ∧ i = .int .i64 k ∧ (s.data.toList.take k).all (fun c => V.dig c == d) = true) (fun i => s.size - (intOf i).toNat)
  case atStart => exact ⟨0, Nat.zero_le _, rfl, rfl⟩
  case round =>
    obtain ⟨k, hk, rfl, hp⟩ := hrel
    have HP := Lib.hid hp
    clear hp
    have fin : (k = s.size ∨ ∃ h : k < s.size, (V.digB s[k].toNat == d) = false) → Hid (s.extract 0 k = ⟨(V.takeD s.data.toList d).1.toArray⟩ ∧ s.extract k s.size = ⟨(V.takeD s.data.toList d).2.toArray⟩) := fun h => by
      have := V.take_at s.data.toList (fun c => V.dig c == d) k (by rw [bs_size]; exact hk) HP.out (by
        rcases h with h | ⟨h, h2⟩
        · left; rw [bs_size]; exact h
        · right
          have e : s.data.toList[k]'(by rw [bs_size]; exact h) = s[k] := by simp; rfl
          exact ⟨by rw [bs_size]; exact h, by rw [e]; exact h2⟩)
      refine Lib.hid ⟨bs_ext ?_, bs_ext ?_⟩
      · rw [extract_to, this.1]; simp [V.takeD]
      · rw [Lib.extract_to_end, this.2]; simp [V.takeD]
    have FIN := Lib.hid fin
    clear fin
    by_cases hlt : k < s.size
    · have hl : k < s.data.toList.length := by rw [bs_size]; exact hlt
      have HT := Lib.hid (V.all_take (p := fun c => V.dig c == d) hl)
      have HE : Hid (s.data.toList[k] = s[k]) := Lib.hid (by simp; rfl)
      rcases hD : V.digB s[k].toNat with _ | _ <;> cases d
      all_goals
        have HD := Lib.hid hD
        clear hD
        go_wp2_with fail
        refine (digit_any _ _).mono ?_
        rintro e w' ⟨rfl, rfl⟩
        simp only [HD.out]
        go_wp2
      · go_round
        case rel => exact ⟨k + 1, by omega, by go_num, by rw [HT.out, HP.out, HE.out]; show (true && (V.digB s[k].toNat == false)) = true; rw [HD.out]; rfl⟩
        case measure => simp [intOf]; omega
      · have HF := FIN.out (.inr ⟨hlt, by rw [HD.out]; rfl⟩)
        go_region
        all_goals
          go_wp2
          go_ret2
          exact ⟨by rw [HF.out.1, HF.out.2]; rfl, by first | exact Below.refl _ _ | exact (Below.refl _ _).drew⟩
      · have HF := FIN.out (.inr ⟨hlt, by rw [HD.out]; rfl⟩)
        go_region
        all_goals
          go_wp2
          go_ret2
          exact ⟨by rw [HF.out.1, HF.out.2]; rfl, by first | exact Below.refl _ _ | exact (Below.refl _ _).drew⟩
      · go_round
        case rel => exact ⟨k + 1, by omega, by go_num, by rw [HT.out, HP.out, HE.out]; show (true && (V.digB s[k].toNat == true)) = true; rw [HD.out]; rfl⟩
        case measure => simp [intOf]; omega
    · have HF := FIN.out (.inl (by omega))
      go_wp2
      go_region
      all_goals
        go_wp2
        go_ret2
        exact ⟨by rw [HF.out.1, HF.out.2]; rfl, by first | exact Below.refl _ _ | exact (Below.refl _ _).drew⟩

theorem or128 (c : UInt8) : bits .or .u8 (c.toNat : Int) 128 = ((c ||| 128).toNat : Int) := by
  have h : ∀ n : Fin 256, bits .or .u8 ((n.val : Nat) : Int) 128 = (((n.val ||| 128 : Nat)) : Int) := by decide +kernel
  have := h ⟨c.toNat, c.toNat_lt⟩
  rw [this, UInt8.toNat_or]; rfl

theorem at_getD {s : ByteArray} {i : Nat} (h : i < s.size) : s.data.toList.getD i 0 = s[i] := by
  have : i < s.data.toList.length := by rw [bs_size]; exact h
  simp [List.getD, List.getElem?_eq_getElem this]; rfl

set_option maxRecDepth 100000 in
set_option maxHeartbeats 800000 in
theorem weight_any (s : ByteArray) (i : Nat) (w : World) (hs : s.size ≤ maxLen) (hi : i ≤ maxLen) :
    Calls Try.prog 101 #[.string s, .int .i64 i] w fun e w' => e = .returned (.int .u8 (V.wt s.data.toList i)) ∧ w = w' := by
  unfold maxLen at hs hi
  by_cases hlt : i < s.size
  · have HG := Lib.hid (at_getD hlt)
    by_cases h1 : s[i] = 126
    · have HW : Hid (V.wt s.data.toList i = 1) := Lib.hid (by unfold V.wt; rw [if_neg (by rw [bs_size]; omega), HG.out, if_pos h1])
      have hb : ((s[i].toNat : Int) == 126) = true := by rw [h1]; rfl
      clear h1
      go_enter Try.func101, Try.ntmps101
      go_wp2
      go_ret
      exact ⟨ret_int HW.out.symm, rfl⟩
    · have hb : ((s[i].toNat : Int) == 126) = false := by
        rw [beq_eq_false_iff_ne]; intro e; apply h1; rw [← UInt8.toNat_inj]
        have : s[i].toNat = 126 := by omega
        rw [this]; rfl
      rcases hL : V.letB s[i].toNat with _ | _
      · have HW : Hid (V.wt s.data.toList i = (s[i] ||| 128).toNat) := Lib.hid (by
          unfold V.wt; rw [if_neg (by rw [bs_size]; omega), HG.out, if_neg h1, if_neg]
          unfold V.lett; rw [hL]; simp)
        have HL := Lib.hid hL
        clear hL h1
        go_enter Try.func101, Try.ntmps101
        go_wp2_with fail
        refine (letter_any _ _).mono ?_
        rintro e w' ⟨rfl, rfl⟩
        simp only [HL.out]
        go_wp2
        go_ret
        refine ⟨?_, rfl⟩
        rw [HW.out, ← or128]
        rfl
      · have HW : Hid (V.wt s.data.toList i = s[i].toNat) := Lib.hid (by
          unfold V.wt; rw [if_neg (by rw [bs_size]; omega), HG.out, if_neg h1, if_pos]
          unfold V.lett; rw [hL])
        have HL := Lib.hid hL
        clear hL h1
        go_enter Try.func101, Try.ntmps101
        go_wp2_with fail
        refine (letter_any _ _).mono ?_
        rintro e w' ⟨rfl, rfl⟩
        simp only [HL.out]
        go_wp2
        go_ret
        exact ⟨ret_int HW.out.symm, rfl⟩
  · have HW : Hid (V.wt s.data.toList i = 2) := Lib.hid (by unfold V.wt; rw [if_pos (by rw [bs_size]; omega)])
    go_enter Try.func101, Try.ntmps101
    go_wp2
    go_ret
    exact ⟨ret_int HW.out.symm, rfl⟩

set_option maxHeartbeats 400000 in
theorem nanByte_any (x : Int) (w : World) :
    Calls Try.prog 103 #[.int .u8 x] w fun e w' => e = .returned (.bool false) ∧ w = w' := by
  have h : (x != x) = false := by simp
  go_enter Try.func103, Try.ntmps103
  go_wp2
  go_ret
  exact ⟨ret_bool (by simp), rfl⟩

set_option maxHeartbeats 800000 in
theorem cmpByte_any (x y : Int) (w : World) :
    Calls Try.prog 100 #[.int .u8 x, .int .u8 y] w fun e w' => e = .returned (.int .i64 (Lib.compareInt x y)) ∧ w = w' := by
  go_enter Try.func100, Try.ntmps100
  go_wp2_with (go_at_call 103; refine (nanByte_any _ _).mono ?_; rintro e w' ⟨rfl, rfl⟩)
  all_goals go_ret
  all_goals exact ⟨ret_int (by unfold Lib.compareInt; (repeat' split) <;> omega), rfl⟩
end Go.Proofs.Ytabeblbhbekjaaa
