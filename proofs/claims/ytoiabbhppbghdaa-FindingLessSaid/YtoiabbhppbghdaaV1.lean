/-
  Walks: package version, bytes and numbers.
-/
import Derived.Test.YtoiabbhppbghdaaK
namespace Go.Proofs.Ytoiabbhppbghdaa
open Go.RowKit

set_option maxHeartbeats 400000 in
theorem digit_any (n : Int) (w : World) :
    Calls Try.prog 111 #[.int .u8 n] w fun e w' => e = .returned (.bool (V.digB n)) ∧ w = w' := by
  go_enter Try.func111, Try.ntmps111
  go_wp2
  all_goals go_ret
  all_goals exact ⟨ret_bool (by unfold V.digB; simp_all; try omega), rfl⟩

set_option maxHeartbeats 400000 in
theorem letter_any (n : Int) (w : World) :
    Calls Try.prog 112 #[.int .u8 n] w fun e w' => e = .returned (.bool (V.letB n)) ∧ w = w' := by
  go_enter Try.func112, Try.ntmps112
  go_wp2
  all_goals go_ret
  all_goals exact ⟨ret_bool (by unfold V.letB; simp_all; try omega), rfl⟩

set_option maxRecDepth 100000 in
set_option maxHeartbeats 400000 in
theorem only_any (s : ByteArray) (K : Nat) (cap : Array Value) (p : UInt8 → Bool) (w : World) (hs : s.size ≤ maxLen)
    (eg : ∀ args w, (callFunc K args).run Try.prog w = .ok (.enter K args) w)
    (hK : ∀ (c : UInt8), Calls Try.prog K (#[.int .u8 c.toNat] ++ cap) w fun e w' => e = .returned (.bool (p c)) ∧ w = w') :
    Calls Try.prog 109 #[.string s, .func (.func K) #[] cap] w fun e w' => e = .returned (.bool (V.only p s.data.toList)) ∧ w = w' := by
  unfold maxLen at hs
  have HK := Lib.hid hK
  clear hK
  go_enter Try.func109, Try.ntmps109
  go_wp2
  go_loop [5] (fun i => ∃ k : Nat, k ≤ s.size ∧ i = .int .i64 k ∧ (s.data.toList.take k).all p = true) (fun i => s.size - (intOf i).toNat)
  case atStart => exact ⟨0, Nat.zero_le _, rfl, rfl⟩
  case round =>
    obtain ⟨k, hk, rfl, hp⟩ := hrel
    have HP := Lib.hid hp
    clear hp
    by_cases hlt : k < s.size
    · have hl : k < s.data.toList.length := by rw [bs_size]; exact hlt
      have HT := Lib.hid (V.all_take (p := p) hl)
      have he : s.data.toList[k] = s[k] := by simp; rfl
      have HE := Lib.hid he
      clear he
      rcases hpc : p s[k] with _ | _
      all_goals
        have HPC := Lib.hid hpc
        clear hpc
        go_wp2_with fail
        refine (HK.out _).mono ?_
        rintro e w' ⟨rfl, rfl⟩
        simp only [HPC.out]
        go_wp2
      · go_ret
        exact ⟨ret_bool (V.only_no (k := k) (by rw [bs_size]; exact hlt) (by rw [HE.out]; exact HPC.out)).symm, rfl⟩
      · go_round
        case rel => exact ⟨k + 1, by omega, by go_num, by rw [HT.out, HP.out, HE.out, HPC.out]; rfl⟩
        case measure => simp [intOf]; omega
    · have ht : (s.data.toList.take k) = s.data.toList := List.take_of_length_le (by rw [bs_size]; omega)
      rw [ht] at HP
      have HQ : Hid (V.only p s.data.toList = !s.data.toList.isEmpty) := by unfold V.only; rw [HP.out]; rfl
      clear ht
      go_wp2
      go_ret
      exact ⟨ret_bool (by rw [HQ.out, Lib.toList_data]), rfl⟩
end Go.Proofs.Ytoiabbhppbghdaa
