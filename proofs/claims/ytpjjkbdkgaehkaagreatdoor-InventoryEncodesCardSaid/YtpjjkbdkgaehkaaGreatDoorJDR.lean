/-
  Walks: schemes by name; the reference's package URLs made.
-/
import Derived.Test.YtpjjkbdkgaehkaaGreatDoorJD
import Derived.Test.YtpjjkbdkgaehkaaGreatDoorJCR
namespace Go.Proofs.YtpjjkbdkgaehkaaGreatDoor
open Go.RowKit

set_option maxRecDepth 100000 in
set_option maxHeartbeats 400000 in
theorem rschName_any (n : Int) (hn : n = 1 ∨ n = 2 ∨ n = 3) (w : World) :
    Calls Tryz.prog 32 #[.int .i64 n] w fun e w' => e = .returned (.string ⟨(V.schName n).toArray⟩) ∧ w' = w := by
  rcases hn with rfl | rfl | rfl
  all_goals
    go_enter Tryz.func32, Tryz.ntmps32
    go_wp2
    go_ret
    exact ⟨rfl, rfl⟩

set_option maxRecDepth 100000 in
set_option maxHeartbeats 400000 in
theorem schNum_any (s : ByteArray) (w : World) :
    Calls Tryz.prog 79 #[.string s] w fun e w' => e = .returned (.int .i64 (V.schNum s.data.toList)) ∧ w' = w := by
  go_enter Tryz.func79, Tryz.ntmps79
  go_wp2
  go_loop [3] (fun i => ∃ k : Nat, k ≤ 4 ∧ 1 ≤ k ∧ i = .int .i64 k ∧ ∀ j : Nat, 1 ≤ j → j < k → ¬ s.data.toList = V.schName j) (fun i => 4 - (intOf i).toNat)
  case atStart => exact ⟨1, by omega, by omega, rfl, fun j h1 h2 => by omega⟩
  case round =>
    obtain ⟨k, hk, hk1, rfl, hz⟩ := hrel
    have HZ := Lib.hid hz
    clear hz
    by_cases hlt : k ≤ 3
    · go_wp2_with fail
      refine (schName_any _ _).mono ?_
      rintro e w' ⟨rfl, rfl⟩
      by_cases he : s.data.toList = V.schName k
      · have HE := Lib.hid he
        have hs : s = ⟨(V.schName k).toArray⟩ := bs_ext (by rw [bs_mk]; exact he)
        have HR : Hid (V.schNum s.data.toList = k) := Lib.hid (V.schNum_at hk1 hlt he)
        rw [← hs]
        clear he hs
        go_wp2
        go_ret
        exact ⟨ret_int HR.out.symm, rfl⟩
      · have hne : ((⟨(V.schName k).toArray⟩ : ByteArray).toList == s.toList) = false := by
          rw [Lib.toList_data, Lib.toList_data, bs_mk]
          exact beq_eq_false_iff_ne.2 fun e => he e.symm
        have HR : Hid (∀ j : Nat, 1 ≤ j → j < k + 1 → ¬ s.data.toList = V.schName j) := Lib.hid fun j h1 h2 => by
          by_cases e : j = k
          · subst e; exact he
          · exact HZ.out j h1 (by omega)
        generalize (⟨(V.schName k).toArray⟩ : ByteArray) = x at *
        clear he
        go_wp2
        go_round
        case rel => exact ⟨k + 1, by omega, by omega, by go_num, HR.out⟩
        case measure => simp [intOf]; omega
    · have HR : Hid (V.schNum s.data.toList = 0) := Lib.hid (V.schNum_no fun j h1 h2 => HZ.out j h1 (by omega))
      go_wp2
      go_ret
      exact ⟨ret_int HR.out.symm, rfl⟩
set_option maxRecDepth 100000 in
set_option maxHeartbeats 400000 in
theorem rschNum_any (s : ByteArray) (w : World) :
    Calls Tryz.prog 82 #[.string s] w fun e w' => e = .returned (.int .i64 (V.schNum s.data.toList)) ∧ w' = w := by
  go_enter Tryz.func82, Tryz.ntmps82
  go_wp2
  go_loop [3] (fun i => ∃ k : Nat, k ≤ 4 ∧ 1 ≤ k ∧ i = .int .i64 k ∧ ∀ j : Nat, 1 ≤ j → j < k → ¬ s.data.toList = V.schName j) (fun i => 4 - (intOf i).toNat)
  case atStart => exact ⟨1, by omega, by omega, rfl, fun j h1 h2 => by omega⟩
  case round =>
    obtain ⟨k, hk, hk1, rfl, hz⟩ := hrel
    have HZ := Lib.hid hz
    clear hz
    by_cases hlt : k ≤ 3
    · go_wp2_with fail
      refine (rschName_any _ (by omega) _).mono ?_
      rintro e w' ⟨rfl, rfl⟩
      by_cases he : s.data.toList = V.schName k
      · have HE := Lib.hid he
        have hs : s = ⟨(V.schName k).toArray⟩ := bs_ext (by rw [bs_mk]; exact he)
        have HR : Hid (V.schNum s.data.toList = k) := Lib.hid (V.schNum_at hk1 hlt he)
        rw [← hs]
        clear he hs
        go_wp2
        go_ret
        exact ⟨ret_int HR.out.symm, rfl⟩
      · have hne : ((⟨(V.schName k).toArray⟩ : ByteArray).toList == s.toList) = false := by
          rw [Lib.toList_data, Lib.toList_data, bs_mk]
          exact beq_eq_false_iff_ne.2 fun e => he e.symm
        have HR : Hid (∀ j : Nat, 1 ≤ j → j < k + 1 → ¬ s.data.toList = V.schName j) := Lib.hid fun j h1 h2 => by
          by_cases e : j = k
          · subst e; exact he
          · exact HZ.out j h1 (by omega)
        generalize (⟨(V.schName k).toArray⟩ : ByteArray) = x at *
        clear he
        go_wp2
        go_round
        case rel => exact ⟨k + 1, by omega, by omega, by go_num, HR.out⟩
        case measure => simp [intOf]; omega
    · have HR : Hid (V.schNum s.data.toList = 0) := Lib.hid (V.schNum_no fun j h1 h2 => HZ.out j h1 (by omega))
      go_wp2
      go_ret
      exact ⟨ret_int HR.out.symm, rfl⟩

end Go.Proofs.YtpjjkbdkgaehkaaGreatDoor
