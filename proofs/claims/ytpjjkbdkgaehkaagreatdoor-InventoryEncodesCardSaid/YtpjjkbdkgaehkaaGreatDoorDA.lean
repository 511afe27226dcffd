/-
  Walks: words of documents, of both.
-/
import Derived.Test.YtpjjkbdkgaehkaaGreatDoorV6
import Derived.Test.YtpjjkbdkgaehkaaGreatDoorPE
import Derived.Lib.BufSteps
import Derived.OwnWalk
import Derived.BigRegion
namespace Go.Proofs.YtpjjkbdkgaehkaaGreatDoor
open Go.RowKit

theorem docPlain_any (c : UInt8) (w : World) : Calls Tryz.prog 87 #[.int .u8 c.toNat] w fun e w' => e = .returned (.bool (V.plainB c)) ∧ w' = w := by
  obtain ⟨n, hn⟩ : ∃ n : Int, n = (c.toNat : Int) := ⟨_, rfl⟩
  have HP : Hid (V.plainB c = (decide (33 ≤ n) && (decide (n ≤ 125) && (n != 37)))) := Lib.hid (by
    have hb : (n != 37) = !decide (n = 37) := rfl
    rw [hb]
    unfold V.plainB
    rw [decide_eq_decide.2 (show 33 ≤ c.toNat ↔ 33 ≤ n by omega), decide_eq_decide.2 (show c.toNat ≤ 125 ↔ n ≤ 125 by omega), decide_eq_decide.2 (show c.toNat = 37 ↔ n = 37 by omega)])
  rw [← hn]
  clear hn
  go_enter Tryz.func87, Tryz.ntmps87
  go_wp2
  all_goals go_ret
  all_goals exact ⟨ret_bool (by rw [HP.out]; simp_all; try omega), rfl⟩
theorem rdocPlain_any (c : UInt8) (w : World) : Calls Tryz.prog 88 #[.int .u8 c.toNat] w fun e w' => e = .returned (.bool (V.plainB c)) ∧ w' = w := by
  obtain ⟨n, hn⟩ : ∃ n : Int, n = (c.toNat : Int) := ⟨_, rfl⟩
  have HP : Hid (V.plainB c = (decide (33 ≤ n) && (decide (n ≤ 125) && (n != 37)))) := Lib.hid (by
    have hb : (n != 37) = !decide (n = 37) := rfl
    rw [hb]
    unfold V.plainB
    rw [decide_eq_decide.2 (show 33 ≤ c.toNat ↔ 33 ≤ n by omega), decide_eq_decide.2 (show c.toNat ≤ 125 ↔ n ≤ 125 by omega), decide_eq_decide.2 (show c.toNat = 37 ↔ n = 37 by omega)])
  rw [← hn]
  clear hn
  go_enter Tryz.func88, Tryz.ntmps88
  go_wp2
  all_goals go_ret
  all_goals exact ⟨ret_bool (by rw [HP.out]; simp_all; try omega), rfl⟩

theorem size_step {l : V.Bs} {k : Nat} (h : k < l.length) : ((l.take (k + 1)).map V.sizeC).sum = ((l.take k).map V.sizeC).sum + V.sizeC l[k] := by
  rw [List.take_succ_eq_append_getElem h, List.map_append, List.sum_append]
  simp
theorem size_to (l : V.Bs) (k : Nat) : ((l.take k).map V.sizeC).sum ≤ 3 * l.length := by
  have := V.sum_le (l.take k)
  rw [List.length_take] at this
  omega

set_option maxRecDepth 100000 in
theorem docSize_any (s : ByteArray) (w : World) (hs : s.size ≤ 100000) : Calls Tryz.prog 56 #[.string s] w fun e w' => e = .returned (.int .i64 (V.sizeW s.data.toList : Nat)) ∧ w' = w := by
  go_enter Tryz.func56, Tryz.ntmps56
  go_wp2
  go_loop [3, 4] (fun nv iv => ∃ k : Nat, k ≤ s.size ∧ iv = .int .i64 k ∧ nv = .int .i64 (((s.data.toList.take k).map V.sizeC).sum : Nat)) (fun _ iv => s.size - (intOf iv).toNat)
  case atStart => exact ⟨0, Nat.zero_le _, rfl, rfl⟩
  case round =>
    obtain ⟨k, hk, rfl, rfl⟩ := hrel
    have hl := bs_size s
    have hle := size_to s.data.toList k
    rw [hl] at hle
    by_cases hlt : k < s.size
    · have HT := Lib.hid (size_step (l := s.data.toList) (k := k) (by omega))
      have he : s.data.toList[k]'(by omega) = s[k] := by simp; rfl
      rw [he] at HT
      obtain ⟨q, hq⟩ : ∃ q, q = ((s.data.toList.take k).map V.sizeC).sum := ⟨_, rfl⟩
      rw [← hq] at HT hle ⊢
      clear he hl hq
      go_wp2_with fail
      refine (docPlain_any s[k] w).mono ?_
      rintro e w' ⟨rfl, rfl⟩
      rcases hp : V.plainB s[k] with _ | _
      · have HN : Hid (((s.data.toList.take (k + 1)).map V.sizeC).sum = q + 3) := Lib.hid (by rw [HT.out]; unfold V.sizeC; rw [hp]; rfl)
        clear hp HT
        go_wp2
        go_round
        case rel => exact ⟨k + 1, by omega, by go_num, by rw [HN.out]; go_num⟩
        case measure => simp [intOf]; omega
      · have HN : Hid (((s.data.toList.take (k + 1)).map V.sizeC).sum = q + 1) := Lib.hid (by rw [HT.out]; unfold V.sizeC; rw [hp]; rfl)
        clear hp HT
        go_wp2
        go_round
        case rel => exact ⟨k + 1, by omega, by go_num, by rw [HN.out]; go_num⟩
        case measure => simp [intOf]; omega
    · obtain rfl : k = s.size := by omega
      have ht : s.data.toList.take s.size = s.data.toList := List.take_of_length_le (by omega)
      rw [ht] at hle ⊢
      have HS : Hid (V.sizeW s.data.toList = max ((s.data.toList.map V.sizeC).sum) 1) := Lib.hid rfl
      obtain ⟨q, hq⟩ : ∃ q, q = (s.data.toList.map V.sizeC).sum := ⟨_, rfl⟩
      rw [← hq] at HS hle ⊢
      clear ht hl hq
      go_wp2
      go_ret
      exact ⟨by rw [HS.out, show ((max q 1 : Nat) : Int) = max (q : Int) 1 by omega]; rfl, rfl⟩
end Go.Proofs.YtpjjkbdkgaehkaaGreatDoor
