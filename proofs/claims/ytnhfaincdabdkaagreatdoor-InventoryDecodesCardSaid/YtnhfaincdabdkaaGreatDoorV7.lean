/-
  ParseNumber of both.
  Walks: package version, bytes and numbers.
  Walks: package version, numbers.
  Small facts of strings and lists.
-/
import Derived.Test.YtnhfaincdabdkaaGreatDoorDB
namespace Go.Proofs.YtnhfaincdabdkaaGreatDoor
open Go.RowKit

namespace V
def digAll (s : Bs) : Bool := s.all fun c => decide (48 ≤ c.toNat) && decide (c.toNat ≤ 57)
def valD (s : Bs) : Nat := s.foldl (fun n c => 10 * n + (c.toNat - 48)) 0
/-- what ParseNumber returns -/
def numP (s : Bs) : Int × Bool := if 1 ≤ s.length ∧ s.length ≤ 13 ∧ ¬ (1 < s.length ∧ s.head? = some 48) ∧ digAll s = true ∧ valD s ≤ 1099511627776 then ((valD s : Nat), true) else (0, false)
theorem valD_step {s : Bs} {k : Nat} (h : k < s.length) : valD (s.take (k + 1)) = 10 * valD (s.take k) + (s[k].toNat - 48) := by
  unfold valD
  rw [List.take_succ_eq_append_getElem h, List.foldl_append]
  rfl
theorem valD_lt {s : Bs} (hd : digAll s = true) : ∀ k, k ≤ s.length → valD (s.take k) < 10 ^ k
  | 0, _ => by simp [valD]
  | k + 1, h => by
    rw [valD_step (by omega), Nat.pow_succ]
    have h1 := valD_lt hd k (by omega)
    unfold digAll at hd
    rw [List.all_eq_true] at hd
    have h2 := hd _ (List.getElem_mem (show k < s.length by omega))
    simp at h2
    omega
theorem digAll_take {s : Bs} {k : Nat} (h : k < s.length) : digAll (s.take (k + 1)) = (digAll (s.take k) && (decide (48 ≤ s[k].toNat) && decide (s[k].toNat ≤ 57))) := by
  unfold digAll
  rw [List.take_succ_eq_append_getElem h, List.all_append]
  simp
theorem digAll_no {s : Bs} {k : Nat} (h : k < s.length) (hd : s[k].toNat < 48 ∨ 57 < s[k].toNat) : digAll s = false := by
  unfold digAll
  rw [List.all_eq_false]
  exact ⟨_, List.getElem_mem h, by simp; omega⟩
/-- without a digit, with a zero ahead, or longer than 13 -/
theorem numP_bad {s : Bs} (h : s.length = 0 ∨ 13 < s.length ∨ (1 < s.length ∧ s.head? = some 48)) : numP s = (0, false) := by
  unfold numP
  rw [if_neg]
  rintro ⟨h1, h2, h3, _⟩
  rcases h with h | h | h
  · omega
  · omega
  · exact h3 h
theorem numP_good {s : Bs} (h1 : 1 ≤ s.length) (h2 : s.length ≤ 13) (h3 : ¬ (1 < s.length ∧ s.head? = some 48)) : numP s = if digAll s = true ∧ valD s ≤ 1099511627776 then (((valD s : Nat) : Int), true) else (0, false) := by
  unfold numP
  by_cases hd : digAll s = true ∧ valD s ≤ 1099511627776
  · rw [if_pos hd, if_pos ⟨h1, h2, h3, hd.1, hd.2⟩]
  · rw [if_neg hd, if_neg (fun e => hd ⟨e.2.2.2.1, e.2.2.2.2⟩)]
end V

set_option maxRecDepth 100000 in
set_option maxHeartbeats 1600000 in
theorem docParseNumber_any (s : ByteArray) (w : World) (hs : s.size ≤ maxLen) : Calls Tryz.prog 46 #[.string s] w fun e w' => e = .returned (.tuple #[.int .i64 (V.numP s.data.toList).1, .bool (V.numP s.data.toList).2]) ∧ w' = w := by
  have hl := bs_size s
  unfold maxLen at hs
  by_cases h0 : s.size = 0
  · have hs0 : s = ⟨#[]⟩ := bs_ext (by rw [List.length_eq_zero_iff.1 (by omega : s.data.toList.length = 0)])
    subst hs0
    go_enter Tryz.func46, Tryz.ntmps46
    go_wp2
    go_ret2
    exact ⟨rfl, rfl⟩
  have q1 : ¬ (s.size : Int) < 1 := by omega
  have h00 : 0 < s.size := by omega
  have he0 : s.data.toList[0]'(by omega) = s[0] := by simp; rfl
  have hhead : s.data.toList.head? = some (s[0]) := by rw [← he0, List.head?_eq_getElem?, List.getElem?_eq_getElem]
  obtain ⟨c0, hc0⟩ : ∃ c0, c0 = s[0] := ⟨_, rfl⟩
  rw [← hc0] at hhead
  have HC0 := Lib.hid hc0
  clear he0 hc0
  by_cases h13 : 13 < s.size
  · have HP := Lib.hid (V.numP_bad (s := s.data.toList) (.inr (.inl (by omega))))
    have q2 : (13 : Int) < (s.size : Int) := by omega
    clear hl
    go_enter Tryz.func46, Tryz.ntmps46
    go_wp2
    go_ret2
    exact ⟨by rw [HP.out]; rfl, rfl⟩
  have q2 : ¬ (13 : Int) < (s.size : Int) := by omega
  by_cases hz : 1 < s.size ∧ c0 = 48
  · have HP := Lib.hid (V.numP_bad (s := s.data.toList) (.inr (.inr ⟨by omega, by rw [hhead, hz.2]⟩)))
    have q3 : (1 : Int) < (s.size : Int) := by omega
    have q4 : s[0] = 48 := by rw [← HC0.out]; exact hz.2
    clear hl hhead hz
    go_enter Tryz.func46, Tryz.ntmps46
    go_wp2
    go_ret2
    exact ⟨by rw [HP.out]; rfl, rfl⟩
  have HG := Lib.hid (V.numP_good (s := s.data.toList) (by omega) (by omega) (fun e => hz ⟨by omega, by rw [hhead] at e; exact Option.some.inj e.2⟩))
  have hsz13 : s.size ≤ 13 := by omega
  have hcase : (¬ (1 : Int) < (s.size : Int) ∧ s[0] = 48) ∨ (¬ (1 : Int) < (s.size : Int) ∧ (¬ ((s[0].toNat : Int) = 48) ∧ ((s[0].toNat : Int) == 48) = false)) ∨ ((1 : Int) < (s.size : Int) ∧ (¬ ((s[0].toNat : Int) = 48) ∧ ((s[0].toNat : Int) == 48) = false)) := by
    have hne : ¬ s[0] = 48 → (¬ ((s[0].toNat : Int) = 48) ∧ ((s[0].toNat : Int) == 48) = false) := fun h => by
      have : ¬ ((s[0].toNat : Int) = 48) := fun e => h (by apply UInt8.toNat_inj.1; have : s[0].toNat = 48 := by omega
                                                           rw [this]; rfl)
      exact ⟨this, by rw [beq_eq_false_iff_ne]; exact this⟩
    by_cases h1 : 1 < s.size
    · exact .inr (.inr ⟨by omega, hne (fun e => hz ⟨h1, by rw [HC0.out]; exact e⟩)⟩)
    · by_cases h2 : s[0] = 48
      · exact .inl ⟨by omega, h2⟩
      · exact .inr (.inl ⟨by omega, hne h2⟩)
  have hse : s.toList.isEmpty = false := by
    rw [Lib.toList_data]
    cases hq : s.data.toList with
    | nil => rw [hq] at hl; exact absurd hl.symm h0
    | cons c r => rfl
  clear hz hhead
  rcases hcase with ⟨q3, q4⟩ | ⟨q3, q4, q5⟩ | ⟨q3, q4, q5⟩
  all_goals
    go_enter Tryz.func46, Tryz.ntmps46
    go_wp2
    go_loop [4, 5] (fun nv iv => ∃ k : Nat, k ≤ s.size ∧ iv = .int .i64 k ∧ nv = .int .i64 ((V.valD (s.data.toList.take k) : Nat) : Int) ∧ V.digAll (s.data.toList.take k) = true) (fun _ iv => s.size - (intOf iv).toNat)
    case atStart => exact ⟨0, Nat.zero_le _, rfl, rfl, rfl⟩
    case round =>
      obtain ⟨k, hk, rfl, rfl, hd⟩ := hrel
      have HD := Lib.hid hd
      clear hd
      by_cases hlt : k < s.size
      · have he : s.data.toList[k]'(by omega) = s[k] := by simp; rfl
        have HST := Lib.hid (V.valD_step (s := s.data.toList) (k := k) (by omega))
        have HDT := Lib.hid (V.digAll_take (s := s.data.toList) (k := k) (by omega))
        have HNO := Lib.hid (V.digAll_no (s := s.data.toList) (k := k) (by omega))
        have hb : V.valD (s.data.toList.take k) < 10000000000000 := by
          have h1 := V.valD_lt (s := s.data.toList.take k) HD.out k (by rw [List.length_take]; omega)
          rw [List.take_take, Nat.min_self] at h1
          have h2 : 10 ^ k ≤ 10 ^ 13 := Nat.pow_le_pow_right (by decide) (by omega)
          omega
        rw [he] at HST HDT HNO
        have hs1 : (0 : Int) ≤ (k : Int) := by omega
        have hs2 : (k : Int) < (s.size : Int) := by omega
        obtain ⟨N, hN⟩ : ∃ N, N = V.valD (s.data.toList.take k) := ⟨_, rfl⟩
        rw [← hN] at HST hb ⊢
        clear hN he
        by_cases hdg : s[k].toNat < 48 ∨ 57 < s[k].toNat
        · have HP : Hid (V.numP s.data.toList = (0, false)) := Lib.hid (by rw [HG.out, if_neg (fun e => by rw [HNO.out hdg] at e; cases e.1)])
          rcases hdg with hdg | hdg
          · have q6 : (s[k].toNat : Int) < 48 := by omega
            go_wp2
            go_ret2
            exact ⟨by rw [HP.out]; rfl, rfl⟩
          · have q6 : ¬ (s[k].toNat : Int) < 48 := by omega
            have q7 : (57 : Int) < (s[k].toNat : Int) := by omega
            go_wp2
            go_ret2
            exact ⟨by rw [HP.out]; rfl, rfl⟩
        · have q6 : ¬ (s[k].toNat : Int) < 48 := by omega
          have q7 : ¬ (57 : Int) < (s[k].toNat : Int) := by omega
          have w1 : IntKind.i64.wrap (10 * (N : Int)) = 10 * (N : Int) := by unfold IntKind.wrap; simp [IntKind.signed, IntKind.bits]; omega
          have w2 : IntKind.u8.wrap ((s[k].toNat : Int) - 48) = (s[k].toNat : Int) - 48 := by unfold IntKind.wrap; simp [IntKind.signed, IntKind.bits]; omega
          have w3 : IntKind.i64.wrap ((s[k].toNat : Int) - 48) = (s[k].toNat : Int) - 48 := by unfold IntKind.wrap; simp [IntKind.signed, IntKind.bits]; omega
          have w4 : IntKind.i64.wrap (10 * (N : Int) + ((s[k].toNat : Int) - 48)) = 10 * (N : Int) + ((s[k].toNat : Int) - 48) := by unfold IntKind.wrap; simp [IntKind.signed, IntKind.bits]; omega
          have HN2 : Hid ((V.digAll (s.data.toList.take (k + 1)) = true) ∧ 10 * (N : Int) + ((s[k].toNat : Int) - 48) = ((V.valD (s.data.toList.take (k + 1)) : Nat) : Int)) := Lib.hid ⟨by rw [HDT.out, HD.out]; simp; omega, by rw [HST.out]; omega⟩
          go_wp2
          go_round
          case rel => exact ⟨k + 1, by omega, by go_num, congrArg (Value.int .i64) HN2.out.2, HN2.out.1⟩
          case measure => simp [intOf]; omega
      · obtain rfl : k = s.size := by omega
        have ht : s.data.toList.take s.size = s.data.toList := List.take_of_length_le (by omega)
        rw [ht] at HD ⊢
        by_cases hmx : V.valD s.data.toList ≤ 1099511627776
        · have HP : Hid (V.numP s.data.toList = (((V.valD s.data.toList : Nat) : Int), true)) := Lib.hid (by rw [HG.out, if_pos ⟨HD.out, hmx⟩])
          have q8 : ¬ (1099511627776 : Int) < ((V.valD s.data.toList : Nat) : Int) := by omega
          clear hl ht
          go_wp2
          go_ret2
          exact ⟨by rw [HP.out]; rfl, rfl⟩
        · have HP : Hid (V.numP s.data.toList = (0, false)) := Lib.hid (by rw [HG.out, if_neg (fun e => hmx e.2)])
          have q8 : (1099511627776 : Int) < ((V.valD s.data.toList : Nat) : Int) := by omega
          clear hl ht
          go_wp2
          go_ret2
          exact ⟨by rw [HP.out]; rfl, rfl⟩

set_option maxRecDepth 100000 in
set_option maxHeartbeats 1600000 in
theorem rdocParseNumber_any (s : ByteArray) (w : World) (hs : s.size ≤ maxLen) : Calls Tryz.prog 51 #[.string s] w fun e w' => e = .returned (.tuple #[.int .i64 (V.numP s.data.toList).1, .bool (V.numP s.data.toList).2]) ∧ w' = w := by
  have hl := bs_size s
  unfold maxLen at hs
  by_cases h0 : s.size = 0
  · have hs0 : s = ⟨#[]⟩ := bs_ext (by rw [List.length_eq_zero_iff.1 (by omega : s.data.toList.length = 0)])
    subst hs0
    go_enter Tryz.func51, Tryz.ntmps51
    go_wp2
    go_ret2
    exact ⟨rfl, rfl⟩
  have hse : s.toList.isEmpty = false := by
    rw [Lib.toList_data]
    cases hq : s.data.toList with
    | nil => rw [hq] at hl; exact absurd hl.symm h0
    | cons c r => rfl
  have q1 : ¬ (s.size : Int) < 1 := by omega
  have h00 : 0 < s.size := by omega
  have he0 : s.data.toList[0]'(by omega) = s[0] := by simp; rfl
  have hhead : s.data.toList.head? = some (s[0]) := by rw [← he0, List.head?_eq_getElem?, List.getElem?_eq_getElem]
  obtain ⟨c0, hc0⟩ : ∃ c0, c0 = s[0] := ⟨_, rfl⟩
  rw [← hc0] at hhead
  have HC0 := Lib.hid hc0
  clear he0 hc0
  by_cases h13 : 13 < s.size
  · have HP := Lib.hid (V.numP_bad (s := s.data.toList) (.inr (.inl (by omega))))
    have q2 : (13 : Int) < (s.size : Int) := by omega
    clear hl
    go_enter Tryz.func51, Tryz.ntmps51
    go_wp2
    go_ret2
    exact ⟨by rw [HP.out]; rfl, rfl⟩
  have q2 : ¬ (13 : Int) < (s.size : Int) := by omega
  by_cases hz : 1 < s.size ∧ c0 = 48
  · have HP := Lib.hid (V.numP_bad (s := s.data.toList) (.inr (.inr ⟨by omega, by rw [hhead, hz.2]⟩)))
    have q3 : (1 : Int) < (s.size : Int) := by omega
    have q4 : s[0] = 48 := by rw [← HC0.out]; exact hz.2
    clear hl hhead hz
    go_enter Tryz.func51, Tryz.ntmps51
    go_wp2
    go_ret2
    exact ⟨by rw [HP.out]; rfl, rfl⟩
  have HG := Lib.hid (V.numP_good (s := s.data.toList) (by omega) (by omega) (fun e => hz ⟨by omega, by rw [hhead] at e; exact Option.some.inj e.2⟩))
  have hsz13 : s.size ≤ 13 := by omega
  have hcase : (¬ (1 : Int) < (s.size : Int) ∧ s[0] = 48) ∨ (¬ (1 : Int) < (s.size : Int) ∧ (¬ ((s[0].toNat : Int) = 48) ∧ ((s[0].toNat : Int) == 48) = false)) ∨ ((1 : Int) < (s.size : Int) ∧ (¬ ((s[0].toNat : Int) = 48) ∧ ((s[0].toNat : Int) == 48) = false)) := by
    have hne : ¬ s[0] = 48 → (¬ ((s[0].toNat : Int) = 48) ∧ ((s[0].toNat : Int) == 48) = false) := fun h => by
      have : ¬ ((s[0].toNat : Int) = 48) := fun e => h (by apply UInt8.toNat_inj.1; have : s[0].toNat = 48 := by omega
                                                           rw [this]; rfl)
      exact ⟨this, by rw [beq_eq_false_iff_ne]; exact this⟩
    by_cases h1 : 1 < s.size
    · exact .inr (.inr ⟨by omega, hne (fun e => hz ⟨h1, by rw [HC0.out]; exact e⟩)⟩)
    · by_cases h2 : s[0] = 48
      · exact .inl ⟨by omega, h2⟩
      · exact .inr (.inl ⟨by omega, hne h2⟩)
  clear hz hhead
  rcases hcase with ⟨q3, q4⟩ | ⟨q3, q4, q5⟩ | ⟨q3, q4, q5⟩
  all_goals
    go_enter Tryz.func51, Tryz.ntmps51
    go_wp2
    go_loop [4, 5] (fun nv iv => ∃ k : Nat, k ≤ s.size ∧ iv = .int .i64 k ∧ nv = .int .i64 ((V.valD (s.data.toList.take k) : Nat) : Int) ∧ V.digAll (s.data.toList.take k) = true) (fun _ iv => s.size - (intOf iv).toNat)
    case atStart => exact ⟨0, Nat.zero_le _, rfl, rfl, rfl⟩
    case round =>
      obtain ⟨k, hk, rfl, rfl, hd⟩ := hrel
      have HD := Lib.hid hd
      clear hd
      by_cases hlt : k < s.size
      · have he : s.data.toList[k]'(by omega) = s[k] := by simp; rfl
        have HST := Lib.hid (V.valD_step (s := s.data.toList) (k := k) (by omega))
        have HDT := Lib.hid (V.digAll_take (s := s.data.toList) (k := k) (by omega))
        have HNO := Lib.hid (V.digAll_no (s := s.data.toList) (k := k) (by omega))
        have hb : V.valD (s.data.toList.take k) < 10000000000000 := by
          have h1 := V.valD_lt (s := s.data.toList.take k) HD.out k (by rw [List.length_take]; omega)
          rw [List.take_take, Nat.min_self] at h1
          have h2 : 10 ^ k ≤ 10 ^ 13 := Nat.pow_le_pow_right (by decide) (by omega)
          omega
        rw [he] at HST HDT HNO
        have hs1 : (0 : Int) ≤ (k : Int) := by omega
        have hs2 : (k : Int) < (s.size : Int) := by omega
        obtain ⟨N, hN⟩ : ∃ N, N = V.valD (s.data.toList.take k) := ⟨_, rfl⟩
        rw [← hN] at HST hb ⊢
        clear hN he
        by_cases hdg : s[k].toNat < 48 ∨ 57 < s[k].toNat
        · have HP : Hid (V.numP s.data.toList = (0, false)) := Lib.hid (by rw [HG.out, if_neg (fun e => by rw [HNO.out hdg] at e; cases e.1)])
          rcases hdg with hdg | hdg
          · have q6 : (s[k].toNat : Int) < 48 := by omega
            go_wp2
            go_ret2
            exact ⟨by rw [HP.out]; rfl, rfl⟩
          · have q6 : ¬ (s[k].toNat : Int) < 48 := by omega
            have q7 : (57 : Int) < (s[k].toNat : Int) := by omega
            go_wp2
            go_ret2
            exact ⟨by rw [HP.out]; rfl, rfl⟩
        · have q6 : ¬ (s[k].toNat : Int) < 48 := by omega
          have q7 : ¬ (57 : Int) < (s[k].toNat : Int) := by omega
          have w1 : IntKind.i64.wrap (10 * (N : Int)) = 10 * (N : Int) := by unfold IntKind.wrap; simp [IntKind.signed, IntKind.bits]; omega
          have w2 : IntKind.u8.wrap ((s[k].toNat : Int) - 48) = (s[k].toNat : Int) - 48 := by unfold IntKind.wrap; simp [IntKind.signed, IntKind.bits]; omega
          have w3 : IntKind.i64.wrap ((s[k].toNat : Int) - 48) = (s[k].toNat : Int) - 48 := by unfold IntKind.wrap; simp [IntKind.signed, IntKind.bits]; omega
          have w4 : IntKind.i64.wrap (10 * (N : Int) + ((s[k].toNat : Int) - 48)) = 10 * (N : Int) + ((s[k].toNat : Int) - 48) := by unfold IntKind.wrap; simp [IntKind.signed, IntKind.bits]; omega
          have HN2 : Hid ((V.digAll (s.data.toList.take (k + 1)) = true) ∧ 10 * (N : Int) + ((s[k].toNat : Int) - 48) = ((V.valD (s.data.toList.take (k + 1)) : Nat) : Int)) := Lib.hid ⟨by rw [HDT.out, HD.out]; simp; omega, by rw [HST.out]; omega⟩
          go_wp2
          go_round
          case rel => exact ⟨k + 1, by omega, by go_num, congrArg (Value.int .i64) HN2.out.2, HN2.out.1⟩
          case measure => simp [intOf]; omega
      · obtain rfl : k = s.size := by omega
        have ht : s.data.toList.take s.size = s.data.toList := List.take_of_length_le (by omega)
        rw [ht] at HD ⊢
        by_cases hmx : V.valD s.data.toList ≤ 1099511627776
        · have HP : Hid (V.numP s.data.toList = (((V.valD s.data.toList : Nat) : Int), true)) := Lib.hid (by rw [HG.out, if_pos ⟨HD.out, hmx⟩])
          have q8 : ¬ (1099511627776 : Int) < ((V.valD s.data.toList : Nat) : Int) := by omega
          clear hl ht
          go_wp2
          go_ret2
          exact ⟨by rw [HP.out]; rfl, rfl⟩
        · have HP : Hid (V.numP s.data.toList = (0, false)) := Lib.hid (by rw [HG.out, if_neg (fun e => hmx e.2)])
          have q8 : (1099511627776 : Int) < ((V.valD s.data.toList : Nat) : Int) := by omega
          clear hl ht
          go_wp2
          go_ret2
          exact ⟨by rw [HP.out]; rfl, rfl⟩
end Go.Proofs.YtnhfaincdabdkaaGreatDoor
namespace Go.Proofs.YtnhfaincdabdkaaGreatDoor
open Go.RowKit

set_option maxHeartbeats 400000 in
theorem digit_any (n : Int) (w : World) :
    Calls Tryz.prog 266 #[.int .u8 n] w fun e w' => e = .returned (.bool (V.digB n)) ∧ w = w' := by
  go_enter Tryz.func266, Tryz.ntmps266
  go_wp2
  all_goals go_ret
  all_goals exact ⟨ret_bool (by unfold V.digB; simp_all; try omega), rfl⟩

set_option maxHeartbeats 400000 in
theorem letter_any (n : Int) (w : World) :
    Calls Tryz.prog 269 #[.int .u8 n] w fun e w' => e = .returned (.bool (V.letB n)) ∧ w = w' := by
  go_enter Tryz.func269, Tryz.ntmps269
  go_wp2
  all_goals go_ret
  all_goals exact ⟨ret_bool (by unfold V.letB; simp_all; try omega), rfl⟩

set_option maxRecDepth 100000 in
set_option maxHeartbeats 400000 in
theorem only_any (s : ByteArray) (K : Nat) (cap : Array Value) (p : UInt8 → Bool) (w : World) (hs : s.size ≤ maxLen)
    (eg : ∀ args w, (callFunc K args).run Tryz.prog w = .ok (.enter K args) w)
    (hK : ∀ (c : UInt8), Calls Tryz.prog K (#[.int .u8 c.toNat] ++ cap) w fun e w' => e = .returned (.bool (p c)) ∧ w = w') :
    Calls Tryz.prog 265 #[.string s, .func (.func K) #[] cap] w fun e w' => e = .returned (.bool (V.only p s.data.toList)) ∧ w = w' := by
  unfold maxLen at hs
  have HK := Lib.hid hK
  clear hK
  go_enter Tryz.func265, Tryz.ntmps265
  go_wp2
  go_loop [5] (fun i => ∃ k : Nat, k ≤ s.size ∧ i = .int .i64 k ∧ (s.data.toList.take k).all p = true) (fun i => s.size - (intOf i).toNat)
  case atStart => exact ⟨0, Nat.zero_le _, rfl, rfl⟩
  case round =>
    obtain ⟨k, hk, rfl, hp⟩ := hrel
    have HP := Lib.hid hp
    clear hp
    by_cases hlt : k < s.size
    · have hl : k < s.data.toList.length := by rw [bs_size]; exact hlt
      have HT := Lib.hid (V.all_take (p := p) hl)
      have he : s.data.toList[k] = s[k] := by simp; rfl
      have HE := Lib.hid he
      clear he
      rcases hpc : p s[k] with _ | _
      all_goals
        have HPC := Lib.hid hpc
        clear hpc
        go_wp2_with fail
        refine (HK.out _).mono ?_
        rintro e w' ⟨rfl, rfl⟩
        simp only [HPC.out]
        go_wp2
      · go_ret
        exact ⟨ret_bool (V.only_no (k := k) (by rw [bs_size]; exact hlt) (by rw [HE.out]; exact HPC.out)).symm, rfl⟩
      · go_round
        case rel => exact ⟨k + 1, by omega, by go_num, by rw [HT.out, HP.out, HE.out, HPC.out]; rfl⟩
        case measure => simp [intOf]; omega
    · have ht : (s.data.toList.take k) = s.data.toList := List.take_of_length_le (by rw [bs_size]; omega)
      rw [ht] at HP
      have HQ : Hid (V.only p s.data.toList = !s.data.toList.isEmpty) := by unfold V.only; rw [HP.out]; rfl
      clear ht
      go_wp2
      go_ret
      exact ⟨ret_bool (by rw [HQ.out, Lib.toList_data]), rfl⟩
end Go.Proofs.YtnhfaincdabdkaaGreatDoor
namespace Go.Proofs.YtnhfaincdabdkaaGreatDoor
open Go.RowKit

theorem only_digit (s : ByteArray) (w : World) (hs : s.size ≤ maxLen) :
    Calls Tryz.prog 265 #[.string s, .func (.func 266) #[] #[]] w fun e w' => e = .returned (.bool (V.digits s.data.toList)) ∧ w = w' :=
  only_any s _ #[] V.dig w hs (enters_of Tryz.func266 (by kernel_rfl) rfl) (fun c => digit_any c.toNat w)

theorem at0 {s : ByteArray} (h : 0 < s.size) : s.data.toList.getD 0 0 = s[0] := by
  have : 0 < s.data.toList.length := by rw [bs_size]; exact h
  simp [List.getD, List.getElem?_eq_getElem this]; rfl

theorem digits_pos {l : V.Bs} (h : V.digits l = true) : 0 < l.length := by
  unfold V.digits V.only at h
  cases l with
  | nil => simp at h
  | cons => simp

set_option maxRecDepth 100000 in
set_option maxHeartbeats 400000 in
theorem number_any (s : ByteArray) (ex : Bool) (w : World) (hs : s.size ≤ maxLen) :
    Calls Tryz.prog 263 #[.string s, .bool ex] w fun e w' => e = .returned (.bool (V.numb s.data.toList ex)) ∧ w = w' := by
  have hs' := hs
  unfold maxLen at hs
  by_cases hd : V.digits s.data.toList = true
  · have HD := Lib.hid hd
    have hp := digits_pos hd
    rw [bs_size] at hp
    have h0 := Lib.hid (at0 hp)
    clear hd
    cases ex with
    | false =>
      have HN : Hid (V.numb s.data.toList false = true) := by refine Lib.hid ?_; unfold V.numb; rw [HD.out]; rfl
      go_enter Tryz.func263, Tryz.ntmps263
      go_wp2_with fail
      refine (only_digit s _ hs').mono ?_
      rintro e w' ⟨rfl, rfl⟩
      simp only [HD.out]
      go_wp2
      go_ret
      exact ⟨ret_bool HN.out.symm, rfl⟩
    | true =>
      by_cases h1 : 1 < s.size
      · have HN : Hid (V.numb s.data.toList true = !((s[0].toNat : Int) == 48)) := by
          refine Lib.hid ?_
          unfold V.numb
          have : (s[0] == (48 : UInt8)) = ((s[0].toNat : Int) == 48) := by
            rw [Bool.eq_iff_iff]; simp [← UInt8.toNat_inj]; omega
          rw [HD.out, h0.out, bs_size, this]; simp [h1]
        go_enter Tryz.func263, Tryz.ntmps263
        go_wp2_with fail
        refine (only_digit s _ hs').mono ?_
        rintro e w' ⟨rfl, rfl⟩
        simp only [HD.out]
        go_wp2
        go_ret
        exact ⟨ret_bool HN.out.symm, rfl⟩
      · have HN : Hid (V.numb s.data.toList true = true) := by refine Lib.hid ?_; unfold V.numb; rw [HD.out, bs_size]; simp [h1]
        go_enter Tryz.func263, Tryz.ntmps263
        go_wp2_with fail
        refine (only_digit s _ hs').mono ?_
        rintro e w' ⟨rfl, rfl⟩
        simp only [HD.out]
        go_wp2
        go_ret
        exact ⟨ret_bool HN.out.symm, rfl⟩
  · have hd' : V.digits s.data.toList = false := by simpa using hd
    have HD := Lib.hid hd'
    have HN : Hid (V.numb s.data.toList ex = false) := by refine Lib.hid ?_; unfold V.numb; rw [HD.out]; rfl
    clear hd hd'
    go_enter Tryz.func263, Tryz.ntmps263
    go_wp2_with fail
    refine (only_digit s _ hs').mono ?_
    rintro e w' ⟨rfl, rfl⟩
    simp only [HD.out]
    go_wp2
    go_ret
    exact ⟨ret_bool HN.out.symm, rfl⟩
end Go.Proofs.YtnhfaincdabdkaaGreatDoor
namespace Go.Proofs.YtnhfaincdabdkaaGreatDoor
open Go.RowKit

def szOf : Value → Nat
  | .string s => s.size
  | _ => 0

theorem arr_list (l : V.Bs) : l.toArray.toList = l := by simp
end Go.Proofs.YtnhfaincdabdkaaGreatDoor
