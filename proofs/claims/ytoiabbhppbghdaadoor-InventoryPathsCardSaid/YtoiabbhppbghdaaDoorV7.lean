/-
  Walks: package version, bytes and numbers.
  Walks: package version, numbers.
  Small facts of strings and lists.
-/
import Derived.Test.YtoiabbhppbghdaaDoorK
namespace Go.Proofs.YtoiabbhppbghdaaDoor
open Go.RowKit

set_option maxHeartbeats 400000 in
theorem digit_any (n : Int) (w : World) :
    Calls Tryd.prog 110 #[.int .u8 n] w fun e w' => e = .returned (.bool (V.digB n)) ∧ w = w' := by
  go_enter Tryd.func110, Tryd.ntmps110
  go_wp2
  all_goals go_ret
  all_goals exact ⟨ret_bool (by unfold V.digB; simp_all; try omega), rfl⟩

set_option maxHeartbeats 400000 in
theorem letter_any (n : Int) (w : World) :
    Calls Tryd.prog 111 #[.int .u8 n] w fun e w' => e = .returned (.bool (V.letB n)) ∧ w = w' := by
  go_enter Tryd.func111, Tryd.ntmps111
  go_wp2
  all_goals go_ret
  all_goals exact ⟨ret_bool (by unfold V.letB; simp_all; try omega), rfl⟩

set_option maxRecDepth 100000 in
set_option maxHeartbeats 400000 in
theorem only_any (s : ByteArray) (K : Nat) (cap : Array Value) (p : UInt8 → Bool) (w : World) (hs : s.size ≤ maxLen)
    (eg : ∀ args w, (callFunc K args).run Tryd.prog w = .ok (.enter K args) w)
    (hK : ∀ (c : UInt8), Calls Tryd.prog K (#[.int .u8 c.toNat] ++ cap) w fun e w' => e = .returned (.bool (p c)) ∧ w = w') :
    Calls Tryd.prog 108 #[.string s, .func (.func K) #[] cap] w fun e w' => e = .returned (.bool (V.only p s.data.toList)) ∧ w = w' := by
  unfold maxLen at hs
  have HK := Lib.hid hK
  clear hK
  go_enter Tryd.func108, Tryd.ntmps108
  go_wp2
  go_loop [5] (fun i => ∃ k : Nat, k ≤ s.size ∧ i = .int .i64 k ∧ (s.data.toList.take k).all p = true) (fun i => s.size - (intOf i).toNat)
  case atStart => exact ⟨0, Nat.zero_le _, rfl, rfl⟩
  case round =>
    obtain ⟨k, hk, rfl, hp⟩ := hrel
    have HP := Lib.hid hp
    clear hp
    by_cases hlt : k < s.size
    · have hl : k < s.data.toList.length := by rw [bs_size]; exact hlt
      have HT := Lib.hid (V.all_take (p := p) hl)
      have he : s.data.toList[k] = s[k] := by simp; rfl
      have HE := Lib.hid he
      clear he
      rcases hpc : p s[k] with _ | _
      all_goals
        have HPC := Lib.hid hpc
        clear hpc
        go_wp2_with fail
        refine (HK.out _).mono ?_
        rintro e w' ⟨rfl, rfl⟩
        simp only [HPC.out]
        go_wp2
      · go_ret
        exact ⟨ret_bool (V.only_no (k := k) (by rw [bs_size]; exact hlt) (by rw [HE.out]; exact HPC.out)).symm, rfl⟩
      · go_round
        case rel => exact ⟨k + 1, by omega, by go_num, by rw [HT.out, HP.out, HE.out, HPC.out]; rfl⟩
        case measure => simp [intOf]; omega
    · have ht : (s.data.toList.take k) = s.data.toList := List.take_of_length_le (by rw [bs_size]; omega)
      rw [ht] at HP
      have HQ : Hid (V.only p s.data.toList = !s.data.toList.isEmpty) := by unfold V.only; rw [HP.out]; rfl
      clear ht
      go_wp2
      go_ret
      exact ⟨ret_bool (by rw [HQ.out, Lib.toList_data]), rfl⟩
end Go.Proofs.YtoiabbhppbghdaaDoor
namespace Go.Proofs.YtoiabbhppbghdaaDoor
open Go.RowKit

theorem only_digit (s : ByteArray) (w : World) (hs : s.size ≤ maxLen) :
    Calls Tryd.prog 108 #[.string s, .func (.func 110) #[] #[]] w fun e w' => e = .returned (.bool (V.digits s.data.toList)) ∧ w = w' :=
  only_any s _ #[] V.dig w hs (enters_of Tryd.func110 (by kernel_rfl) rfl) (fun c => digit_any c.toNat w)

theorem at0 {s : ByteArray} (h : 0 < s.size) : s.data.toList.getD 0 0 = s[0] := by
  have : 0 < s.data.toList.length := by rw [bs_size]; exact h
  simp [List.getD, List.getElem?_eq_getElem this]; rfl

theorem digits_pos {l : V.Bs} (h : V.digits l = true) : 0 < l.length := by
  unfold V.digits V.only at h
  cases l with
  | nil => simp at h
  | cons => simp

set_option maxRecDepth 100000 in
set_option maxHeartbeats 400000 in
theorem number_any (s : ByteArray) (ex : Bool) (w : World) (hs : s.size ≤ maxLen) :
    Calls Tryd.prog 106 #[.string s, .bool ex] w fun e w' => e = .returned (.bool (V.numb s.data.toList ex)) ∧ w = w' := by
  have hs' := hs
  unfold maxLen at hs
  by_cases hd : V.digits s.data.toList = true
  · have HD := Lib.hid hd
    have hp := digits_pos hd
    rw [bs_size] at hp
    have h0 := Lib.hid (at0 hp)
    clear hd
    cases ex with
    | false =>
      have HN : Hid (V.numb s.data.toList false = true) := by refine Lib.hid ?_; unfold V.numb; rw [HD.out]; rfl
      go_enter Tryd.func106, Tryd.ntmps106
      go_wp2_with fail
      refine (only_digit s _ hs').mono ?_
      rintro e w' ⟨rfl, rfl⟩
      simp only [HD.out]
      go_wp2
      go_ret
      exact ⟨ret_bool HN.out.symm, rfl⟩
    | true =>
      by_cases h1 : 1 < s.size
      · have HN : Hid (V.numb s.data.toList true = !((s[0].toNat : Int) == 48)) := by
          refine Lib.hid ?_
          unfold V.numb
          have : (s[0] == (48 : UInt8)) = ((s[0].toNat : Int) == 48) := by
            rw [Bool.eq_iff_iff]; simp [← UInt8.toNat_inj]; omega
          rw [HD.out, h0.out, bs_size, this]; simp [h1]
        go_enter Tryd.func106, Tryd.ntmps106
        go_wp2_with fail
        refine (only_digit s _ hs').mono ?_
        rintro e w' ⟨rfl, rfl⟩
        simp only [HD.out]
        go_wp2
        go_ret
        exact ⟨ret_bool HN.out.symm, rfl⟩
      · have HN : Hid (V.numb s.data.toList true = true) := by refine Lib.hid ?_; unfold V.numb; rw [HD.out, bs_size]; simp [h1]
        go_enter Tryd.func106, Tryd.ntmps106
        go_wp2_with fail
        refine (only_digit s _ hs').mono ?_
        rintro e w' ⟨rfl, rfl⟩
        simp only [HD.out]
        go_wp2
        go_ret
        exact ⟨ret_bool HN.out.symm, rfl⟩
  · have hd' : V.digits s.data.toList = false := by simpa using hd
    have HD := Lib.hid hd'
    have HN : Hid (V.numb s.data.toList ex = false) := by refine Lib.hid ?_; unfold V.numb; rw [HD.out]; rfl
    clear hd hd'
    go_enter Tryd.func106, Tryd.ntmps106
    go_wp2_with fail
    refine (only_digit s _ hs').mono ?_
    rintro e w' ⟨rfl, rfl⟩
    simp only [HD.out]
    go_wp2
    go_ret
    exact ⟨ret_bool HN.out.symm, rfl⟩
end Go.Proofs.YtoiabbhppbghdaaDoor
namespace Go.Proofs.YtoiabbhppbghdaaDoor
open Go.RowKit

def szOf : Value → Nat
  | .string s => s.size
  | _ => 0

theorem arr_list (l : V.Bs) : l.toArray.toList = l := by simp
end Go.Proofs.YtoiabbhppbghdaaDoor
