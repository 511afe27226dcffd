/-
  Walks: package version, numbers.
-/
import Derived.Test.YtoiabbhppbghdaaV1
namespace Go.Proofs.Ytoiabbhppbghdaa
open Go.RowKit

theorem only_digit (s : ByteArray) (w : World) (hs : s.size ≤ maxLen) :
    Calls Try.prog 109 #[.string s, .func (.func 111) #[] #[]] w fun e w' => e = .returned (.bool (V.digits s.data.toList)) ∧ w = w' :=
  only_any s _ #[] V.dig w hs (enters_of Try.func111 (by kernel_rfl) rfl) (fun c => digit_any c.toNat w)

theorem at0 {s : ByteArray} (h : 0 < s.size) : s.data.toList.getD 0 0 = s[0] := by
  have : 0 < s.data.toList.length := by rw [bs_size]; exact h
  simp [List.getD, List.getElem?_eq_getElem this]; rfl

theorem digits_pos {l : V.Bs} (h : V.digits l = true) : 0 < l.length := by
  unfold V.digits V.only at h
  cases l with
  | nil => simp at h
  | cons => simp

set_option maxRecDepth 100000 in
set_option maxHeartbeats 400000 in
theorem number_any (s : ByteArray) (ex : Bool) (w : World) (hs : s.size ≤ maxLen) :
    Calls Try.prog 106 #[.string s, .bool ex] w fun e w' => e = .returned (.bool (V.numb s.data.toList ex)) ∧ w = w' := by
  have hs' := hs
  unfold maxLen at hs
  by_cases hd : V.digits s.data.toList = true
  · have HD := Lib.hid hd
    have hp := digits_pos hd
    rw [bs_size] at hp
    have h0 := Lib.hid (at0 hp)
    clear hd
    cases ex with
    | false =>
      have HN : Hid (V.numb s.data.toList false = true) := by refine Lib.hid ?_; unfold V.numb; rw [HD.out]; rfl
      go_enter Try.func106, Try.ntmps106
      go_wp2_with fail
      refine (only_digit s _ hs').mono ?_
      rintro e w' ⟨rfl, rfl⟩
      simp only [HD.out]
      go_wp2
      go_ret
      exact ⟨ret_bool HN.out.symm, rfl⟩
    | true =>
      by_cases h1 : 1 < s.size
      · have HN : Hid (V.numb s.data.toList true = !((s[0].toNat : Int) == 48)) := by
          refine Lib.hid ?_
          unfold V.numb
          have : (s[0] == (48 : UInt8)) = ((s[0].toNat : Int) == 48) := by
            rw [Bool.eq_iff_iff]; simp [← UInt8.toNat_inj]; omega
          rw [HD.out, h0.out, bs_size, this]; simp [h1]
        go_enter Try.func106, Try.ntmps106
        go_wp2_with fail
        refine (only_digit s _ hs').mono ?_
        rintro e w' ⟨rfl, rfl⟩
        simp only [HD.out]
        go_wp2
        go_ret
        exact ⟨ret_bool HN.out.symm, rfl⟩
      · have HN : Hid (V.numb s.data.toList true = true) := by refine Lib.hid ?_; unfold V.numb; rw [HD.out, bs_size]; simp [h1]
        go_enter Try.func106, Try.ntmps106
        go_wp2_with fail
        refine (only_digit s _ hs').mono ?_
        rintro e w' ⟨rfl, rfl⟩
        simp only [HD.out]
        go_wp2
        go_ret
        exact ⟨ret_bool HN.out.symm, rfl⟩
  · have hd' : V.digits s.data.toList = false := by simpa using hd
    have HD := Lib.hid hd'
    have HN : Hid (V.numb s.data.toList ex = false) := by refine Lib.hid ?_; unfold V.numb; rw [HD.out]; rfl
    clear hd hd'
    go_enter Try.func106, Try.ntmps106
    go_wp2_with fail
    refine (only_digit s _ hs').mono ?_
    rintro e w' ⟨rfl, rfl⟩
    simp only [HD.out]
    go_wp2
    go_ret
    exact ⟨ret_bool HN.out.symm, rfl⟩
end Go.Proofs.Ytoiabbhppbghdaa
