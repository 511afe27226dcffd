/-
  Walks: package version, numbers.
-/
import Derived.Test.YtabeblbhbekjaaaGreatDoorV1
namespace Go.Proofs.YtabeblbhbekjaaaGreatDoor
open Go.RowKit

theorem only_digit (s : ByteArray) (w : World) (hs : s.size ≤ maxLen) :
    Calls Tryz.prog 101 #[.string s, .func (.func 102) #[] #[]] w fun e w' => e = .returned (.bool (V.digits s.data.toList)) ∧ w = w' :=
  only_any s _ #[] V.dig w hs (enters_of Tryz.func102 (by kernel_rfl) rfl) (fun c => digit_any c.toNat w)

theorem at0 {s : ByteArray} (h : 0 < s.size) : s.data.toList.getD 0 0 = s[0] := by
  have : 0 < s.data.toList.length := by rw [bs_size]; exact h
  simp [List.getD, List.getElem?_eq_getElem this]; rfl

theorem digits_pos {l : V.Bs} (h : V.digits l = true) : 0 < l.length := by
  unfold V.digits V.only at h
  cases l with
  | nil => simp at h
  | cons => simp

set_option maxRecDepth 100000 in
set_option maxHeartbeats 400000 in
theorem number_any (s : ByteArray) (ex : Bool) (w : World) (hs : s.size ≤ maxLen) :
    Calls Tryz.prog 104 #[.string s, .bool ex] w fun e w' => e = .returned (.bool (V.numb s.data.toList ex)) ∧ w = w' := by
  have hs' := hs
  unfold maxLen at hs
  by_cases hd : V.digits s.data.toList = true
  · have HD := Lib.hid hd
    have hp := digits_pos hd
    rw [bs_size] at hp
    have h0 := Lib.hid (at0 hp)
    clear hd
    cases ex with
    | false =>
      have HN : Hid (V.numb s.data.toList false = true) := by refine Lib.hid ?_; unfold V.numb; rw [HD.out]; rfl
      go_enter Tryz.func104, Tryz.ntmps104
      go_wp2_with fail
      refine (only_digit s _ hs').mono ?_
      rintro e w' ⟨rfl, rfl⟩
      simp only [HD.out]
      go_wp2
      go_ret
      exact ⟨ret_bool HN.out.symm, rfl⟩
    | true =>
      by_cases h1 : 1 < s.size
      · have HN : Hid (V.numb s.data.toList true = !((s[0].toNat : Int) == 48)) := by
          refine Lib.hid ?_
          unfold V.numb
          have : (s[0] == (48 : UInt8)) = ((s[0].toNat : Int) == 48) := by
            rw [Bool.eq_iff_iff]; simp [← UInt8.toNat_inj]; omega
          rw [HD.out, h0.out, bs_size, this]; simp [h1]
        go_enter Tryz.func104, Tryz.ntmps104
        go_wp2_with fail
        refine (only_digit s _ hs').mono ?_
        rintro e w' ⟨rfl, rfl⟩
        simp only [HD.out]
        go_wp2
        go_ret
        exact ⟨ret_bool HN.out.symm, rfl⟩
      · have HN : Hid (V.numb s.data.toList true = true) := by refine Lib.hid ?_; unfold V.numb; rw [HD.out, bs_size]; simp [h1]
        go_enter Tryz.func104, Tryz.ntmps104
        go_wp2_with fail
        refine (only_digit s _ hs').mono ?_
        rintro e w' ⟨rfl, rfl⟩
        simp only [HD.out]
        go_wp2
        go_ret
        exact ⟨ret_bool HN.out.symm, rfl⟩
  · have hd' : V.digits s.data.toList = false := by simpa using hd
    have HD := Lib.hid hd'
    have HN : Hid (V.numb s.data.toList ex = false) := by refine Lib.hid ?_; unfold V.numb; rw [HD.out]; rfl
    clear hd hd'
    go_enter Tryz.func104, Tryz.ntmps104
    go_wp2_with fail
    refine (only_digit s _ hs').mono ?_
    rintro e w' ⟨rfl, rfl⟩
    simp only [HD.out]
    go_wp2
    go_ret
    exact ⟨ret_bool HN.out.symm, rfl⟩

set_option maxRecDepth 100000 in
set_option maxHeartbeats 400000 in
theorem value_any (s : ByteArray) (w : World) :
    Calls Tryz.prog 105 #[.string s] w fun e w' => e = .returned (.string ⟨(V.value s.data.toList).toArray⟩) ∧ w = w' := by
  go_enter Tryz.func105, Tryz.ntmps105
  go_wp2_with fail
  refine (Tryz.strings_TrimLeft_one s 48 (by decide) _).mono ?_
  rintro e w' ⟨rfl, rfl⟩
  go_wp2
  go_ret
  exact ⟨rfl, rfl⟩

set_option maxRecDepth 100000 in
set_option maxHeartbeats 400000 in
theorem or_any (b : Nat) (xs : List Int) (w : World) (hx : xs.length ≤ 100)
    (hc : ∀ j, j < xs.length → w.cell? ⟨b, j, none⟩ = some (.int .i64 (xs.getD j 0))) :
    Calls Tryz.prog 95 #[.slice (some ⟨b, 0, none⟩) xs.length xs.length] w fun e w' => e = .returned (.int .i64 (V.orI xs)) ∧ w = w' := by
  have HC := Lib.hid hc
  clear hc
  go_enter Tryz.func95, Tryz.ntmps95
  go_wp2
  go_loop [8] (fun i => ∃ k : Nat, k ≤ xs.length ∧ i = .int .i64 k ∧ ∀ j, j < k → xs.getD j 0 = 0) (fun i => xs.length - (intOf i).toNat)
  case atStart => exact ⟨0, Nat.zero_le _, rfl, fun j hj => by omega⟩
  case round =>
    obtain ⟨k, hk, rfl, hz⟩ := hrel
    have HZ := Lib.hid hz
    clear hz
    by_cases hlt : k < xs.length
    · have hcell := HC.out k hlt
      by_cases h0 : xs.getD k 0 = 0
      · have HR : Hid (∀ j, j < k + 1 → xs.getD j 0 = 0) := fun j hj => by
          by_cases e : j = k
          · subst e; exact h0
          · exact HZ.out j (by omega)
        rw [h0] at hcell
        clear h0
        go_wp2
        go_round
        case rel => exact ⟨k + 1, by omega, by go_num, HR.out⟩
        case measure => simp [intOf]; omega
      · have HR : Hid (V.orI xs = xs.getD k 0) := by
          refine Lib.hid ?_
          rw [V.orI_skip xs k HZ.out]
          have e : xs.drop k = xs.getD k 0 :: xs.drop (k + 1) := by
            rw [List.drop_eq_getElem_cons hlt]; simp [List.getD, List.getElem?_eq_getElem hlt]
          rw [e]; unfold V.orI V.cor; rw [if_neg h0]
        have hb : (xs.getD k 0 != 0) = true := by simpa using h0
        generalize xs.getD k 0 = x at *
        clear h0
        go_wp2
        go_ret
        exact ⟨ret_int HR.out.symm, rfl⟩
    · have HR : Hid (V.orI xs = 0) := by
          refine Lib.hid ?_
          rw [V.orI_skip xs k HZ.out, List.drop_of_length_le (by omega)]; rfl
      go_wp2
      go_ret
      exact ⟨ret_int HR.out.symm, rfl⟩

end Go.Proofs.YtabeblbhbekjaaaGreatDoor
