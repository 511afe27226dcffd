/-
  Walks: the reference of layer 6, numbers without superfluous zeros.
-/
import Derived.Test.YtoiabbhppbghdaaDoorR1
import Derived.Test.YtoiabbhppbghdaaDoorS1
namespace Go.Proofs.YtoiabbhppbghdaaDoor
open Go.RowKit

set_option maxRecDepth 100000 in
set_option maxHeartbeats 400000 in
theorem rnumber_any (s : ByteArray) (w : World) (hs : s.size ≤ maxLen) :
    Calls Tryd.prog 68 #[.string s] w fun e w' => e = .returned (.bool (V.numb s.data.toList true)) ∧ w = w' := by
  have hs' := hs
  unfold maxLen at hs
  rcases hd : V.digits s.data.toList with _ | _
  · have HD := Lib.hid hd
    have HN : Hid (V.numb s.data.toList true = false) := Lib.hid (by unfold V.numb; rw [hd]; rfl)
    clear hd
    go_enter Tryd.func68, Tryd.ntmps68
    go_wp2_with fail
    refine (rdigits_any s _ hs').mono ?_
    rintro e w' ⟨rfl, rfl⟩
    simp only [HD.out]
    go_wp2
    go_ret
    exact ⟨ret_bool HN.out.symm, rfl⟩
  · have HD := Lib.hid hd
    have hp := digits_pos hd
    rw [bs_size] at hp
    have h0 := Lib.hid (at0 hp)
    have HN : Hid (V.numb s.data.toList true = (((s[0].toNat : Int) != 48) || ((s.size : Int) == 1))) := by
      refine Lib.hid ?_
      unfold V.numb
      have : (s[0] == (48 : UInt8)) = ((s[0].toNat : Int) == 48) := by
        rw [Bool.eq_iff_iff]; simp [← UInt8.toNat_inj]; omega
      rw [HD.out, h0.out, bs_size, this]
      unfold bne
      rcases (s[0].toNat : Int) == 48 with _ | _
      · simp
      · rw [Bool.eq_iff_iff]; simp; omega
    clear hd
    rcases h1 : ((s[0].toNat : Int) != 48) with _ | _
    · rw [h1] at HN
      go_enter Tryd.func68, Tryd.ntmps68
      go_wp2_with fail
      refine (rdigits_any s _ hs').mono ?_
      rintro e w' ⟨rfl, rfl⟩
      simp only [HD.out]
      go_wp2
      all_goals
        go_ret
        exact ⟨ret_bool (by rw [HN.out]; simp_all), rfl⟩
    · rw [h1] at HN
      go_enter Tryd.func68, Tryd.ntmps68
      go_wp2_with fail
      refine (rdigits_any s _ hs').mono ?_
      rintro e w' ⟨rfl, rfl⟩
      simp only [HD.out]
      go_wp2
      all_goals
        go_ret
        exact ⟨ret_bool (by rw [HN.out]; simp_all), rfl⟩
end Go.Proofs.YtoiabbhppbghdaaDoor
