/-
  Walks: keys of numbers.
-/
import Derived.Test.YtabeblbhbekjaaaGreatDoorY0
namespace Go.Proofs.YtabeblbhbekjaaaGreatDoor
open Go.RowKit

theorem value_le (l : V.Bs) : (V.value l).length ≤ l.length := (List.dropWhile_sublist _).length_le

set_option maxRecDepth 100000 in
set_option maxHeartbeats 400000 in
theorem numberKey_any (s : ByteArray) (w : World) (hs : s.size < 256) :
    Calls Tryz.prog 100 #[.string s] w fun e w' => e = .returned (.string ⟨(V.nk s.data.toList).toArray⟩) ∧ Below w.heap.size w w' := by
  have hl := value_le s.data.toList
  rw [bs_size] at hl
  have hcv := conv_one
  have HF : Hid (V.nk s.data.toList = UInt8.ofNat (V.value s.data.toList).length :: V.value s.data.toList) := rfl
  go_enter Tryz.func100, Tryz.ntmps100
  go_wp2_with fail
  refine (value_any s _).mono ?_
  rintro e w' ⟨rfl, rfl⟩
  generalize V.value s.data.toList = x at *
  have hz : x.length < 256 := by omega
  go_wp2
  go_ret
  refine ⟨ret_str (bs_ext ?_), (Below.refl _ _).alloc (Nat.le_refl _) _⟩
  rw [HF.out]
  simp

end Go.Proofs.YtabeblbhbekjaaaGreatDoor
