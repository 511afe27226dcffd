/-
  Plain: bytes in hexadecimal digits, the text of a digest.
-/
import Derived.Test.YtpjjkbdkgaehkaaGreatDoorPE
namespace Go.Proofs.YtpjjkbdkgaehkaaGreatDoor
open Go.RowKit

namespace V
def hexC (c : UInt8) : Bs := [digL.getD (c.toNat / 16) 0, digL.getD (c.toNat % 16) 0]
def hexB (d : Bs) : Bs := d.flatMap hexC
def fmtB (d : Bs) : Bs := [115, 104, 97, 50, 53, 54, 58] ++ hexB d
theorem hexB_len (d : Bs) : (hexB d).length = 2 * d.length := by
  unfold hexB
  induction d with
  | nil => rfl
  | cons c d ih => rw [List.flatMap_cons, List.length_append, ih, List.length_cons]; unfold hexC; simp; omega
theorem hexB_step {l : Bs} {k : Nat} (h : k < l.length) : hexB (l.take (k + 1)) = hexB (l.take k) ++ hexC l[k] := by
  unfold hexB
  rw [List.take_succ_eq_append_getElem h, List.flatMap_append]
  simp
theorem hexB_to (l : Bs) (k : Nat) : (hexB (l.take k)).length ≤ 2 * l.length := by
  rw [hexB_len, List.length_take]
  omega
end V
theorem digL_at {n : Nat} (h : n < 16) : (ByteArray.mk #[48, 49, 50, 51, 52, 53, 54, 55, 56, 57, 97, 98, 99, 100, 101, 102]).data.toList[n]? = some (V.digL.getD n 0) := by
  have : ∀ m : Fin 16, (ByteArray.mk #[48, 49, 50, 51, 52, 53, 54, 55, 56, 57, 97, 98, 99, 100, 101, 102]).data.toList[m.val]? = some (V.digL.getD m.val 0) := by decide +kernel
  exact this ⟨n, h⟩
end Go.Proofs.YtpjjkbdkgaehkaaGreatDoor
