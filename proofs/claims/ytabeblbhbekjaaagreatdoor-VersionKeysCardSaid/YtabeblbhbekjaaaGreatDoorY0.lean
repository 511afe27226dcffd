/-
  A string of one byte, made of a slice.
-/
import Derived.Test.YtabeblbhbekjaaaGreatDoorV3
namespace Go.Proofs.YtabeblbhbekjaaaGreatDoor
open Go.RowKit

/-- 'string([]byte{b})' -/
theorem conv_one (W : World) (n : Int) : (convert 116 9 (.slice (some ⟨W.heap.size, 0, none⟩) 1 1)).run Tryz.prog (W.alloc (.cells #[.int .u8 n] 5)) =
    .ok (.string ⟨#[UInt8.ofNat n.toNat]⟩) (W.alloc (.cells #[.int .u8 n] 5)) := by
  have h := run_convert_bytes_arg (P := Tryz.prog) (W.alloc (.cells #[.int .u8 n] 5)) 116 5 Tryz.underlying116 Tryz.underlying5 W.heap.size 0 1 1 [n] rfl (fun i hi => by
    obtain rfl : i = 0 := by omega
    rw [World.cell?_alloc_new]; rfl) 9 Tryz.underlying9
  exact h

end Go.Proofs.YtabeblbhbekjaaaGreatDoor
