/-
  A string of one byte, made of a slice.
-/
import Derived.Test.YtabeblbhbekjaaaV3
namespace Go.Proofs.Ytabeblbhbekjaaa
open Go.RowKit

/-- 'string([]byte{b})' -/
theorem conv_one (W : World) (n : Int) : (convert 22 9 (.slice (some ⟨W.heap.size, 0, none⟩) 1 1)).run Try.prog (W.alloc (.cells #[.int .u8 n] 5)) =
    .ok (.string ⟨#[UInt8.ofNat n.toNat]⟩) (W.alloc (.cells #[.int .u8 n] 5)) := by
  have h := run_convert_bytes_arg (P := Try.prog) (W.alloc (.cells #[.int .u8 n] 5)) 22 5 Try.underlying22 Try.underlying5 W.heap.size 0 1 1 [n] rfl (fun i hi => by
    obtain rfl : i = 0 := by omega
    rw [World.cell?_alloc_new]; rfl) 9 Try.underlying9
  exact h

end Go.Proofs.Ytabeblbhbekjaaa
