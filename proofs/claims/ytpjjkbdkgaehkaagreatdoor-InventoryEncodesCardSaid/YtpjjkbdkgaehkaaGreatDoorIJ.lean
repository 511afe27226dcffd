/-
  Walks of the reference: index, Instant, Valid.
-/
import Derived.Test.YtpjjkbdkgaehkaaGreatDoorJN
import Derived.Test.YtpjjkbdkgaehkaaGreatDoorJCR
namespace Go.Proofs.YtpjjkbdkgaehkaaGreatDoor
open Go.RowKit

set_option maxRecDepth 100000 in
theorem rinstant_any (t : Int) (w : World) :
    Calls Tryz.prog 35 #[.int .i64 t] w fun e w' => e = .returned (.bool (decide (0 ≤ t) && decide (t ≤ 1099511627776))) ∧ w' = w := by
  go_enter Tryz.func35, Tryz.ntmps35
  by_cases h1 : 0 ≤ t
  · have e1 : decide (0 ≤ t) = true := decide_eq_true h1
    rw [e1]
    go_wp2
    go_ret
    exact ⟨rfl, rfl⟩
  · have e1 : decide (0 ≤ t) = false := decide_eq_false h1
    rw [e1]
    go_wp2
    go_ret
    exact ⟨rfl, rfl⟩
end Go.Proofs.YtpjjkbdkgaehkaaGreatDoor
