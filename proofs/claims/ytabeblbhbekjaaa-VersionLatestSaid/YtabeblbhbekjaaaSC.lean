/-
  Walk: one of the schemes, for any number.
-/
import Derived.Test.YtabeblbhbekjaaaK
import Derived.Test.YtabeblbhbekjaaaP3
namespace Go.Proofs.Ytabeblbhbekjaaa
open Go.RowKit

/-- one of the schemes -/
def schemeOf (n : Int) : Int := 1 + (n.tmod 3 + 3) % 3

theorem schemeOf_is (n : Int) : schemeOf n = 1 ∨ schemeOf n = 2 ∨ schemeOf n = 3 := by unfold schemeOf; omega

set_option maxHeartbeats 800000 in
theorem scheme_any (n : Int) (w : World) (hn : (Lit.int .i64 n).wf = true) :
    Calls Try.prog 7 #[.int .i64 n] w fun e w' => e = .returned (.int .i64 (schemeOf n)) ∧ w = w' := by
  have hzb : -9223372036854775808 ≤ n ∧ n ≤ 9223372036854775807 := by simpa [Lit.wf, IntKind.min, IntKind.max, IntKind.signed, IntKind.bits] using hn
  obtain ⟨hz1, hz2⟩ := hzb
  have ht1 : -2 ≤ n.tmod 3 := by have := Int.lt_tmod_of_pos n (show (0 : Int) < 3 by decide); omega
  have ht2 : n.tmod 3 ≤ 2 := by have := Int.tmod_lt_of_pos n (show (0 : Int) < 3 by decide); omega
  have hzp : 0 ≤ n.tmod 3 + 3 := by omega
  clear hn
  go_enter Try.func7, Try.ntmps7
  go_wp2
  go_ret
  exact ⟨ret_int (by unfold schemeOf; omega), rfl⟩

theorem schemeOf_ok (n : Int) : V.scheme (schemeOf n) = true := by
  unfold V.scheme
  rcases schemeOf_is n with h | h | h <;> rw [h] <;> decide
end Go.Proofs.Ytabeblbhbekjaaa
