/-
  Two versions of a scheme compared by Compare.
-/
import Derived.Test.YtabeblbhbekjaaaF1
import Derived.Test.YtabeblbhbekjaaaP5
namespace Go.Proofs.Ytabeblbhbekjaaa
open Go.RowKit

/-- two versions of a scheme compared -/
theorem compare_ok (n : Int) (x y : V.Bs) (c : Int) (w : World) (hm : MaxOk w) (hn : V.scheme n = true) (hx : V.valid n x = true) (hy : V.valid n y = true) (hc : V.cmpV n x y = c) :
    Calls Try.prog 5 #[.int .i64 n, .string ⟨x.toArray⟩, .string ⟨y.toArray⟩] w fun e w' => e = .returned (.tuple #[.int .i64 c, .int .i64 0]) ∧ Below w.heap.size w w' := by
  have l1 := V.valid_short hx
  have l2 := V.valid_short hy
  refine compare_at n ⟨x.toArray⟩ ⟨y.toArray⟩ c 0 ?_ w hm (by show x.length ≤ _; unfold maxLen; omega) (by show y.length ≤ _; unfold maxLen; omega)
  simp only [arr_list]
  unfold V.compareR
  rw [hn, hx, hy]
  simp only [Bool.not_true, Bool.false_eq_true, if_false, Bool.and_self, if_true, hc]

theorem cmpV_rng {n : Int} (hn : V.scheme n = true) {a b : V.Bs} (ha : V.valid n a = true) (hb : V.valid n b = true) : V.cmpV n a b = -1 ∨ V.cmpV n a b = 0 ∨ V.cmpV n a b = 1 := by
  rw [← V.key_law hn ha hb]
  exact V.cb_rng _ _

end Go.Proofs.Ytabeblbhbekjaaa
