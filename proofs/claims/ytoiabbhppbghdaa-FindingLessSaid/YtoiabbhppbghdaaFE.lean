/-
  Walks: small makers of the cases: Within, IDs, Tape.
-/
import Derived.Test.YtoiabbhppbghdaaFD
import Derived.Test.YtoiabbhppbghdaaTN
import Derived.Test.YtoiabbhppbghdaaT2
namespace Go.Proofs.Ytoiabbhppbghdaa
open Go.RowKit

theorem within_any (x : Int) (w : World) (hx : (Lit.int .i64 x).wf = true) :
    Calls Try.prog 8 #[.int .i64 x, .int .i64 12] w fun e w' => ∃ r : Int, e = .returned (.int .i64 r) ∧ 0 ≤ r ∧ r < 12 ∧ w' = w := by
  obtain ⟨hz1, hz2⟩ := wf_rng hx
  obtain ⟨t1, t2, t3, t4, t5⟩ := tmod_rng x 12 (by decide)
  clear hx
  go_enter Try.func8, Try.ntmps8
  go_wp2
  go_ret
  exact ⟨(x.tmod 12 + 12) % 12, rfl, t4, t5, rfl⟩

def idNames : List V.Bs := [[119, 45, 49], [119, 45, 50], [119, 45, 51]]
theorem ids_short : ∀ x ∈ idNames, x.length ≤ 100 := by decide
theorem idsOf_any (w : World) :
    Calls Try.prog 24 #[] w fun e w' => e = .returned (.slice (some ⟨w.heap.size, 0, none⟩) 3 3) ∧ w' = w.alloc (.cells #[.string ⟨#[119, 45, 49]⟩, .string ⟨#[119, 45, 50]⟩, .string ⟨#[119, 45, 51]⟩] 9) := by
  go_enter Try.func24, Try.ntmps24
  go_wp2
  go_ret
  exact ⟨rfl, rfl⟩

/-- a tape of the first 150 numbers -/
theorem tapeOf_any (a : Option Addr) (m cap : Nat) (w : World) (ht : Nums w a m) (hmc : m ≤ cap) :
    Calls Try.prog 7 #[.slice a m cap, .int .i64 150] w fun e w' => e = .returned (.pointer (some ⟨w.heap.size, 0, none⟩)) ∧ Tape w' w.heap.size 0 ∧ Below w.heap.size w w' ∧ w.heap.size < w'.heap.size := by
  have HT := Lib.hid ht
  have hl : Nums w a (min m 150) := ⟨by have := ht.1; omega, fun j hj => ht.2 j (by omega)⟩
  have HL := Lib.hid hl
  obtain ⟨q, hq⟩ : ∃ q, q = min m 150 := ⟨_, rfl⟩
  rw [← hq] at HL
  have hq1 : min (m : Int) 150 = (q : Int) := by omega
  have hq2 : (0 : Int) ≤ (q : Int) := by omega
  have hq3 : (q : Int) ≤ (cap : Int) := by omega
  have hb : Below w.heap.size w (w.alloc (.cells #[.slice a q cap, .int .i64 0] 44)) := (Below.refl _ w).alloc (Nat.le_refl _) _
  have HP : Hid (Tape (w.alloc (.cells #[.slice a q cap, .int .i64 0] 44)) w.heap.size 0) := Lib.hid (Tape.made HL.out hb (Nat.le_refl _) (by rw [World.cell?_alloc_new]; rfl) (by rw [World.cell?_alloc_new]; rfl) (by rw [frozen_alloc, if_pos rfl]))
  have HB := Lib.hid hb
  clear ht hl hq hb
  go_enter Try.func7, Try.ntmps7
  go_wp2
  go_ret
  exact ⟨rfl, HP.out, HB.out, by simp⟩
end Go.Proofs.Ytoiabbhppbghdaa
