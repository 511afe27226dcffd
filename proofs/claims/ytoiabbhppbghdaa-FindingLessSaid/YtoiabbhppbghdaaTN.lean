/-
  Slices of numbers that came in; a new tape; a tape behind a store elsewhere.
-/
import Derived.Test.YtoiabbhppbghdaaT1
namespace Go.Proofs.Ytoiabbhppbghdaa
open Go.RowKit

/-- a slice of numbers that came in -/
def Nums (w : World) (a : Option Addr) (m : Nat) : Prop :=
  m ≤ maxLen ∧ ∀ j, j < m → ∃ b' off x, a = some ⟨b', off, none⟩ ∧ b' < w.heap.size ∧ w.cell? ⟨b', off + j, none⟩ = some (.int .i64 x) ∧ (Lit.int .i64 x).wf = true

/-- a new tape -/
theorem Tape.made {w w' : World} {a : Option Addr} {m cap b : Nat} (h : Nums w a m) (hb : Below w.heap.size w w') (hlt : w.heap.size ≤ b) (c0 : w'.cell? ⟨b, 0, none⟩ = some (.slice a m cap)) (c1 : w'.cell? ⟨b, 1, none⟩ = some (.int .i64 0)) (hf : w'.frozen? ⟨b, 1, none⟩ = false) : Tape w' b 0 := by
  obtain ⟨hm, hx⟩ := h
  refine ⟨a, m, cap, 0, c0, c1, Nat.le_refl _, hm, hf, fun j hj => ?_⟩
  obtain ⟨b', off, x, rfl, h1, h2, h3⟩ := hx j hj
  exact ⟨b', off, x, rfl, Nat.lt_of_lt_of_le h1 hb.size, by omega, (hb.cell (p := ⟨b', off + j, none⟩) h1).trans h2, h3⟩

theorem cell_set (w : World) (b o b' o' : Nat) (u : Value) (h : ∃ v, w.cell? ⟨b, o, none⟩ = some v) : (w.setCell ⟨b, o, none⟩ u).cell? ⟨b', o', none⟩ = if b' = b ∧ o' = o then some u else w.cell? ⟨b', o', none⟩ := by
  obtain ⟨v, hv⟩ := h
  split
  · rename_i h; obtain ⟨rfl, rfl⟩ := h; exact World.cell?_setCell_same _ _ _ hv
  · rename_i h
    exact World.cell?_setCell_other _ _ _ _ (by intro e; injection e with e1 e2; exact h ⟨e1.symm, e2.symm⟩)

theorem Tape.set {w : World} {b k b' o : Nat} {u u0 : Value} (h : Tape w b k) (hne : b' ≠ b) (hc : w.cell? ⟨b', o, none⟩ = some u0) (hu : ∀ kk x, u0 ≠ .int kk x) : Tape (w.setCell ⟨b', o, none⟩ u) b k := by
  obtain ⟨a, m, cap, p, c0, c1, hp, hm, hf, hx⟩ := h
  have e := fun b2 o2 => cell_set w b' o b2 o2 u ⟨_, hc⟩
  refine ⟨a, m, cap, p, ?_, ?_, hp, hm, by simp only [World.frozen?_setCell]; exact hf, fun j hj => ?_⟩
  · rw [e, if_neg (fun g => hne g.1.symm)]; exact c0
  · rw [e, if_neg (fun g => hne g.1.symm)]; exact c1
  · obtain ⟨b2, off, x, rfl, h1, h2, h3, h4⟩ := hx j hj
    refine ⟨b2, off, x, rfl, by simpa [World.setCell] using h1, h2, ?_, h4⟩
    rw [e, if_neg]
    · exact h3
    · rintro ⟨rfl, rfl⟩
      rw [hc] at h3
      exact hu _ _ (Option.some.inj h3)

end Go.Proofs.Ytoiabbhppbghdaa
