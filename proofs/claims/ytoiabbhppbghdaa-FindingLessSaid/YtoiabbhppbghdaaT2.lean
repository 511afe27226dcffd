/-
  Walks: the makers: one of some strings, a version.
-/
import Derived.Test.YtoiabbhppbghdaaT1
namespace Go.Proofs.Ytoiabbhppbghdaa
open Go.RowKit

theorem Strs.from {w : World} {a : Option Addr} {n cap : Nat} {l : List V.Bs} (h : Strs w (.slice a n cap) l) : n = l.length := by
  obtain ⟨a', c, e, _⟩ := h
  cases e; rfl

/-- one of some strings -/
def PickPost (b k : Nat) (l : List V.Bs) (w : World) (e : Ending) (w' : World) : Prop :=
  ∃ x, x ∈ l ∧ e = .returned (.string ⟨x.toArray⟩) ∧ Tape w' b (k + 1) ∧ w.grownBy w' (some b)

set_option maxRecDepth 100000 in
set_option maxHeartbeats 800000 in
theorem pick_any (b k : Nat) (w : World) (a : Addr) (cap : Nat) (l : List V.Bs) (h : Tape w b k) (hk : k ≤ 1000000) (hl : 0 < l.length) (hl2 : l.length ≤ 1000) (hab : a.block ≠ b) (hs : a.spot = none)
    (hc : ∀ j, j < l.length → w.cell? ⟨a.block, a.off + j, none⟩ = some (.string ⟨(l.getD j []).toArray⟩)) :
    Calls Try.prog 23 #[.pointer (some ⟨b, 0, none⟩), .slice (some a) l.length cap] w (PickPost b k l w) := by
  have HC := Lib.hid hc
  have HT := Lib.hid h
  have HAB := Lib.hid hab
  obtain ⟨ab, ao, asp⟩ := a
  simp only at hs
  subst hs
  clear hc h hab
  go_enter Try.func23, Try.ntmps23
  go_wp2_with fail
  refine (next_any b k l.length _ HT.out (by omega) (by omega) (by omega)).mono ?_
  rintro e w1 ⟨r, hr, rfl, ht1, hg1⟩
  have hrl : r < l.length := by omega
  have hcell := hg1.cell (HC.out r hrl) (by intro e; cases e; exact HAB.out rfl)
  have HT1 := Lib.hid ht1
  have HG1 := Lib.hid hg1
  have HMem : Hid (l.getD r [] ∈ l) := Lib.hid (by rw [List.getD_eq_getElem?_getD, List.getElem?_eq_getElem hrl]; exact List.getElem_mem _)
  clear ht1 hg1 hr
  generalize l.getD r [] = x at *
  go_wp2
  go_ret
  exact ⟨x, HMem.out, rfl, HT1.out, HG1.out⟩

def semMade : List V.Bs := [[49, 46, 48, 46, 48], [49, 46, 50, 46, 48], [49, 46, 50, 46, 51], [50, 46, 48, 46, 48, 45, 114, 99, 46, 49], [50, 46, 48, 46, 48], [50, 46, 48, 46, 48, 43, 98], [48, 46, 57, 46, 48], [49, 46, 49, 48, 46, 48], [49, 46, 48, 46, 48, 45, 97, 108, 112, 104, 97]]
def debMade : List V.Bs := [[49, 46, 48], [49, 46, 48, 45, 49], [49, 46, 48, 126, 114, 99, 49], [49, 58, 48, 46, 53], [49, 46, 48, 48], [50, 46, 48], [49, 46, 48, 45, 49, 46, 49], [49, 46, 48, 43, 98], [48, 58, 49, 46, 48]]
def dotMade : List V.Bs := [[49], [49, 46, 48], [49, 46, 50], [49, 46, 49, 48], [50], [48, 49], [48, 46, 57], [49, 46, 48, 46, 49]]

/-- some version of a scheme -/
def VerPost (b k : Nat) (n : Int) (w : World) (e : Ending) (w' : World) : Prop :=
  ∃ x : V.Bs, V.valid n x = true ∧ e = .returned (.string ⟨x.toArray⟩) ∧ Tape w' b (k + 1) ∧ w.grownBy w' (some b)

set_option maxRecDepth 100000 in
set_option maxHeartbeats 1600000 in
theorem version_any (b k : Nat) (n : Int) (w : World) (h : Tape w b k) (hk : k ≤ 1000000) (hn : V.scheme n = true) :
    Calls Try.prog 50 #[.pointer (some ⟨b, 0, none⟩), .int .i64 n] w (VerPost b k n w) := by
  have HT := Lib.hid h
  have hs : n = 1 ∨ n = 2 ∨ n = 3 := by unfold V.scheme at hn; simpa [or_assoc] using hn
  clear h hn
  rcases hs with rfl | rfl | rfl
  · have HL : Hid (∀ x ∈ semMade, V.valid 1 x = true) := Lib.hid (by decide +kernel)
    go_enter Try.func50, Try.ntmps50
    go_wp2_with fail
    refine (pick_any b k _ ⟨w.heap.size, 0, none⟩ 9 semMade ((HT.out.below ((Below.refl _ w).alloc (Nat.le_refl _) _))) (by omega) (by decide) (by decide) (by have := HT.out.lt; simp; omega) rfl (fun j hj => by
      rw [World.cell?_alloc_new, Nat.zero_add]
      have : ∀ j : Fin 9, (#[Value.string ⟨#[49, 46, 48, 46, 48]⟩, Value.string ⟨#[49, 46, 50, 46, 48]⟩, Value.string ⟨#[49, 46, 50, 46, 51]⟩, Value.string ⟨#[50, 46, 48, 46, 48, 45, 114, 99, 46, 49]⟩, Value.string ⟨#[50, 46, 48, 46, 48]⟩, Value.string ⟨#[50, 46, 48, 46, 48, 43, 98]⟩, Value.string ⟨#[48, 46, 57, 46, 48]⟩, Value.string ⟨#[49, 46, 49, 48, 46, 48]⟩, Value.string ⟨#[49, 46, 48, 46, 48, 45, 97, 108, 112, 104, 97]⟩])[j.val]? = some (Value.string ⟨(semMade.getD j.val []).toArray⟩) := by
        intro j; rcases j with ⟨j, hj⟩
        have h9 : j = 0 ∨ j = 1 ∨ j = 2 ∨ j = 3 ∨ j = 4 ∨ j = 5 ∨ j = 6 ∨ j = 7 ∨ j = 8 := by omega
        rcases h9 with rfl | rfl | rfl | rfl | rfl | rfl | rfl | rfl | rfl <;> rfl
      exact this ⟨j, hj⟩)).mono ?_
    rintro e w1 ⟨x, hx, rfl, ht1, hg1⟩
    have HX := Lib.hid (HL.out x hx)
    have HT1 := Lib.hid ht1
    have HG1 := Lib.hid (World.grownBy.trans (World.grownBy_alloc w _ (some b)) hg1)
    clear hx ht1 hg1
    go_wp2
    go_ret
    exact ⟨x, HX.out, rfl, HT1.out, HG1.out⟩
  · have HL : Hid (∀ x ∈ debMade, V.valid 2 x = true) := Lib.hid (by decide +kernel)
    go_enter Try.func50, Try.ntmps50
    go_wp2_with fail
    refine (pick_any b k _ ⟨w.heap.size, 0, none⟩ 9 debMade ((HT.out.below ((Below.refl _ w).alloc (Nat.le_refl _) _))) (by omega) (by decide) (by decide) (by have := HT.out.lt; simp; omega) rfl (fun j hj => by
      rw [World.cell?_alloc_new, Nat.zero_add]
      have : ∀ j : Fin 9, (#[Value.string ⟨#[49, 46, 48]⟩, Value.string ⟨#[49, 46, 48, 45, 49]⟩, Value.string ⟨#[49, 46, 48, 126, 114, 99, 49]⟩, Value.string ⟨#[49, 58, 48, 46, 53]⟩, Value.string ⟨#[49, 46, 48, 48]⟩, Value.string ⟨#[50, 46, 48]⟩, Value.string ⟨#[49, 46, 48, 45, 49, 46, 49]⟩, Value.string ⟨#[49, 46, 48, 43, 98]⟩, Value.string ⟨#[48, 58, 49, 46, 48]⟩])[j.val]? = some (Value.string ⟨(debMade.getD j.val []).toArray⟩) := by
        intro j; rcases j with ⟨j, hj⟩
        have h9 : j = 0 ∨ j = 1 ∨ j = 2 ∨ j = 3 ∨ j = 4 ∨ j = 5 ∨ j = 6 ∨ j = 7 ∨ j = 8 := by omega
        rcases h9 with rfl | rfl | rfl | rfl | rfl | rfl | rfl | rfl | rfl <;> rfl
      exact this ⟨j, hj⟩)).mono ?_
    rintro e w1 ⟨x, hx, rfl, ht1, hg1⟩
    have HX := Lib.hid (HL.out x hx)
    have HT1 := Lib.hid ht1
    have HG1 := Lib.hid (World.grownBy.trans (World.grownBy_alloc w _ (some b)) hg1)
    clear hx ht1 hg1
    go_wp2
    go_ret
    exact ⟨x, HX.out, rfl, HT1.out, HG1.out⟩
  · have HL : Hid (∀ x ∈ dotMade, V.valid 3 x = true) := Lib.hid (by decide +kernel)
    go_enter Try.func50, Try.ntmps50
    go_wp2_with fail
    refine (pick_any b k _ ⟨w.heap.size, 0, none⟩ 8 dotMade ((HT.out.below ((Below.refl _ w).alloc (Nat.le_refl _) _))) (by omega) (by decide) (by decide) (by have := HT.out.lt; simp; omega) rfl (fun j hj => by
      rw [World.cell?_alloc_new, Nat.zero_add]
      have : ∀ j : Fin 8, (#[Value.string ⟨#[49]⟩, Value.string ⟨#[49, 46, 48]⟩, Value.string ⟨#[49, 46, 50]⟩, Value.string ⟨#[49, 46, 49, 48]⟩, Value.string ⟨#[50]⟩, Value.string ⟨#[48, 49]⟩, Value.string ⟨#[48, 46, 57]⟩, Value.string ⟨#[49, 46, 48, 46, 49]⟩])[j.val]? = some (Value.string ⟨(dotMade.getD j.val []).toArray⟩) := by
        intro j; rcases j with ⟨j, hj⟩
        have h9 : j = 0 ∨ j = 1 ∨ j = 2 ∨ j = 3 ∨ j = 4 ∨ j = 5 ∨ j = 6 ∨ j = 7 := by omega
        rcases h9 with rfl | rfl | rfl | rfl | rfl | rfl | rfl | rfl <;> rfl
      exact this ⟨j, hj⟩)).mono ?_
    rintro e w1 ⟨x, hx, rfl, ht1, hg1⟩
    have HX := Lib.hid (HL.out x hx)
    have HT1 := Lib.hid ht1
    have HG1 := Lib.hid (World.grownBy.trans (World.grownBy_alloc w _ (some b)) hg1)
    clear hx ht1 hg1
    go_wp2
    go_ret
    exact ⟨x, HX.out, rfl, HT1.out, HG1.out⟩
end Go.Proofs.Ytoiabbhppbghdaa
