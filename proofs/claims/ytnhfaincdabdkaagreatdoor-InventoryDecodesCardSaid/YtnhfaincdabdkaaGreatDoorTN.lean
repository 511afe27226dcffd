/-
  Walks: the tape of the makers: the next number, one of some strings, a version.
  Walks: the makers: one of some strings, a version.
  Slices of numbers that came in; a new tape; a tape behind a store elsewhere.
-/
import Derived.Test.YtnhfaincdabdkaaGreatDoorL2
import Derived.Test.YtnhfaincdabdkaaGreatDoorP3
import Derived.OwnWalk
import Derived.BigRegion
import Derived.Maps.AppendAt
import Derived.Maps.RangeWalk
namespace Go.Proofs.YtnhfaincdabdkaaGreatDoor
open Go.RowKit

/-- block b holds a tape from which at most k numbers were taken -/
def Tape (w : World) (b k : Nat) : Prop :=
  ∃ (a : Option Addr) (m cap p : Nat), w.cell? ⟨b, 0, none⟩ = some (.slice a m cap) ∧ w.cell? ⟨b, 1, none⟩ = some (.int .i64 p) ∧ p ≤ k ∧ m ≤ maxLen ∧
    w.frozen? ⟨b, 1, none⟩ = false ∧
    ∀ j, j < m → ∃ b' off x, a = some ⟨b', off, none⟩ ∧ b' < w.heap.size ∧ b' < b ∧ w.cell? ⟨b', off + j, none⟩ = some (.int .i64 x) ∧ (Lit.int .i64 x).wf = true

theorem Tape.lt {w : World} {b k : Nat} (h : Tape w b k) : b < w.heap.size := by
  obtain ⟨a, m, cap, p, c0, _⟩ := h
  exact World.block_lt_of_cell? _ _ c0

theorem Tape.grown {w w' : World} {b k : Nat} {row : Option Nat} (h : Tape w b k) (hg : w.grownBy w' row) (hb : row ≠ some b) (hr : ∀ b', row = some b' → b < b') : Tape w' b k := by
  obtain ⟨a, m, cap, p, c0, c1, hp, hm, hf, hx⟩ := h
  have hlt := World.block_lt_of_cell? _ _ c0
  refine ⟨a, m, cap, p, hg.cell c0 (fun e => hb e.symm), hg.cell c1 (fun e => hb e.symm), hp, hm, ?_, fun j hj => ?_⟩
  · rw [World.frozen?_of_block (w := w) (hg.block b hlt (fun e => hb e.symm))]; exact hf
  · obtain ⟨b', off, x, rfl, h1, h2, h3, h4⟩ := hx j hj
    exact ⟨b', off, x, rfl, Nat.lt_of_lt_of_le h1 hg.size, h2, hg.cell h3 (fun e => by have := hr b' e.symm; omega), h4⟩

theorem Tape.below {w w' : World} {b k : Nat} (h : Tape w b k) (hb : Below w.heap.size w w') : Tape w' b k := by
  obtain ⟨a, m, cap, p, c0, c1, hp, hm, hf, hx⟩ := h
  have hlt := World.block_lt_of_cell? _ _ c0
  refine ⟨a, m, cap, p, (hb.cell (p := ⟨b, 0, none⟩) hlt).trans c0, (hb.cell (p := ⟨b, 1, none⟩) hlt).trans c1, hp, hm, (hb.frozen (p := ⟨b, 1, none⟩) hlt).trans hf, fun j hj => ?_⟩
  obtain ⟨b', off, x, rfl, h1, h2, h3, h4⟩ := hx j hj
  exact ⟨b', off, x, rfl, Nat.lt_of_lt_of_le h1 hb.size, h2, (hb.cell (p := ⟨b', off + j, none⟩) h1).trans h3, h4⟩

theorem Tape.le {w : World} {b k k' : Nat} (h : Tape w b k) (hk : k ≤ k') : Tape w b k' := by
  obtain ⟨a, m, cap, p, c0, c1, hp, rest⟩ := h
  exact ⟨a, m, cap, p, c0, c1, Nat.le_trans hp hk, rest⟩

theorem drewN_grown (w : World) (n : Nat) (row : Option Nat) : w.grownBy (w.drewN n) row :=
  have h := below_drewN (Below.refl w.heap.size w) n
  ⟨h.os, h.tape, h.output, h.size, fun k hk _ => h.block k hk⟩
theorem drew_grown (w : World) (row : Option Nat) : w.grownBy w.drew row :=
  have h := (Below.refl w.heap.size w).drew
  ⟨h.os, h.tape, h.output, h.size, fun k hk _ => h.block k hk⟩
theorem set_grown (w : World) (b o : Nat) (u : Value) : w.grownBy (w.setCell ⟨b, o, none⟩ u) (some b) :=
  ⟨rfl, rfl, rfl, by simp [World.setCell], fun k _ hk => Below.heap_setCell _ _ _ _ (fun e => hk (by rw [e]))⟩
theorem below_grown {w w' : World} (h : Below w.heap.size w w') (row : Option Nat) : w.grownBy w' row := ⟨h.os, h.tape, h.output, h.size, fun k hk _ => h.block k hk⟩
theorem grown_below {w w' : World} {b B : Nat} (h : w.grownBy w' (some b)) (hb : B ≤ b) (hB : B ≤ w.heap.size) : Below B w w' :=
  ⟨h.os, h.tape, h.output, h.size, fun k hk => h.block k (by omega) (fun e => by cases e; omega)⟩

/-- behind a number taken -/
theorem Tape.step {w : World} {b k : Nat} {a : Option Addr} {m cap p : Nat} {u : Nat} (c0 : w.cell? ⟨b, 0, none⟩ = some (.slice a m cap)) (c1 : w.cell? ⟨b, 1, none⟩ = some (.int .i64 p)) (hp : p ≤ k) (hm : m ≤ maxLen) (hf : w.frozen? ⟨b, 1, none⟩ = false)
    (hx : ∀ j, j < m → ∃ b' off x, a = some ⟨b', off, none⟩ ∧ b' < w.heap.size ∧ b' < b ∧ w.cell? ⟨b', off + j, none⟩ = some (.int .i64 x) ∧ (Lit.int .i64 x).wf = true) (hu : u = p + 1) :
    Tape (w.setCell ⟨b, 1, none⟩ (.int .i64 (u : Int))) b (k + 1) := by
  subst hu
  have e : ∀ (b' o : Nat), b' ≠ b → (w.setCell ⟨b, 1, none⟩ (.int .i64 ((p + 1 : Nat) : Int))).cell? ⟨b', o, none⟩ = w.cell? ⟨b', o, none⟩ := fun b' o hne =>
    World.cell?_setCell_other _ _ _ _ (by intro e; injection e with e; exact hne e.symm)
  refine ⟨a, m, cap, p + 1, ?_, ?_, by omega, hm, ?_, fun j hj => ?_⟩
  · rw [World.cell?_setCell_other _ _ _ _ (by intro e; injection e with _ e; exact absurd e (by decide))]; exact c0
  · rw [World.cell?_setCell_same _ _ _ c1]
  · simp only [World.frozen?_setCell]; exact hf
  · obtain ⟨b', off, x, rfl, h1, h2, h3, h4⟩ := hx j hj
    exact ⟨b', off, x, rfl, by simpa [World.setCell] using h1, h2, by rw [e _ _ (Nat.ne_of_lt h2)]; exact h3, h4⟩

def NextPost (b k : Nat) (n : Int) (w : World) (e : Ending) (w' : World) : Prop :=
  ∃ r : Nat, (r : Int) < n ∧ e = .returned (.int .i64 r) ∧ Tape w' b (k + 1) ∧ w.grownBy w' (some b)
theorem tmod_rng (x n : Int) (h : 1 ≤ n) : -n < x.tmod n ∧ x.tmod n < n ∧ 0 ≤ x.tmod n + n ∧ 0 ≤ (x.tmod n + n) % n ∧ (x.tmod n + n) % n < n := by
  have h1 := Int.lt_tmod_of_pos x (show (0 : Int) < n by omega)
  have h2 := Int.tmod_lt_of_pos x (show (0 : Int) < n by omega)
  exact ⟨by omega, h2, by omega, Int.emod_nonneg _ (by omega), Int.emod_lt_of_pos _ (by omega)⟩

/-- the end of a walk through Next: the world W only drew -/
theorem next_end {w W : World} {b k : Nat} {n v : Int} {a : Option Addr} {m cap p : Nat} (hW : ∃ i, W = w.drewN i) (c0 : w.cell? ⟨b, 0, none⟩ = some (.slice a m cap)) (c1 : w.cell? ⟨b, 1, none⟩ = some (.int .i64 p)) (hp : p ≤ k) (hm : m ≤ maxLen) (hf : w.frozen? ⟨b, 1, none⟩ = false)
    (hx : ∀ j, j < m → ∃ b' off x, a = some ⟨b', off, none⟩ ∧ b' < w.heap.size ∧ b' < b ∧ w.cell? ⟨b', off + j, none⟩ = some (.int .i64 x) ∧ (Lit.int .i64 x).wf = true) (h0 : 0 ≤ v) (hv : v < n) :
    NextPost b k n w (.returned (.int .i64 v)) (W.setCell ⟨b, 1, none⟩ (.int .i64 ((p : Int) + 1))) := by
  obtain ⟨i, rfl⟩ := hW
  have hg : w.grownBy (w.drewN i) none := drewN_grown w i none
  have hlt := World.block_lt_of_cell? _ _ c0
  refine ⟨v.toNat, by omega, by rw [Int.toNat_of_nonneg h0], ?_, World.grownBy.trans (World.grownBy.but hg _) (set_grown _ _ _ _)⟩
  refine Tape.step (w := w.drewN i) (hg.cell c0 (by simp)) (hg.cell c1 (by simp)) hp hm ?_ (fun l hl => ?_) rfl
  · rw [World.frozen?_of_block (w := w) (hg.block b hlt (by simp))]; exact hf
  · obtain ⟨b', off, x, e, h1, h2, h3, h4⟩ := hx l hl
    exact ⟨b', off, x, e, Nat.lt_of_lt_of_le h1 hg.size, h2, hg.cell h3 (by simp), h4⟩

set_option maxRecDepth 100000 in
set_option maxHeartbeats 1600000 in
theorem next_any (b k : Nat) (n : Int) (w : World) (h : Tape w b k) (hk : k ≤ 1000000000) (h1 : 1 ≤ n) (h2 : n ≤ 1000000000) :
    Calls Tryz.prog 33 #[.pointer (some ⟨b, 0, none⟩), .int .i64 n] w (NextPost b k n w) := by
  obtain ⟨a, m, cap, p, c0, c1, hp, hm, hf, hx⟩ := h
  have HX := Lib.hid hx
  have hz := World.block_lt_of_cell? _ _ c0
  unfold maxLen at hm
  clear hx
  by_cases hlt : p < m
  · obtain ⟨b', off, x, rfl, hb', hne, hc, hwf⟩ := HX.out p hlt
    have hzb : -9223372036854775808 ≤ x ∧ x ≤ 9223372036854775807 := by simpa [Lit.wf, IntKind.min, IntKind.max, IntKind.signed, IntKind.bits] using hwf
    obtain ⟨hz1, hz2⟩ := hzb
    obtain ⟨t1, t2, t3, t4, t5⟩ := tmod_rng x n h1
    clear hwf
    go_enter Tryz.func33, Tryz.ntmps33
    go_wp2
    go_quiet (fail)
    go_wp2
    go_quiet (fail)
    go_wp2
    go_ret
    exact next_end ⟨_, rfl⟩ c0 c1 hp hm hf HX.out t4 t5
  · obtain ⟨t1, t2, t3, t4, t5⟩ := tmod_rng ((p : Int) * 7 + 3) n h1
    have t6 : 0 ≤ ((p : Int) * 7 + 3) % n := Int.emod_nonneg _ (by omega)
    have t7 : ((p : Int) * 7 + 3) % n < n := Int.emod_lt_of_pos _ (by omega)
    go_enter Tryz.func33, Tryz.ntmps33
    go_wp2
    go_quiet (fail)
    go_wp2
    go_ret
    exact next_end ⟨_, rfl⟩ c0 c1 hp hm hf HX.out (Int.emod_nonneg _ (by omega)) (Int.emod_lt_of_pos _ (by omega))
end Go.Proofs.YtnhfaincdabdkaaGreatDoor
namespace Go.Proofs.YtnhfaincdabdkaaGreatDoor
open Go.RowKit

theorem Strs.from {w : World} {a : Option Addr} {n cap : Nat} {l : List V.Bs} (h : Strs w (.slice a n cap) l) : n = l.length := by
  obtain ⟨a', c, e, _⟩ := h
  cases e; rfl

/-- one of some strings -/
def PickPost (b k : Nat) (l : List V.Bs) (w : World) (e : Ending) (w' : World) : Prop :=
  ∃ x, x ∈ l ∧ e = .returned (.string ⟨x.toArray⟩) ∧ Tape w' b (k + 1) ∧ w.grownBy w' (some b)

set_option maxRecDepth 100000 in
set_option maxHeartbeats 800000 in
theorem pick_any (b k : Nat) (w : World) (a : Addr) (cap : Nat) (l : List V.Bs) (h : Tape w b k) (hk : k ≤ 1000000) (hl : 0 < l.length) (hl2 : l.length ≤ 1000) (hab : a.block ≠ b) (hs : a.spot = none)
    (hc : ∀ j, j < l.length → w.cell? ⟨a.block, a.off + j, none⟩ = some (.string ⟨(l.getD j []).toArray⟩)) :
    Calls Tryz.prog 31 #[.pointer (some ⟨b, 0, none⟩), .slice (some a) l.length cap] w (PickPost b k l w) := by
  have HC := Lib.hid hc
  have HT := Lib.hid h
  have HAB := Lib.hid hab
  obtain ⟨ab, ao, asp⟩ := a
  simp only at hs
  subst hs
  clear hc h hab
  go_enter Tryz.func31, Tryz.ntmps31
  go_wp2_with fail
  refine (next_any b k l.length _ HT.out (by omega) (by omega) (by omega)).mono ?_
  rintro e w1 ⟨r, hr, rfl, ht1, hg1⟩
  have hrl : r < l.length := by omega
  have hcell := hg1.cell (HC.out r hrl) (by intro e; cases e; exact HAB.out rfl)
  have HT1 := Lib.hid ht1
  have HG1 := Lib.hid hg1
  have HMem : Hid (l.getD r [] ∈ l) := Lib.hid (by rw [List.getD_eq_getElem?_getD, List.getElem?_eq_getElem hrl]; exact List.getElem_mem _)
  clear ht1 hg1 hr
  generalize l.getD r [] = x at *
  go_wp2
  go_ret
  exact ⟨x, HMem.out, rfl, HT1.out, HG1.out⟩

def semMade : List V.Bs := [[49, 46, 48, 46, 48], [49, 46, 50, 46, 48], [49, 46, 50, 46, 51], [50, 46, 48, 46, 48, 45, 114, 99, 46, 49], [50, 46, 48, 46, 48], [50, 46, 48, 46, 48, 43, 98], [48, 46, 57, 46, 48], [49, 46, 49, 48, 46, 48], [49, 46, 48, 46, 48, 45, 97, 108, 112, 104, 97]]
def debMade : List V.Bs := [[49, 46, 48], [49, 46, 48, 45, 49], [49, 46, 48, 126, 114, 99, 49], [49, 58, 48, 46, 53], [49, 46, 48, 48], [50, 46, 48], [49, 46, 48, 45, 49, 46, 49], [49, 46, 48, 43, 98], [48, 58, 49, 46, 48]]
def dotMade : List V.Bs := [[49], [49, 46, 48], [49, 46, 50], [49, 46, 49, 48], [50], [48, 49], [48, 46, 57], [49, 46, 48, 46, 49]]

/-- some version of a scheme -/
def VerPost (b k : Nat) (n : Int) (w : World) (e : Ending) (w' : World) : Prop :=
  ∃ x : V.Bs, V.valid n x = true ∧ e = .returned (.string ⟨x.toArray⟩) ∧ Tape w' b (k + 1) ∧ w.grownBy w' (some b)

set_option maxRecDepth 100000 in
set_option maxHeartbeats 1600000 in
theorem version_any (b k : Nat) (n : Int) (w : World) (h : Tape w b k) (hk : k ≤ 1000000) (hn : V.scheme n = true) :
    Calls Tryz.prog 36 #[.pointer (some ⟨b, 0, none⟩), .int .i64 n] w (VerPost b k n w) := by
  have HT := Lib.hid h
  have hs : n = 1 ∨ n = 2 ∨ n = 3 := by unfold V.scheme at hn; simpa [or_assoc] using hn
  clear h hn
  rcases hs with rfl | rfl | rfl
  · have HL : Hid (∀ x ∈ semMade, V.valid 1 x = true) := Lib.hid (by decide +kernel)
    go_enter Tryz.func36, Tryz.ntmps36
    go_wp2_with fail
    refine (pick_any b k _ ⟨w.heap.size, 0, none⟩ 9 semMade ((HT.out.below ((Below.refl _ w).alloc (Nat.le_refl _) _))) (by omega) (by decide) (by decide) (by have := HT.out.lt; simp; omega) rfl (fun j hj => by
      rw [World.cell?_alloc_new, Nat.zero_add]
      have : ∀ j : Fin 9, (#[Value.string ⟨#[49, 46, 48, 46, 48]⟩, Value.string ⟨#[49, 46, 50, 46, 48]⟩, Value.string ⟨#[49, 46, 50, 46, 51]⟩, Value.string ⟨#[50, 46, 48, 46, 48, 45, 114, 99, 46, 49]⟩, Value.string ⟨#[50, 46, 48, 46, 48]⟩, Value.string ⟨#[50, 46, 48, 46, 48, 43, 98]⟩, Value.string ⟨#[48, 46, 57, 46, 48]⟩, Value.string ⟨#[49, 46, 49, 48, 46, 48]⟩, Value.string ⟨#[49, 46, 48, 46, 48, 45, 97, 108, 112, 104, 97]⟩])[j.val]? = some (Value.string ⟨(semMade.getD j.val []).toArray⟩) := by
        intro j; rcases j with ⟨j, hj⟩
        have h9 : j = 0 ∨ j = 1 ∨ j = 2 ∨ j = 3 ∨ j = 4 ∨ j = 5 ∨ j = 6 ∨ j = 7 ∨ j = 8 := by omega
        rcases h9 with rfl | rfl | rfl | rfl | rfl | rfl | rfl | rfl | rfl <;> rfl
      exact this ⟨j, hj⟩)).mono ?_
    rintro e w1 ⟨x, hx, rfl, ht1, hg1⟩
    have HX := Lib.hid (HL.out x hx)
    have HT1 := Lib.hid ht1
    have HG1 := Lib.hid (World.grownBy.trans (World.grownBy_alloc w _ (some b)) hg1)
    clear hx ht1 hg1
    go_wp2
    go_ret
    exact ⟨x, HX.out, rfl, HT1.out, HG1.out⟩
  · have HL : Hid (∀ x ∈ debMade, V.valid 2 x = true) := Lib.hid (by decide +kernel)
    go_enter Tryz.func36, Tryz.ntmps36
    go_wp2_with fail
    refine (pick_any b k _ ⟨w.heap.size, 0, none⟩ 9 debMade ((HT.out.below ((Below.refl _ w).alloc (Nat.le_refl _) _))) (by omega) (by decide) (by decide) (by have := HT.out.lt; simp; omega) rfl (fun j hj => by
      rw [World.cell?_alloc_new, Nat.zero_add]
      have : ∀ j : Fin 9, (#[Value.string ⟨#[49, 46, 48]⟩, Value.string ⟨#[49, 46, 48, 45, 49]⟩, Value.string ⟨#[49, 46, 48, 126, 114, 99, 49]⟩, Value.string ⟨#[49, 58, 48, 46, 53]⟩, Value.string ⟨#[49, 46, 48, 48]⟩, Value.string ⟨#[50, 46, 48]⟩, Value.string ⟨#[49, 46, 48, 45, 49, 46, 49]⟩, Value.string ⟨#[49, 46, 48, 43, 98]⟩, Value.string ⟨#[48, 58, 49, 46, 48]⟩])[j.val]? = some (Value.string ⟨(debMade.getD j.val []).toArray⟩) := by
        intro j; rcases j with ⟨j, hj⟩
        have h9 : j = 0 ∨ j = 1 ∨ j = 2 ∨ j = 3 ∨ j = 4 ∨ j = 5 ∨ j = 6 ∨ j = 7 ∨ j = 8 := by omega
        rcases h9 with rfl | rfl | rfl | rfl | rfl | rfl | rfl | rfl | rfl <;> rfl
      exact this ⟨j, hj⟩)).mono ?_
    rintro e w1 ⟨x, hx, rfl, ht1, hg1⟩
    have HX := Lib.hid (HL.out x hx)
    have HT1 := Lib.hid ht1
    have HG1 := Lib.hid (World.grownBy.trans (World.grownBy_alloc w _ (some b)) hg1)
    clear hx ht1 hg1
    go_wp2
    go_ret
    exact ⟨x, HX.out, rfl, HT1.out, HG1.out⟩
  · have HL : Hid (∀ x ∈ dotMade, V.valid 3 x = true) := Lib.hid (by decide +kernel)
    go_enter Tryz.func36, Tryz.ntmps36
    go_wp2_with fail
    refine (pick_any b k _ ⟨w.heap.size, 0, none⟩ 8 dotMade ((HT.out.below ((Below.refl _ w).alloc (Nat.le_refl _) _))) (by omega) (by decide) (by decide) (by have := HT.out.lt; simp; omega) rfl (fun j hj => by
      rw [World.cell?_alloc_new, Nat.zero_add]
      have : ∀ j : Fin 8, (#[Value.string ⟨#[49]⟩, Value.string ⟨#[49, 46, 48]⟩, Value.string ⟨#[49, 46, 50]⟩, Value.string ⟨#[49, 46, 49, 48]⟩, Value.string ⟨#[50]⟩, Value.string ⟨#[48, 49]⟩, Value.string ⟨#[48, 46, 57]⟩, Value.string ⟨#[49, 46, 48, 46, 49]⟩])[j.val]? = some (Value.string ⟨(dotMade.getD j.val []).toArray⟩) := by
        intro j; rcases j with ⟨j, hj⟩
        have h9 : j = 0 ∨ j = 1 ∨ j = 2 ∨ j = 3 ∨ j = 4 ∨ j = 5 ∨ j = 6 ∨ j = 7 := by omega
        rcases h9 with rfl | rfl | rfl | rfl | rfl | rfl | rfl | rfl <;> rfl
      exact this ⟨j, hj⟩)).mono ?_
    rintro e w1 ⟨x, hx, rfl, ht1, hg1⟩
    have HX := Lib.hid (HL.out x hx)
    have HT1 := Lib.hid ht1
    have HG1 := Lib.hid (World.grownBy.trans (World.grownBy_alloc w _ (some b)) hg1)
    clear hx ht1 hg1
    go_wp2
    go_ret
    exact ⟨x, HX.out, rfl, HT1.out, HG1.out⟩
end Go.Proofs.YtnhfaincdabdkaaGreatDoor
namespace Go.Proofs.YtnhfaincdabdkaaGreatDoor
open Go.RowKit

/-- a slice of numbers that came in -/
def Nums (w : World) (a : Option Addr) (m : Nat) : Prop :=
  m ≤ maxLen ∧ ∀ j, j < m → ∃ b' off x, a = some ⟨b', off, none⟩ ∧ b' < w.heap.size ∧ w.cell? ⟨b', off + j, none⟩ = some (.int .i64 x) ∧ (Lit.int .i64 x).wf = true

/-- a new tape -/
theorem Tape.made {w w' : World} {a : Option Addr} {m cap b : Nat} (h : Nums w a m) (hb : Below w.heap.size w w') (hlt : w.heap.size ≤ b) (c0 : w'.cell? ⟨b, 0, none⟩ = some (.slice a m cap)) (c1 : w'.cell? ⟨b, 1, none⟩ = some (.int .i64 0)) (hf : w'.frozen? ⟨b, 1, none⟩ = false) : Tape w' b 0 := by
  obtain ⟨hm, hx⟩ := h
  refine ⟨a, m, cap, 0, c0, c1, Nat.le_refl _, hm, hf, fun j hj => ?_⟩
  obtain ⟨b', off, x, rfl, h1, h2, h3⟩ := hx j hj
  exact ⟨b', off, x, rfl, Nat.lt_of_lt_of_le h1 hb.size, by omega, (hb.cell (p := ⟨b', off + j, none⟩) h1).trans h2, h3⟩

theorem cell_set (w : World) (b o b' o' : Nat) (u : Value) (h : ∃ v, w.cell? ⟨b, o, none⟩ = some v) : (w.setCell ⟨b, o, none⟩ u).cell? ⟨b', o', none⟩ = if b' = b ∧ o' = o then some u else w.cell? ⟨b', o', none⟩ := by
  obtain ⟨v, hv⟩ := h
  split
  · rename_i h; obtain ⟨rfl, rfl⟩ := h; exact World.cell?_setCell_same _ _ _ hv
  · rename_i h
    exact World.cell?_setCell_other _ _ _ _ (by intro e; injection e with e1 e2; exact h ⟨e1.symm, e2.symm⟩)

theorem Tape.set {w : World} {b k b' o : Nat} {u u0 : Value} (h : Tape w b k) (hne : b' ≠ b) (hc : w.cell? ⟨b', o, none⟩ = some u0) (hu : ∀ kk x, u0 ≠ .int kk x) : Tape (w.setCell ⟨b', o, none⟩ u) b k := by
  obtain ⟨a, m, cap, p, c0, c1, hp, hm, hf, hx⟩ := h
  have e := fun b2 o2 => cell_set w b' o b2 o2 u ⟨_, hc⟩
  refine ⟨a, m, cap, p, ?_, ?_, hp, hm, by simp only [World.frozen?_setCell]; exact hf, fun j hj => ?_⟩
  · rw [e, if_neg (fun g => hne g.1.symm)]; exact c0
  · rw [e, if_neg (fun g => hne g.1.symm)]; exact c1
  · obtain ⟨b2, off, x, rfl, h1, h2, h3, h4⟩ := hx j hj
    refine ⟨b2, off, x, rfl, by simpa [World.setCell] using h1, h2, ?_, h4⟩
    rw [e, if_neg]
    · exact h3
    · rintro ⟨rfl, rfl⟩
      rw [hc] at h3
      exact hu _ _ (Option.some.inj h3)

end Go.Proofs.YtnhfaincdabdkaaGreatDoor
