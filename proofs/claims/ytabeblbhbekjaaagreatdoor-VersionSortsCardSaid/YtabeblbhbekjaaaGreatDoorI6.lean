/-
  Plain Lean, no program: rows of indices exchanged, turned and merged.
  Walks: the library's exchanges of stretches of a row.
-/
import Derived.Test.YtabeblbhbekjaaaGreatDoorI1
namespace Go.Proofs.YtabeblbhbekjaaaGreatDoor.V

abbrev Ix := Nat → Nat
/-- the two neighbouring stretches [a, m) and [m, b) change places -/
def rot (f : Ix) (a m b : Nat) : Ix := fun p => if a ≤ p ∧ p < b then (if p < a + (b - m) then f (p + (m - a)) else f (p - (b - m))) else f p
/-- n places from a on and from b on exchanged -/
def swr (f : Ix) (a b n : Nat) : Ix := fun p => if a ≤ p ∧ p < a + n then f (p - a + b) else if b ≤ p ∧ p < b + n then f (p - b + a) else f p

theorem rot_left (f : Ix) (i j m : Nat) (h : j < i) (hi : i ≤ m) : rot (swr f (m - i) m j) (m - i + j) m (m + j) = rot f (m - i) m (m + j) := by
  funext p
  simp only [rot, swr]
  repeat' split
  all_goals first | rfl | omega | (congr 1; omega)
theorem rot_right (f : Ix) (i j m : Nat) (h : i < j) (hi : i ≤ m) : rot (swr f (m - i) (m + j - i) i) (m - i) m (m + (j - i)) = rot f (m - i) m (m + j) := by
  funext p
  simp only [rot, swr]
  repeat' split
  all_goals first | rfl | omega | (congr 1; omega)
theorem rot_same (f : Ix) (i m : Nat) (hi : i ≤ m) : swr f (m - i) m i = rot f (m - i) m (m + i) := by
  funext p
  simp only [rot, swr]
  repeat' split
  all_goals first | rfl | omega | (congr 1; omega)
theorem swr_zero (f : Ix) (a b : Nat) : swr f a b 0 = f := by
  funext p
  simp only [swr]
  repeat' split
  all_goals first | rfl | omega

/-- the indices from a to b -/
def seg (f : Ix) (a b : Nat) : List Nat := (List.range (b - a)).map fun i => f (a + i)

theorem seg_len (f : Ix) (a b : Nat) : (seg f a b).length = b - a := by simp [seg]
theorem mem_seg {f : Ix} {a b x : Nat} : x ∈ seg f a b ↔ ∃ p, a ≤ p ∧ p < b ∧ f p = x := by
  unfold seg
  rw [List.mem_map]
  constructor
  · rintro ⟨i, hi, e⟩
    rw [List.mem_range] at hi
    exact ⟨a + i, by omega, by omega, e⟩
  · rintro ⟨p, h1, h2, e⟩
    exact ⟨p - a, List.mem_range.2 (by omega), by rw [show a + (p - a) = p by omega]; exact e⟩
theorem seg_append (f : Ix) {a m b : Nat} (h1 : a ≤ m) (h2 : m ≤ b) : seg f a b = seg f a m ++ seg f m b := by
  unfold seg
  rw [show b - a = (m - a) + (b - m) by omega, List.range_add, List.map_append, List.map_map]
  congr 1
  apply List.map_congr_left
  intro i _
  show f (a + ((m - a) + i)) = f (m + i)
  congr 1; omega
theorem seg_congr {f g : Ix} {a b : Nat} (h : ∀ p, a ≤ p → p < b → f p = g p) : seg f a b = seg g a b := by
  unfold seg
  apply List.map_congr_left
  intro i hi
  rw [List.mem_range] at hi
  exact h _ (by omega) (by omega)
theorem seg_shift {f g : Ix} {a b a' : Nat} (h : ∀ p, a ≤ p → p < b → f p = g (p - a + a')) : seg f a b = seg g a' (a' + (b - a)) := by
  unfold seg
  rw [show a' + (b - a) - a' = b - a by omega]
  apply List.map_congr_left
  intro i hi
  rw [List.mem_range] at hi
  rw [h _ (by omega) (by omega)]
  congr 1; omega

theorem rot_seg1 (f : Ix) {a m b : Nat} (h1 : a ≤ m) (h2 : m ≤ b) : seg (rot f a m b) a (a + (b - m)) = seg f m b := by
  rw [seg_shift (g := f) (a' := m) (fun p g1 g2 => by
    unfold rot
    rw [if_pos ⟨g1, by omega⟩, if_pos g2]; congr 1; omega)]
  congr 1; omega
theorem rot_seg2 (f : Ix) {a m b : Nat} (h1 : a ≤ m) (h2 : m ≤ b) : seg (rot f a m b) (a + (b - m)) b = seg f a m := by
  rw [seg_shift (g := f) (a' := a) (fun p g1 g2 => by
    unfold rot
    rw [if_pos ⟨by omega, g2⟩, if_neg (by omega)]; congr 1; omega)]
  congr 1; omega
theorem rot_out (f : Ix) {a m b p : Nat} (h : p < a ∨ b ≤ p) : rot f a m b p = f p := by
  unfold rot; rw [if_neg (by omega)]

variable {R : Nat → Nat → Prop}

/-- the last of an ascending stretch -/
theorem asc_last {f : Ix} {a b : Nat} (h : (seg f a b).Pairwise R) (hab : a < b) : ∀ x ∈ seg f a b, x = f (b - 1) ∨ R x (f (b - 1)) := by
  intro x hx
  rw [seg_append f (a := a) (m := b - 1) (b := b) (by omega) (by omega)] at h hx
  have hs : seg f (b - 1) b = [f (b - 1)] := by
    unfold seg; rw [show b - (b - 1) = 1 by omega]; simp
  rw [hs] at h hx
  rcases List.mem_append.1 hx with g | g
  · exact .inr ((List.pairwise_append.1 h).2.2 x g _ (by simp))
  · exact .inl (by simpa using g)
theorem asc_first {f : Ix} {a b : Nat} (h : (seg f a b).Pairwise R) (hab : a < b) : ∀ x ∈ seg f a b, x = f a ∨ R (f a) x := by
  intro x hx
  rw [seg_append f (a := a) (m := a + 1) (b := b) (by omega) (by omega)] at h hx
  have hs : seg f a (a + 1) = [f a] := by
    unfold seg; rw [show a + 1 - a = 1 by omega]; simp
  rw [hs] at h hx
  rcases List.mem_append.1 hx with g | g
  · exact .inl (by simpa using g)
  · exact .inr ((List.pairwise_append.1 h).2.2 _ (by simp) x g)

/-- two ascending stretches, the last of the one before the first of the other -/
theorem asc_cross {f : Ix} {a b c d : Nat} (tr : ∀ x y z, R x y → R y z → R x z) (h1 : (seg f a b).Pairwise R) (h2 : (seg f c d).Pairwise R) (h : a < b → c < d → R (f (b - 1)) (f c)) :
    ∀ x ∈ seg f a b, ∀ y ∈ seg f c d, R x y := by
  intro x hx y hy
  obtain ⟨p, p1, p2, _⟩ := mem_seg.1 hx
  obtain ⟨q, q1, q2, _⟩ := mem_seg.1 hy
  have hr := h (by omega) (by omega)
  rcases asc_last h1 (by omega) x hx with rfl | g
  · rcases asc_first h2 (by omega) y hy with rfl | k
    · exact hr
    · exact tr _ _ _ hr k
  · rcases asc_first h2 (by omega) y hy with rfl | k
    · exact tr _ _ _ g hr
    · exact tr _ _ _ g (tr _ _ _ hr k)

/-- what a merge leaves -/
structure Merged (R : Nat → Nat → Prop) (f g : Ix) (a b : Nat) : Prop where
  out : ∀ p, p < a ∨ b ≤ p → g p = f p
  perm : (seg g a b).Perm (seg f a b)
  asc : (seg g a b).Pairwise R

/-- the step: behind the turn of [st, en) about m both halves are merges again, and joined they are the whole -/
theorem merge_step {f : Ix} {a m b mid st en : Nat} (tr : ∀ x y z, R x y → R y z → R x z) (h1 : (seg f a m).Pairwise R) (h2 : (seg f m b).Pairwise R) (tags : ∀ x ∈ seg f a m, ∀ y ∈ seg f m b, x < y)
    (e1 : a ≤ st) (e2 : st ≤ m) (e3 : m ≤ en) (e4 : en ≤ b) (e5 : st + en = mid + m) (hx : a < st → en < b → R (f (st - 1)) (f en)) (hy : m < en → st < m → R (f (en - 1)) (f st)) :
    ((seg (rot f st m en) a st).Pairwise R ∧ (seg (rot f st m en) st mid).Pairwise R ∧ ∀ x ∈ seg (rot f st m en) a st, ∀ y ∈ seg (rot f st m en) st mid, x < y) ∧
    ((seg (rot f st m en) mid en).Pairwise R ∧ (seg (rot f st m en) en b).Pairwise R ∧ ∀ x ∈ seg (rot f st m en) mid en, ∀ y ∈ seg (rot f st m en) en b, x < y) ∧
    ∀ g h : Ix, Merged R (rot f st m en) g a mid → Merged R g h mid b → Merged R f h a b := by
  have s1 : seg (rot f st m en) a st = seg f a st := seg_congr fun p _ g => rot_out f (.inl g)
  have s2 : seg (rot f st m en) st mid = seg f m en := by
    have := rot_seg1 f (a := st) (m := m) (b := en) e2 e3
    rwa [show st + (en - m) = mid by omega] at this
  have s3 : seg (rot f st m en) mid en = seg f st m := by
    have := rot_seg2 f (a := st) (m := m) (b := en) e2 e3
    rwa [show st + (en - m) = mid by omega] at this
  have s4 : seg (rot f st m en) en b = seg f en b := seg_congr fun p g _ => rot_out f (.inr g)
  have hA := seg_append f e1 e2
  have hB := seg_append f e3 e4
  have pA := h1
  have pB := h2
  rw [hA, List.pairwise_append] at pA
  rw [hB, List.pairwise_append] at pB
  have tg : ∀ x, x ∈ seg f a st ∨ x ∈ seg f st m → ∀ y, y ∈ seg f m en ∨ y ∈ seg f en b → x < y := fun x hx y hy =>
    tags x (by rw [hA]; exact List.mem_append.2 hx) y (by rw [hB]; exact List.mem_append.2 hy)
  rw [s1, s2, s3, s4]
  refine ⟨⟨pA.1, pB.1, fun x hx y hy => tg x (.inl hx) y (.inl hy)⟩, ⟨pA.2.1, pB.2.1, fun x hx y hy => tg x (.inr hx) y (.inr hy)⟩, fun g h hg hh => ?_⟩
  have cross : ∀ x, x ∈ seg f a st ∨ x ∈ seg f m en → ∀ y, y ∈ seg f st m ∨ y ∈ seg f en b → R x y := by
    intro x hx' y hy'
    rcases hx' with g1 | g1 <;> rcases hy' with g2 | g2
    · exact pA.2.2 x g1 y g2
    · exact asc_cross tr pA.1 pB.2.1 hx x g1 y g2
    · exact asc_cross tr pB.1 pA.2.1 hy x g1 y g2
    · exact pB.2.2 x g1 y g2
  have hmid1 : a ≤ mid := by omega
  have hmid2 : mid ≤ b := by omega
  have k1 : seg h a mid = seg g a mid := seg_congr fun p _ q => hh.out p (.inl q)
  have k2 : seg g mid b = seg (rot f st m en) mid b := seg_congr fun p q _ => hg.out p (.inr q)
  have m1 : seg (rot f st m en) a mid = seg f a st ++ seg f m en := by rw [seg_append _ e1 (show st ≤ mid by omega), s1, s2]
  have m2 : seg (rot f st m en) mid b = seg f st m ++ seg f en b := by rw [seg_append _ (show mid ≤ en by omega) e4, s3, s4]
  have q1 : (seg h a mid).Perm (seg f a st ++ seg f m en) := by rw [k1, ← m1]; exact hg.perm
  have q2 : (seg h mid b).Perm (seg f st m ++ seg f en b) := by rw [← m2, ← k2]; exact hh.perm
  refine ⟨fun p hp => ?_, ?_, ?_⟩
  · have r1 := hh.out p (by omega)
    have r2 := hg.out p (by omega)
    rw [r1, r2, rot_out f (by omega)]
  · rw [seg_append h hmid1 hmid2, seg_append f (show a ≤ m by omega) (show m ≤ b by omega), hA, hB]
    refine (q1.append q2).trans ?_
    rw [List.append_assoc, List.append_assoc]
    refine List.Perm.append_left _ ?_
    rw [← List.append_assoc, ← List.append_assoc]
    exact List.Perm.append_right _ List.perm_append_comm
  · rw [seg_append h hmid1 hmid2, List.pairwise_append]
    refine ⟨by rw [k1]; exact hg.asc, hh.asc, fun x hx' y hy' => cross x (List.mem_append.1 (q1.mem_iff.1 hx')) y (List.mem_append.1 (q2.mem_iff.1 hy'))⟩
end Go.Proofs.YtabeblbhbekjaaaGreatDoor.V
namespace Go.Proofs.YtabeblbhbekjaaaGreatDoor
open Go.RowKit

theorem Row.swap {w : World} {b m p q : Nat} {xs : Nat → V.Bs} (h : Row w b m xs) (hp : p < m) (hq : q < m) (hne : p ≠ q) :
    Row ((w.setCell ⟨b, p, none⟩ (.string ⟨(xs q).toArray⟩)).setCell ⟨b, q, none⟩ (.string ⟨(xs p).toArray⟩)) b m (fun i => if i = p then xs q else if i = q then xs p else xs i) := by
  have c1 := fun b2 o2 => cell_set w b p b2 o2 (.string ⟨(xs q).toArray⟩) ⟨_, h.cell p hp⟩
  have hc : ∃ v, (w.setCell ⟨b, p, none⟩ (.string ⟨(xs q).toArray⟩)).cell? ⟨b, q, none⟩ = some v := ⟨_, by rw [c1, if_neg (fun e => hne e.2.symm)]; exact h.cell q hq⟩
  have c2 := fun b2 o2 => cell_set (w.setCell ⟨b, p, none⟩ (.string ⟨(xs q).toArray⟩)) b q b2 o2 (.string ⟨(xs p).toArray⟩) hc
  refine ⟨fun i hi => ?_, fun i hi => by simp only [World.frozen?_setCell]; exact h.free i hi⟩
  rw [c2, c1]
  by_cases g1 : i = p
  · subst g1; rw [if_neg (fun e => hne e.2), if_pos ⟨rfl, rfl⟩, if_pos rfl]
  · by_cases g2 : i = q
    · subst g2; rw [if_pos ⟨rfl, rfl⟩, if_neg g1, if_pos rfl]
    · rw [if_neg (fun e => g2 e.2), if_neg (fun e => g1 e.2), if_neg g1, if_neg g2]; exact h.cell i hi

theorem MaxOk.swap {w : World} {b m p q : Nat} {xs : Nat → V.Bs} (hm : MaxOk w) (h : Row w b m xs) (hp : p < m) (hq : q < m) (hne : p ≠ q) :
    MaxOk ((w.setCell ⟨b, p, none⟩ (.string ⟨(xs q).toArray⟩)).setCell ⟨b, q, none⟩ (.string ⟨(xs p).toArray⟩)) := by
  have c1 := fun b2 o2 => cell_set w b p b2 o2 (.string ⟨(xs q).toArray⟩) ⟨_, h.cell p hp⟩
  have h0 : w.cell? ⟨b, 0, none⟩ = some (.string ⟨(xs 0).toArray⟩) := h.cell 0 (by omega)
  refine (hm.set h0 _).set (s := ⟨((if 0 = p then xs q else xs 0)).toArray⟩) ?_ _
  rw [c1]
  by_cases g : 0 = p
  · rw [if_pos ⟨rfl, g⟩, if_pos g]
  · rw [if_neg (fun e => g e.2), if_neg g]; exact h0

theorem Row.congr {w : World} {b m : Nat} {xs ys : Nat → V.Bs} (h : Row w b m xs) (e : ∀ i, i < m → ys i = xs i) : Row w b m ys :=
  ⟨fun j hj => by rw [e j hj]; exact h.cell j hj, h.free⟩

/-- a row that holds the strings LL in the order f, and what else is kept -/
structure At (LL : Nat → V.Bs) (b m : Nat) (w : World) (f : V.Ix) (wr : World) : Prop where
  row : Row wr b m fun p => LL (f p)
  grown : w.grownBy wr (some b)
  max : MaxOk wr
  lt : b < wr.heap.size

theorem At.below {LL : Nat → V.Bs} {b m : Nat} {w wr w' : World} {f : V.Ix} (h : At LL b m w f wr) (hb : Below wr.heap.size wr w') : At LL b m w f w' :=
  ⟨h.row.below h.lt hb, World.grownBy.trans h.grown (below_grown hb _), h.max.below hb, Nat.lt_of_lt_of_le h.lt hb.size⟩

theorem At.swap {LL : Nat → V.Bs} {b m p q : Nat} {w wr : World} {f : V.Ix} (h : At LL b m w f wr) (hp : p < m) (hq : q < m) (hne : p ≠ q) :
    At LL b m w (fun i => if i = p then f q else if i = q then f p else f i) ((wr.setCell ⟨b, p, none⟩ (.string ⟨(LL (f q)).toArray⟩)).setCell ⟨b, q, none⟩ (.string ⟨(LL (f p)).toArray⟩)) := by
  have hr : Row ((wr.setCell ⟨b, p, none⟩ (.string ⟨(LL (f q)).toArray⟩)).setCell ⟨b, q, none⟩ (.string ⟨(LL (f p)).toArray⟩)) b m (fun i => if i = p then LL (f q) else if i = q then LL (f p) else LL (f i)) :=
    Row.swap (xs := fun p => LL (f p)) h.row hp hq hne
  have hg1 : w.grownBy (wr.setCell ⟨b, p, none⟩ (.string ⟨(LL (f q)).toArray⟩)) (some b) := World.grownBy.trans h.grown (set_grown wr b p _)
  have hg2 : w.grownBy ((wr.setCell ⟨b, p, none⟩ (.string ⟨(LL (f q)).toArray⟩)).setCell ⟨b, q, none⟩ (.string ⟨(LL (f p)).toArray⟩)) (some b) := World.grownBy.trans hg1 (set_grown _ b q _)
  have hx : MaxOk ((wr.setCell ⟨b, p, none⟩ (.string ⟨(LL (f q)).toArray⟩)).setCell ⟨b, q, none⟩ (.string ⟨(LL (f p)).toArray⟩)) := MaxOk.swap (xs := fun p => LL (f p)) h.max h.row hp hq hne
  have hl : b < ((wr.setCell ⟨b, p, none⟩ (.string ⟨(LL (f q)).toArray⟩)).setCell ⟨b, q, none⟩ (.string ⟨(LL (f p)).toArray⟩)).heap.size := by
    have := h.lt
    simp only [World.setCell, Array.size_modify]
    exact this
  refine ⟨hr.congr (fun i _ => ?_), hg2, hx, hl⟩
  by_cases g1 : i = p
  · rw [if_pos g1, if_pos g1]
  · rw [if_neg g1, if_neg g1]
    by_cases g2 : i = q
    · rw [if_pos g2, if_pos g2]
    · rw [if_neg g2, if_neg g2]

theorem At.congr {LL : Nat → V.Bs} {b m : Nat} {w wr : World} {f g : V.Ix} (h : At LL b m w f wr) (e : ∀ i, i < m → g i = f i) : At LL b m w g wr :=
  ⟨h.row.congr (fun i hi => by rw [e i hi]), h.grown, h.max, h.lt⟩

/-- one more exchanged -/
theorem swr_next {f : V.Ix} {a c k n y0 y1 : Nat} (h0 : V.swr f a c k (a + k) = y0) (h1 : V.swr f a c k (c + k) = y1) (h : a + n ≤ c) (hk : k < n) (i : Nat) :
    V.swr f a c (k + 1) i = if i = a + k then y1 else if i = c + k then y0 else V.swr f a c k i := by
  subst h0 h1
  simp only [V.swr]
  repeat' split
  all_goals first | rfl | omega | (congr 1; omega)

set_option maxRecDepth 100000 in
set_option maxHeartbeats 3200000 in
theorem swapRange_any (LL : Nat → V.Bs) (f : V.Ix) (b m cap a c n : Nat) (cv : Value) (w w0 : World) (h : At LL b m w0 f w) (hm : m ≤ 1000) (h1 : a + n ≤ c) (h2 : c + n ≤ m) :
    Calls Tryz.prog 67 #[.slice (some ⟨b, 0, none⟩) m cap, .int .i64 a, .int .i64 c, .int .i64 n, cv] w fun e w' => e = .returned (.tuple #[]) ∧ At LL b m w0 (V.swr f a c n) w' := by
  have H := Lib.hid h
  clear h
  go_enter Tryz.func67, Tryz.ntmps67
  go_wp2
  go_loopw [10] (fun i wr => ∃ k : Nat, k ≤ n ∧ i = .int .i64 k ∧ At LL b m w0 (V.swr f a c k) wr) (fun i _ => n - (intOf i).toNat)
  case atStart => exact ⟨0, Nat.zero_le _, rfl, by rw [V.swr_zero]; exact H.out⟩
  case round =>
    obtain ⟨k, hk, rfl, hat⟩ := hrel
    have HA := Lib.hid hat
    clear hat
    by_cases hlt : k < n
    · have d0 := HA.out.row.cell (a + k) (by omega)
      have d1 := HA.out.row.cell (c + k) (by omega)
      have f0 := HA.out.row.free (a + k) (by omega)
      have f1 := HA.out.row.free (c + k) (by omega)
      have hb1 : b < wr.heap.size := HA.out.lt
      have HSW := Lib.hid ((HA.out.below (Below.refl _ wr).drew).swap (p := a + k) (q := c + k) (by omega) (by omega) (by omega))
      have hw1 : IntKind.i64.wrap ((a : Int) + (k : Int)) = (a : Int) + (k : Int) := IntWalk.i64_in _ (by omega)
      have hw2 : IntKind.i64.wrap ((c : Int) + (k : Int)) = (c : Int) + (k : Int) := IntWalk.i64_in _ (by omega)
      have hn1 : ((a : Int) + (k : Int)).toNat = a + k := by omega
      have hn2 : ((c : Int) + (k : Int)).toNat = c + k := by omega
      have hp1 : (0 : Int) ≤ (a : Int) + (k : Int) := by omega
      have hp2 : (0 : Int) ≤ (c : Int) + (k : Int) := by omega
      have hp3 : (a : Int) + (k : Int) < (m : Int) := by omega
      have hp4 : (c : Int) + (k : Int) < (m : Int) := by omega
      have hp5 : a + k < m := by omega
      have hp6 : c + k < m := by omega
      have hne : ¬ a + k = c + k := by omega
      have hne2 : ¬ c + k = a + k := by omega
      generalize hy0 : V.swr f a c k (a + k) = y0 at *
      generalize hy1 : V.swr f a c k (c + k) = y1 at *
      have HY0 := Lib.hid hy0
      have HY1 := Lib.hid hy1
      clear hy0 hy1
      go_wp2
      go_region
      clear d0 d1 f0 f1
      go_wp2
      go_roundw
      case rel => exact ⟨k + 1, by omega, by go_num, HSW.out.congr (fun i _ => swr_next HY0.out HY1.out h1 hlt i)⟩
      case measure => simp [intOf]; omega
    · obtain rfl : k = n := by omega
      go_wp2
      go_end0
      exact ⟨rfl, HA.out⟩

set_option maxRecDepth 100000 in
set_option maxHeartbeats 3200000 in
theorem rotate_any (LL : Nat → V.Bs) (f : V.Ix) (b m cap a c d : Nat) (cv : Value) (w w0 : World) (h : At LL b m w0 f w) (hm : m ≤ 1000) (h1 : a < c) (h2 : c < d) (h3 : d ≤ m) :
    Calls Tryz.prog 60 #[.slice (some ⟨b, 0, none⟩) m cap, .int .i64 a, .int .i64 c, .int .i64 d, cv] w fun e w' => e = .returned (.tuple #[]) ∧ At LL b m w0 (V.rot f a c d) w' := by
  have H := Lib.hid h
  clear h
  go_enter Tryz.func60, Tryz.ntmps60
  go_wp2
  go_loopw [10, 11] (fun i j wr => ∃ (p q : Nat) (g : V.Ix), 0 < p ∧ 0 < q ∧ p ≤ c - a ∧ q ≤ d - c ∧ i = .int .i64 p ∧ j = .int .i64 q ∧ At LL b m w0 g wr ∧ ∀ x, x < m → V.rot g (c - p) c (c + q) x = V.rot f a c d x) (fun i j _ => (intOf i).toNat + (intOf j).toNat)
  case atStart => exact ⟨c - a, d - c, f, by omega, by omega, Nat.le_refl _, Nat.le_refl _, by go_num, by go_num, H.out, fun x _ => by rw [show c - (c - a) = a by omega, show c + (d - c) = d by omega]⟩
  case round =>
    obtain ⟨p, q, g, hp0, hq0, hp, hq, rfl, rfl, hat, hrot⟩ := hrel
    have HA := Lib.hid hat
    have HR := Lib.hid hrot
    clear hat hrot
    rcases Nat.lt_trichotomy p q with hc | hc | hc
    · have hne : ((p : Int) != (q : Int)) = true := by rw [bne_iff_ne]; omega
      have hng : ¬ ((q : Int) < (p : Int)) := by omega
      go_wp2_with fail
      have e1 : ((c : Int) - (p : Int)) = ((c - p : Nat) : Int) := by omega
      have e2 : ((c : Int) + (q : Int) - (p : Int)) = ((c + q - p : Nat) : Int) := by omega
      rw [e1, e2]
      refine (swapRange_any LL g b m cap (c - p) (c + q - p) p _ _ w0 HA.out hm (by omega) (by omega)).mono ?_
      rintro e w1 ⟨rfl, h5⟩
      have H5 := Lib.hid h5
      clear h5
      go_wp2
      go_roundw
      case rel => exact ⟨p, q - p, V.swr g (c - p) (c + q - p) p, hp0, by omega, hp, by omega, rfl, by go_num, H5.out, fun x hx => by rw [V.rot_right g p q c hc (by omega)]; exact HR.out x hx⟩
      case measure => simp [intOf]; omega
    · have hne : ((p : Int) != (q : Int)) = false := by rw [bne_eq_false_iff_eq]; omega
      subst hc
      go_wp2_with fail
      have e1 : ((c : Int) - (p : Int)) = ((c - p : Nat) : Int) := by omega
      rw [e1]
      refine (swapRange_any LL g b m cap (c - p) c p _ _ w0 HA.out hm (by omega) (by omega)).mono ?_
      rintro e w1 ⟨rfl, h5⟩
      have H5 := Lib.hid h5
      clear h5
      go_wp2
      go_end0
      exact ⟨rfl, H5.out.congr (fun x hx => by rw [V.rot_same g p c (by omega)]; exact (HR.out x hx).symm)⟩
    · have hne : ((p : Int) != (q : Int)) = true := by rw [bne_iff_ne]; omega
      have hng : (q : Int) < (p : Int) := by omega
      go_wp2_with fail
      have e1 : ((c : Int) - (p : Int)) = ((c - p : Nat) : Int) := by omega
      rw [e1]
      refine (swapRange_any LL g b m cap (c - p) c q _ _ w0 HA.out hm (by omega) (by omega)).mono ?_
      rintro e w1 ⟨rfl, h5⟩
      have H5 := Lib.hid h5
      clear h5
      go_wp2
      go_roundw
      case rel => exact ⟨p - q, q, V.swr g (c - p) c q, by omega, hq0, by omega, hq, by go_num, rfl, H5.out, fun x hx => by
          have := V.rot_left g p q c hc (by omega)
          rw [show c - p + q = c - (p - q) by omega] at this
          rw [this]; exact HR.out x hx⟩
      case measure => simp [intOf]; omega
end Go.Proofs.YtabeblbhbekjaaaGreatDoor
