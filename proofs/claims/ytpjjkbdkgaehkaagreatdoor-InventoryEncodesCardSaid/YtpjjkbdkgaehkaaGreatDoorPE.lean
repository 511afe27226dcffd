/-
  Plain: documents: words, lines, their bytes; digests and numbers as texts.
-/
import Derived.Test.YtpjjkbdkgaehkaaGreatDoorP6
namespace Go.Proofs.YtpjjkbdkgaehkaaGreatDoor
open Go.RowKit

namespace V
/-- a byte that stands for itself -/
def plainB (c : UInt8) : Bool := decide (33 ≤ c.toNat) && (decide (c.toNat ≤ 125) && !decide (c.toNat = 37))
def digU : Bs := [48, 49, 50, 51, 52, 53, 54, 55, 56, 57, 65, 66, 67, 68, 69, 70]
def digL : Bs := [48, 49, 50, 51, 52, 53, 54, 55, 56, 57, 97, 98, 99, 100, 101, 102]
def encB (c : UInt8) : Bs := if plainB c = true then [c] else [37, digU.getD (c.toNat / 16) 0, digU.getD (c.toNat % 16) 0]
/-- a word's encoded form -/
def word (w : Bs) : Bs := if w.isEmpty then [126] else w.flatMap encB
def sizeC (c : UInt8) : Nat := if plainB c = true then 1 else 3
def sizeW (w : Bs) : Nat := max ((w.map sizeC).sum) 1
theorem encB_len (c : UInt8) : (encB c).length = sizeC c := by unfold encB sizeC; split <;> rfl
theorem sizeC_pos (c : UInt8) : 1 ≤ sizeC c := by unfold sizeC; split <;> omega
theorem sizeC_le (c : UInt8) : sizeC c ≤ 3 := by unfold sizeC; split <;> omega
theorem flat_enc : ∀ w : Bs, (w.flatMap encB).length = (w.map sizeC).sum
  | [] => rfl
  | c :: w => by rw [List.flatMap_cons, List.length_append, encB_len, flat_enc w, List.map_cons, List.sum_cons]
theorem sum_le (w : Bs) : (w.map sizeC).sum ≤ 3 * w.length := by
  induction w with
  | nil => simp
  | cons c w ih => rw [List.map_cons, List.sum_cons, List.length_cons]; have := sizeC_le c; omega
theorem le_sum (w : Bs) : w.length ≤ (w.map sizeC).sum := by
  induction w with
  | nil => simp
  | cons c w ih => rw [List.map_cons, List.sum_cons, List.length_cons]; have := sizeC_pos c; omega
theorem word_len (w : Bs) : (word w).length = sizeW w := by
  unfold word sizeW
  cases w with
  | nil => rfl
  | cons c r =>
    rw [List.isEmpty_cons, if_neg (by decide), flat_enc]
    have := le_sum (c :: r)
    rw [List.length_cons] at this
    omega
theorem sizeW_le (w : Bs) : sizeW w ≤ 3 * w.length + 1 := by
  unfold sizeW
  have := sum_le w
  omega
/-- the first k words of a line -/
def lineTo (l : List Bs) (k : Nat) : Bs := (List.range k).flatMap fun i => (if i = 0 then [] else [32]) ++ word (l.getD i [])
def line (l : List Bs) : Bs := lineTo l l.length ++ [10]
def docTo (ls : List (List Bs)) (k : Nat) : Bs := (ls.take k).flatMap line
def doc (ls : List (List Bs)) : Bs := ls.flatMap line
def lineSz (l : List Bs) (k : Nat) : Nat := ((l.take k).map fun w => sizeW w + 1).sum
def docSz (ls : List (List Bs)) (k : Nat) : Nat := ((ls.take k).map fun l => lineSz l l.length).sum
theorem lineTo_step (l : List Bs) (k : Nat) : lineTo l (k + 1) = lineTo l k ++ ((if k = 0 then [] else [32]) ++ word (l.getD k [])) := by
  unfold lineTo
  rw [List.range_succ, List.flatMap_append]
  simp
theorem lineSz_step {l : List Bs} {k : Nat} (h : k < l.length) : lineSz l (k + 1) = lineSz l k + (sizeW l[k] + 1) := by
  unfold lineSz
  rw [List.take_succ_eq_append_getElem h, List.map_append, List.sum_append]
  simp
theorem docTo_step {ls : List (List Bs)} {k : Nat} (h : k < ls.length) : docTo ls (k + 1) = docTo ls k ++ line ls[k] := by
  unfold docTo
  rw [List.take_succ_eq_append_getElem h, List.flatMap_append]
  simp
theorem docSz_step {ls : List (List Bs)} {k : Nat} (h : k < ls.length) : docSz ls (k + 1) = docSz ls k + lineSz ls[k] ls[k].length := by
  unfold docSz
  rw [List.take_succ_eq_append_getElem h, List.map_append, List.sum_append]
  simp
theorem docTo_all (ls : List (List Bs)) : docTo ls ls.length = doc ls := by unfold docTo doc; rw [List.take_length]
theorem lineTo_len {l : List Bs} : ∀ k, k ≤ l.length → (lineTo l k).length + 1 ≤ lineSz l k + 1 ∧ (0 < k → (lineTo l k).length + 1 = lineSz l k)
  | 0, _ => ⟨by simp [lineTo, lineSz], fun h => by omega⟩
  | k + 1, h => by
    have ih := lineTo_len (l := l) k (by omega)
    rw [lineTo_step, lineSz_step (by omega), List.length_append, List.length_append, word_len, List.getD_eq_getElem?_getD, List.getElem?_eq_getElem (by omega)]
    simp only [Option.getD_some]
    by_cases hk : k = 0
    · subst hk
      have : (lineTo l 0).length = 0 := rfl
      have h2 : lineSz l 0 = 0 := rfl
      simp
      omega
    · have := ih.2 (by omega)
      rw [if_neg hk, List.length_singleton]
      omega
theorem line_len {l : List Bs} (h : 0 < l.length) : (line l).length = lineSz l l.length := by
  unfold line
  rw [List.length_append, List.length_singleton]
  exact (lineTo_len l.length (Nat.le_refl _)).2 h
theorem lineSz_le {l : List Bs} {j k : Nat} (h : j ≤ k) (hk : k ≤ l.length) : lineSz l j ≤ lineSz l k := by
  induction k with
  | zero => obtain rfl : j = 0 := by omega
            exact Nat.le_refl _
  | succ k ih =>
    rcases Nat.lt_or_ge k j with hj | hj
    · obtain rfl : j = k + 1 := by omega
      exact Nat.le_refl _
    · rw [lineSz_step (by omega)]
      have := ih hj (by omega)
      omega
theorem docSz_le {ls : List (List Bs)} {j k : Nat} (h : j ≤ k) (hk : k ≤ ls.length) : docSz ls j ≤ docSz ls k := by
  induction k with
  | zero => obtain rfl : j = 0 := by omega
            exact Nat.le_refl _
  | succ k ih =>
    rcases Nat.lt_or_ge k j with hj | hj
    · obtain rfl : j = k + 1 := by omega
      exact Nat.le_refl _
    · rw [docSz_step (by omega)]
      have := ih hj (by omega)
      omega
theorem docTo_len {ls : List (List Bs)} (hw : ∀ l ∈ ls, 0 < l.length) : ∀ k, k ≤ ls.length → (docTo ls k).length = docSz ls k
  | 0, _ => rfl
  | k + 1, h => by
    rw [docTo_step (by omega), docSz_step (by omega), List.length_append, docTo_len hw k (by omega), line_len (hw _ (List.getElem_mem (by omega)))]
/-- a document within the limits -/
structure DocOk (ls : List (List Bs)) : Prop where
  lines : ls.length ≤ 1000
  line : ∀ l ∈ ls, 0 < l.length ∧ l.length ≤ 120 ∧ ∀ w ∈ l, w.length ≤ 32768
  size : docSz ls ls.length ≤ 262144
/-- a digest's text -/
def hexD (d : List Int) : Bs := d.flatMap fun n => [digL.getD (n.toNat / 16) 0, digL.getD (n.toNat % 16) 0]
def fmtD (d : List Int) : Bs := [115, 104, 97, 50, 53, 54, 58] ++ hexD d
end V
end Go.Proofs.YtpjjkbdkgaehkaaGreatDoor
