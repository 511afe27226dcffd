/-
  Plain Lean, no program: bytes, numbers, cuts at one byte.
  Plain: documents: words, lines, their bytes; digests and numbers as texts.
  Plain: bytes in hexadecimal digits, the text of a digest.
  Plain: bytes from hexadecimal digits; the digest of a text.
  Plain: words and documents decoded.
-/
import Derived.Lib.Split
import Derived.Lib.LastIndexLaws
import Derived.Lib.Small
import Derived.Lib.SlTrimSet
namespace Go.Proofs.YtnhfaincdabdkaaGreatDoor.V

abbrev Bs := List UInt8

def digB (n : Int) : Bool := decide (48 ≤ n) && decide (n ≤ 57)
def letB (n : Int) : Bool := (decide (97 ≤ n) && decide (n ≤ 122)) || (decide (65 ≤ n) && decide (n ≤ 90))
def dig (c : UInt8) : Bool := digB c.toNat
def lett (c : UInt8) : Bool := letB c.toNat
def only (p : UInt8 → Bool) (l : Bs) : Bool := l.all p && !l.isEmpty
def digits (l : Bs) : Bool := only dig l
def numb (l : Bs) (exact : Bool) : Bool := digits l && !(exact && decide (1 < l.length) && l.getD 0 0 == 48)
def value (l : Bs) : Bs := l.dropWhile (· == 48)
/-- the first that is not 0 -/
def cor (x y : Int) : Int := if x = 0 then y else x
def numbers (a b : Bs) : Int := cor (Lib.compareInt (value a).length (value b).length) (Lib.compareBytes (value a) (value b))
def identC (a b : Bs) : Int := if digits a && digits b then numbers a b else if digits a then -1 else if digits b then 1 else Lib.compareBytes a b
def nk (s : Bs) : Bs := UInt8.ofNat (value s).length :: value s

theorem all_take {s : Bs} {p : UInt8 → Bool} {k : Nat} (h : k < s.length) : (s.take (k + 1)).all p = ((s.take k).all p && p s[k]) := by
  rw [List.take_succ_eq_append_getElem h, List.all_append]; simp
theorem only_no {s : Bs} {p : UInt8 → Bool} {k : Nat} (h : k < s.length) (hp : p s[k] = false) : only p s = false := by
  unfold only
  rw [Bool.and_eq_false_iff]; left
  rw [List.all_eq_false]
  exact ⟨s[k], List.getElem_mem h, by simp [hp]⟩

/-- s cut at every c -/
def splitOn (c : UInt8) : Bs → List Bs
  | [] => [[]]
  | b :: l => if b == c then [] :: splitOn c l else match splitOn c l with
    | [] => [[b]]
    | x :: r => (b :: x) :: r

theorem splitOn_ne (c : UInt8) : ∀ l, splitOn c l ≠ []
  | [] => by simp [splitOn]
  | b :: l => by
    unfold splitOn
    split
    · simp
    · split <;> simp

/-- what stands before the first c, what stands behind it, and whether there is one -/
def cut1 (c : UInt8) (l : Bs) : Bs × Bs × Bool :=
  if c ∈ l then (l.takeWhile (· != c), l.drop ((l.takeWhile (· != c)).length + 1), true) else (l, [], false)

theorem index_one (l : Bs) (c : UInt8) : Lib.index l [c] = if c ∈ l then ((l.takeWhile (· != c)).length : Int) else -1 := by
  induction l with
  | nil => simp [Lib.index]
  | cons b l ih =>
    unfold Lib.index
    by_cases h : b = c
    · subst h; simp [List.isPrefixOf]
    · have h1 : ([c] : Bs).isPrefixOf (b :: l) = false := by simp [List.isPrefixOf]; exact fun e => h e.symm
      rw [h1, ih]
      have h3 : (b != c) = true := by simpa using h
      have h5 : ¬ c = b := fun e => h e.symm
      by_cases hc : c ∈ l
      · simp only [hc, if_true, List.mem_cons, or_true, List.takeWhile_cons, h3, List.length_cons]
        have : ((((l.takeWhile (· != c)).length : Nat) : Int) == -1) = false := by rw [beq_eq_false_iff_ne]; omega
        simp [this]
      · simp [hc, h5]

theorem take_tw (l : Bs) (p : UInt8 → Bool) : l.take (l.takeWhile p).length = l.takeWhile p := by
  induction l with
  | nil => rfl
  | cons b l ih => by_cases hb : p b = true <;> simp [hb, ih]

theorem cut_one (l : Bs) (c : UInt8) : Lib.cut l [c] = cut1 c l := by
  unfold Lib.cut cut1
  rw [index_one]
  by_cases h : c ∈ l
  · simp only [h, if_true]
    rw [if_pos (by omega)]
    simp only [Int.toNat_natCast, take_tw, List.length_singleton]
  · simp only [h, if_false]
    rw [if_neg (by decide)]

theorem count_none {l : Bs} {c : UInt8} (h : c ∉ l) : Lib.count l [c] = 0 := Lib.count_miss (by rw [index_one, if_neg h])
theorem splitOn_none {c : UInt8} : ∀ {l : Bs}, c ∉ l → splitOn c l = [l]
  | [], _ => rfl
  | b :: l, h => by
    rw [List.mem_cons, not_or] at h
    have h1 : (b == c) = false := by simpa using fun e => h.1 e.symm
    simp [splitOn, h1, splitOn_none h.2]

theorem splitOn_some {c : UInt8} : ∀ {l : Bs}, c ∈ l → splitOn c l = l.takeWhile (· != c) :: splitOn c (l.drop ((l.takeWhile (· != c)).length + 1))
  | [], h => by simp at h
  | b :: l, h => by
    by_cases hb : b = c
    · subst hb; simp [splitOn]
    · have h3 : (b != c) = true := by simpa using hb
      have h4 : (b == c) = false := by simpa using hb
      have h2 : c ∈ l := by
        rw [List.mem_cons] at h
        rcases h with h | h
        · exact absurd h.symm hb
        · exact h
      rw [splitOn, h4, splitOn_some h2]
      simp [h3]

theorem tw_lt {l : Bs} {c : UInt8} (h : c ∈ l) : (l.takeWhile (· != c)).length < l.length := by
  induction l with
  | nil => simp at h
  | cons b l ih =>
    by_cases hb : (b != c) = true
    · have h2 : c ∈ l := by
        rw [List.mem_cons] at h
        rcases h with h | h
        · subst h; simp at hb
        · exact h
      simpa [List.takeWhile_cons, hb] using ih h2
    · simp [hb]

theorem split_one (c : UInt8) : ∀ (n : Nat) (l : Bs), l.length ≤ n → Lib.split l [c] = splitOn c l
  | n, l, hn => by
    unfold Lib.split
    by_cases h : c ∈ l
    · have hi : Lib.index l [c] = ((l.takeWhile (· != c)).length : Nat) := by rw [index_one, if_pos h]
      rw [Lib.count_hit (by simp) hi, Nat.add_comm, splitOn_some h]
      unfold Lib.splitK
      have hne : ¬ (Lib.index l [c] == -1) = true := by
        rw [hi, beq_iff_eq]; omega
      rw [if_neg hne, hi]
      have hlen := tw_lt h
      simp only [Int.toNat_natCast, List.length_singleton, Nat.add_zero, take_tw]
      congr 1
      cases n with
      | zero => omega
      | succ n => exact split_one c n _ (by rw [List.length_drop]; omega)
    · rw [count_none h, splitOn_none h]; rfl


theorem indexByte_mem (l : Bs) (c : UInt8) : decide (0 ≤ Lib.indexByte l c) = decide (c ∈ l) := by
  induction l with
  | nil => simp [Lib.indexByte]
  | cons b l ih =>
    have ih' : (0 ≤ Lib.indexByte l c) ↔ c ∈ l := by simpa using ih
    have hge := Lib.indexByte_ge l c
    unfold Lib.indexByte
    by_cases h : b = c
    · subst h; simp
    · have h1 : (b == c) = false := by simpa using h
      have h5 : ¬ c = b := fun e => h e.symm
      rw [h1]
      by_cases hm : Lib.indexByte l c = -1
      · have : c ∉ l := fun e => by have := ih'.2 e; omega
        simp [hm, this, h5]
      · have hc : c ∈ l := ih'.1 (by omega)
        simp [hm, hc]; omega

/-- letters, digits and other bytes -/
def kind (other : Bs) (c : UInt8) : Bool := lett c || dig c || decide (c ∈ other)

theorem value_zero {l : Bs} (h : l.getD 0 0 = 48) (h0 : 0 < l.length) : value l = value (l.drop 1) := by
  cases l with
  | nil => simp at h0
  | cons b l =>
    have : b = 48 := h
    subst this
    simp [value]
theorem value_other {l : Bs} (h : l.getD 0 0 ≠ 48) : value l = l := by
  cases l with
  | nil => rfl
  | cons b l =>
    have : (b == 48) = false := by simpa using h
    simp [value, this]

/-- -1, 0 or 1 -/
def sgn (n : Int) : Int := if n < 0 then -1 else if 0 < n then 1 else 0

/-- the first of some numbers that is not 0 -/
def orI : List Int → Int
  | [] => 0
  | x :: l => cor x (orI l)

theorem orI_skip : ∀ (xs : List Int) (k : Nat), (∀ j, j < k → xs.getD j 0 = 0) → orI xs = orI (xs.drop k)
  | _, 0, _ => rfl
  | [], k + 1, _ => by simp
  | x :: l, k + 1, h => by
    have h0 : x = 0 := h 0 (by omega)
    rw [List.drop_succ_cons, ← orI_skip l k (fun j hj => h (j + 1) (by omega))]
    subst h0; rfl

end Go.Proofs.YtnhfaincdabdkaaGreatDoor.V
namespace Go.Proofs.YtnhfaincdabdkaaGreatDoor
open Go.RowKit

namespace V
/-- a byte that stands for itself -/
def plainB (c : UInt8) : Bool := decide (33 ≤ c.toNat) && (decide (c.toNat ≤ 125) && !decide (c.toNat = 37))
def digU : Bs := [48, 49, 50, 51, 52, 53, 54, 55, 56, 57, 65, 66, 67, 68, 69, 70]
def digL : Bs := [48, 49, 50, 51, 52, 53, 54, 55, 56, 57, 97, 98, 99, 100, 101, 102]
def encB (c : UInt8) : Bs := if plainB c = true then [c] else [37, digU.getD (c.toNat / 16) 0, digU.getD (c.toNat % 16) 0]
/-- a word's encoded form -/
def word (w : Bs) : Bs := if w.isEmpty then [126] else w.flatMap encB
def sizeC (c : UInt8) : Nat := if plainB c = true then 1 else 3
def sizeW (w : Bs) : Nat := max ((w.map sizeC).sum) 1
theorem encB_len (c : UInt8) : (encB c).length = sizeC c := by unfold encB sizeC; split <;> rfl
theorem sizeC_pos (c : UInt8) : 1 ≤ sizeC c := by unfold sizeC; split <;> omega
theorem sizeC_le (c : UInt8) : sizeC c ≤ 3 := by unfold sizeC; split <;> omega
theorem flat_enc : ∀ w : Bs, (w.flatMap encB).length = (w.map sizeC).sum
  | [] => rfl
  | c :: w => by rw [List.flatMap_cons, List.length_append, encB_len, flat_enc w, List.map_cons, List.sum_cons]
theorem sum_le (w : Bs) : (w.map sizeC).sum ≤ 3 * w.length := by
  induction w with
  | nil => simp
  | cons c w ih => rw [List.map_cons, List.sum_cons, List.length_cons]; have := sizeC_le c; omega
theorem le_sum (w : Bs) : w.length ≤ (w.map sizeC).sum := by
  induction w with
  | nil => simp
  | cons c w ih => rw [List.map_cons, List.sum_cons, List.length_cons]; have := sizeC_pos c; omega
theorem word_len (w : Bs) : (word w).length = sizeW w := by
  unfold word sizeW
  cases w with
  | nil => rfl
  | cons c r =>
    rw [List.isEmpty_cons, if_neg (by decide), flat_enc]
    have := le_sum (c :: r)
    rw [List.length_cons] at this
    omega
theorem sizeW_le (w : Bs) : sizeW w ≤ 3 * w.length + 1 := by
  unfold sizeW
  have := sum_le w
  omega
/-- the first k words of a line -/
def lineTo (l : List Bs) (k : Nat) : Bs := (List.range k).flatMap fun i => (if i = 0 then [] else [32]) ++ word (l.getD i [])
def line (l : List Bs) : Bs := lineTo l l.length ++ [10]
def docTo (ls : List (List Bs)) (k : Nat) : Bs := (ls.take k).flatMap line
def doc (ls : List (List Bs)) : Bs := ls.flatMap line
def lineSz (l : List Bs) (k : Nat) : Nat := ((l.take k).map fun w => sizeW w + 1).sum
def docSz (ls : List (List Bs)) (k : Nat) : Nat := ((ls.take k).map fun l => lineSz l l.length).sum
theorem lineTo_step (l : List Bs) (k : Nat) : lineTo l (k + 1) = lineTo l k ++ ((if k = 0 then [] else [32]) ++ word (l.getD k [])) := by
  unfold lineTo
  rw [List.range_succ, List.flatMap_append]
  simp
theorem lineSz_step {l : List Bs} {k : Nat} (h : k < l.length) : lineSz l (k + 1) = lineSz l k + (sizeW l[k] + 1) := by
  unfold lineSz
  rw [List.take_succ_eq_append_getElem h, List.map_append, List.sum_append]
  simp
theorem docTo_step {ls : List (List Bs)} {k : Nat} (h : k < ls.length) : docTo ls (k + 1) = docTo ls k ++ line ls[k] := by
  unfold docTo
  rw [List.take_succ_eq_append_getElem h, List.flatMap_append]
  simp
theorem docSz_step {ls : List (List Bs)} {k : Nat} (h : k < ls.length) : docSz ls (k + 1) = docSz ls k + lineSz ls[k] ls[k].length := by
  unfold docSz
  rw [List.take_succ_eq_append_getElem h, List.map_append, List.sum_append]
  simp
theorem docTo_all (ls : List (List Bs)) : docTo ls ls.length = doc ls := by unfold docTo doc; rw [List.take_length]
theorem lineTo_len {l : List Bs} : ∀ k, k ≤ l.length → (lineTo l k).length + 1 ≤ lineSz l k + 1 ∧ (0 < k → (lineTo l k).length + 1 = lineSz l k)
  | 0, _ => ⟨by simp [lineTo, lineSz], fun h => by omega⟩
  | k + 1, h => by
    have ih := lineTo_len (l := l) k (by omega)
    rw [lineTo_step, lineSz_step (by omega), List.length_append, List.length_append, word_len, List.getD_eq_getElem?_getD, List.getElem?_eq_getElem (by omega)]
    simp only [Option.getD_some]
    by_cases hk : k = 0
    · subst hk
      have : (lineTo l 0).length = 0 := rfl
      have h2 : lineSz l 0 = 0 := rfl
      simp
      omega
    · have := ih.2 (by omega)
      rw [if_neg hk, List.length_singleton]
      omega
theorem line_len {l : List Bs} (h : 0 < l.length) : (line l).length = lineSz l l.length := by
  unfold line
  rw [List.length_append, List.length_singleton]
  exact (lineTo_len l.length (Nat.le_refl _)).2 h
theorem lineSz_le {l : List Bs} {j k : Nat} (h : j ≤ k) (hk : k ≤ l.length) : lineSz l j ≤ lineSz l k := by
  induction k with
  | zero => obtain rfl : j = 0 := by omega
            exact Nat.le_refl _
  | succ k ih =>
    rcases Nat.lt_or_ge k j with hj | hj
    · obtain rfl : j = k + 1 := by omega
      exact Nat.le_refl _
    · rw [lineSz_step (by omega)]
      have := ih hj (by omega)
      omega
theorem docSz_le {ls : List (List Bs)} {j k : Nat} (h : j ≤ k) (hk : k ≤ ls.length) : docSz ls j ≤ docSz ls k := by
  induction k with
  | zero => obtain rfl : j = 0 := by omega
            exact Nat.le_refl _
  | succ k ih =>
    rcases Nat.lt_or_ge k j with hj | hj
    · obtain rfl : j = k + 1 := by omega
      exact Nat.le_refl _
    · rw [docSz_step (by omega)]
      have := ih hj (by omega)
      omega
theorem docTo_len {ls : List (List Bs)} (hw : ∀ l ∈ ls, 0 < l.length) : ∀ k, k ≤ ls.length → (docTo ls k).length = docSz ls k
  | 0, _ => rfl
  | k + 1, h => by
    rw [docTo_step (by omega), docSz_step (by omega), List.length_append, docTo_len hw k (by omega), line_len (hw _ (List.getElem_mem (by omega)))]
/-- a document within the limits -/
structure DocOk (ls : List (List Bs)) : Prop where
  lines : ls.length ≤ 1000
  line : ∀ l ∈ ls, 0 < l.length ∧ l.length ≤ 120 ∧ ∀ w ∈ l, w.length ≤ 32768
  size : docSz ls ls.length ≤ 262144
/-- a digest's text -/
def hexD (d : List Int) : Bs := d.flatMap fun n => [digL.getD (n.toNat / 16) 0, digL.getD (n.toNat % 16) 0]
def fmtD (d : List Int) : Bs := [115, 104, 97, 50, 53, 54, 58] ++ hexD d
end V
end Go.Proofs.YtnhfaincdabdkaaGreatDoor
namespace Go.Proofs.YtnhfaincdabdkaaGreatDoor
open Go.RowKit

namespace V
def hexC (c : UInt8) : Bs := [digL.getD (c.toNat / 16) 0, digL.getD (c.toNat % 16) 0]
def hexB (d : Bs) : Bs := d.flatMap hexC
def fmtB (d : Bs) : Bs := [115, 104, 97, 50, 53, 54, 58] ++ hexB d
theorem hexB_len (d : Bs) : (hexB d).length = 2 * d.length := by
  unfold hexB
  induction d with
  | nil => rfl
  | cons c d ih => rw [List.flatMap_cons, List.length_append, ih, List.length_cons]; unfold hexC; simp; omega
theorem hexB_step {l : Bs} {k : Nat} (h : k < l.length) : hexB (l.take (k + 1)) = hexB (l.take k) ++ hexC l[k] := by
  unfold hexB
  rw [List.take_succ_eq_append_getElem h, List.flatMap_append]
  simp
theorem hexB_to (l : Bs) (k : Nat) : (hexB (l.take k)).length ≤ 2 * l.length := by
  rw [hexB_len, List.length_take]
  omega
end V
theorem digL_at {n : Nat} (h : n < 16) : (ByteArray.mk #[48, 49, 50, 51, 52, 53, 54, 55, 56, 57, 97, 98, 99, 100, 101, 102]).data.toList[n]? = some (V.digL.getD n 0) := by
  have : ∀ m : Fin 16, (ByteArray.mk #[48, 49, 50, 51, 52, 53, 54, 55, 56, 57, 97, 98, 99, 100, 101, 102]).data.toList[m.val]? = some (V.digL.getD m.val 0) := by decide +kernel
  exact this ⟨n, h⟩
end Go.Proofs.YtnhfaincdabdkaaGreatDoor
namespace Go.Proofs.YtnhfaincdabdkaaGreatDoor
open Go.RowKit

namespace V
def hexL (c : UInt8) : Option Nat := if 48 ≤ c.toNat ∧ c.toNat ≤ 57 then some (c.toNat - 48) else if 97 ≤ c.toNat ∧ c.toNat ≤ 102 then some (c.toNat - 87) else none
def unhx : Bs → Option Bs
  | [] => some []
  | [_] => none
  | a :: b :: r => match hexL a, hexL b with
    | some x, some y => (unhx r).map (UInt8.ofNat (16 * x + y) :: ·)
    | _, _ => none
theorem hexL_lt {c : UInt8} {x : Nat} (h : hexL c = some x) : x < 16 := by
  unfold hexL at h
  split at h
  · cases h; omega
  · split at h
    · cases h; omega
    · cases h
theorem unhx_at {s out : Bs} {i : Nat} (h : unhx s = (unhx (s.drop (2 * i))).map (out ++ ·)) (h2 : 2 * i + 1 < s.length) :
    ((hexL (s[2 * i]'(by omega)) = none ∨ hexL s[2 * i + 1] = none) → unhx s = none) ∧
    (∀ x y, hexL (s[2 * i]'(by omega)) = some x → hexL s[2 * i + 1] = some y → unhx s = (unhx (s.drop (2 * (i + 1)))).map ((out ++ [UInt8.ofNat (16 * x + y)]) ++ ·)) := by
  have e1 := List.drop_eq_getElem_cons (show 2 * i < s.length by omega)
  have e2 := List.drop_eq_getElem_cons h2
  rw [e1, e2] at h
  refine ⟨fun hb => ?_, fun x y hx hy => ?_⟩
  · rw [h]
    rcases hb with hb | hb
    · simp [unhx, hb]
    · cases ha : hexL (s[2 * i]'(by omega)) <;> simp [unhx, hb, ha]
  · rw [h]
    have e3 : 2 * (i + 1) = 2 * i + 1 + 1 := by omega
    rw [e3]
    simp only [unhx, hx, hy]
    cases unhx (s.drop (2 * i + 1 + 1)) <;> simp
theorem unhx_len : ∀ (k : Nat) {s d : Bs}, s.length ≤ k → unhx s = some d → 2 * d.length = s.length
  | _, [], d, _, h => by cases h; rfl
  | _, [_], d, _, h => by cases h
  | 0, _ :: _ :: _, d, hk, _ => by simp at hk
  | k + 1, a :: b :: r, d, hk, h => by
    simp only [List.length_cons] at hk
    rw [unhx] at h
    cases ha : hexL a with
    | none => rw [ha] at h; cases h
    | some x =>
      cases hb : hexL b with
      | none => rw [ha, hb] at h; cases h
      | some y =>
        rw [ha, hb] at h
        simp only at h
        cases hr : unhx r with
        | none => rw [hr] at h; cases h
        | some d' =>
          rw [hr] at h
          cases h
          have := unhx_len k (by omega) hr
          simp only [List.length_cons]
          omega
def pre256 : Bs := [115, 104, 97, 50, 53, 54, 58]
/-- the bytes of 64 digits -/
def unx (s : Bs) : Option Bs := if s.length = 64 then unhx s else none
def parD (s : Bs) : Option Bs := if s.length = 71 ∧ s.take 7 = pre256 then unhx (s.drop 7) else none
theorem unx_len {s d : Bs} (h : unx s = some d) : d.length = 32 := by
  unfold unx at h
  split at h
  · rename_i e
    have := unhx_len _ (Nat.le_refl _) h
    omega
  · cases h
theorem hexL_dig : ∀ n : Fin 16, hexL (digL.getD n.val 0) = some n.val := by decide +kernel
theorem unhx_hex : ∀ d : Bs, unhx (hexB d) = some d
  | [] => rfl
  | c :: d => by
    have h1 := hexL_dig ⟨c.toNat / 16, by have := c.toNat_lt; omega⟩
    have h2 := hexL_dig ⟨c.toNat % 16, by omega⟩
    unfold hexB
    rw [List.flatMap_cons]
    unfold hexC
    simp only [List.cons_append, List.nil_append]
    rw [unhx]
    simp only at h1 h2
    rw [h1, h2]
    have ih := unhx_hex d
    unfold hexB hexC at ih
    simp only [ih, Option.map_some]
    have e : 16 * (c.toNat / 16) + c.toNat % 16 = c.toNat := by omega
    rw [e]
    simp
theorem parD_fmt {d : Bs} (h : d.length = 32) : parD (fmtB d) = some d := by
  have hl : (fmtB d).length = 71 := by
    unfold fmtB
    rw [List.length_append, hexB_len, h]
    rfl
  have ht : (fmtB d).take 7 = pre256 := rfl
  have hd : (fmtB d).drop 7 = hexB d := rfl
  unfold parD
  rw [if_pos ⟨hl, ht⟩, hd, unhx_hex]
end V
/-- the cells of a digest of which the first bytes are set -/
def cells32 (out : V.Bs) : Array Value := (out.map (fun b => Value.int .u8 b.toNat) ++ List.replicate (32 - out.length) (Value.int .u8 0)).toArray
theorem cells32_size {out : V.Bs} (h : out.length ≤ 32) : (cells32 out).size = 32 := by simp [cells32]; omega
theorem cells32_set {out : V.Bs} (h : out.length < 32) (v : UInt8) : (cells32 out).setIfInBounds out.length (.int .u8 v.toNat) = cells32 (out ++ [v]) := by
  unfold cells32
  apply Array.ext'
  rw [Array.toList_setIfInBounds]
  simp only [List.length_append, List.length_singleton, List.map_append, List.map_cons, List.map_nil]
  obtain ⟨m, hm⟩ : ∃ m, 32 - out.length = m + 1 := ⟨32 - out.length - 1, by omega⟩
  rw [hm, show 32 - (out.length + 1) = m by omega, List.replicate_succ, List.set_append_right _ _ (by simp)]
  simp
theorem cells32_full {d : V.Bs} (h : d.length = 32) : cells32 d = (d.map (fun b => Value.int .u8 b.toNat)).toArray := by
  unfold cells32
  rw [h]
  simp
end Go.Proofs.YtnhfaincdabdkaaGreatDoor
namespace Go.Proofs.YtnhfaincdabdkaaGreatDoor
open Go.RowKit

namespace V
/-- the value of an upper-case hexadecimal digit -/
def hexV (c : UInt8) : Option Nat := if 48 ≤ c.toNat ∧ c.toNat ≤ 57 then some (c.toNat - 48) else if 65 ≤ c.toNat ∧ c.toNat ≤ 70 then some (c.toNat - 55) else none
def unwGo : Bs → Option Bs
  | [] => some []
  | c :: r => if plainB c = true then (unwGo r).map (c :: ·) else if c = 37 then
      match r with
      | a :: b :: r' => match hexV a, hexV b with
        | some x, some y => if plainB (UInt8.ofNat (16 * x + y)) = true then none else (unwGo r').map (UInt8.ofNat (16 * x + y) :: ·)
        | _, _ => none
      | _ => none
    else none
/-- the word that has an encoded form -/
def unwR (s : Bs) : Option Bs := if s = [126] then some [] else match unwGo s with | some w => if w = [] then none else some w | none => none
def escB : Bs → Option Bs
  | a :: b :: r' => match hexV a, hexV b with
    | some x, some y => if plainB (UInt8.ofNat (16 * x + y)) = true then none else (unwGo r').map (UInt8.ofNat (16 * x + y) :: ·)
    | _, _ => none
  | _ => none
theorem unwGo_cons (c : UInt8) (r : Bs) : unwGo (c :: r) = if plainB c = true then (unwGo r).map (c :: ·) else if c = 37 then escB r else none := by
  match r with
  | [] => rfl
  | [_] => rfl
  | _ :: _ :: _ => rfl
theorem unwGo_plain {c : UInt8} {r : Bs} (h : plainB c = true) : unwGo (c :: r) = (unwGo r).map (c :: ·) := by rw [unwGo_cons, if_pos h]
theorem unwGo_not {c : UInt8} {r : Bs} (h : plainB c = false) (hc : c ≠ 37) : unwGo (c :: r) = none := by
  rw [unwGo_cons, if_neg (by rw [h]; decide), if_neg hc]
theorem unwGo_e (r : Bs) : unwGo (37 :: r) = escB r := by rw [unwGo_cons, if_neg (by decide), if_pos rfl]
theorem unwGo_short {r : Bs} (h : r.length < 2) : unwGo (37 :: r) = none := by
  rw [unwGo_e]
  match r, h with
  | [], _ => rfl
  | [_], _ => rfl
theorem unwGo_bad {a b : UInt8} {r : Bs} (h : hexV a = none ∨ hexV b = none) : unwGo (37 :: a :: b :: r) = none := by
  rw [unwGo_e, escB]
  rcases h with h | h
  · simp [h]
  · cases ha : hexV a <;> simp [h]
theorem unwGo_esc {a b : UInt8} {r : Bs} {x y : Nat} (ha : hexV a = some x) (hb : hexV b = some y) : unwGo (37 :: a :: b :: r) = if plainB (UInt8.ofNat (16 * x + y)) = true then none else (unwGo r).map (UInt8.ofNat (16 * x + y) :: ·) := by
  rw [unwGo_e, escB]
  simp [ha, hb]
theorem hexV_lt {c : UInt8} {x : Nat} (h : hexV c = some x) : x < 16 := by
  unfold hexV at h
  split at h
  · cases h; omega
  · split at h
    · cases h; omega
    · cases h
theorem hexV_dig : ∀ n : Fin 256, (match hexV (UInt8.ofNat n.val) with | some x => decide (digU.getD x 0 = UInt8.ofNat n.val) | none => true) = true := by decide +kernel
theorem hexV_digU {c : UInt8} {x : Nat} (h : hexV c = some x) : digU.getD x 0 = c := by
  have := hexV_dig ⟨c.toNat, c.toNat_lt⟩
  simp only [UInt8.ofNat_toNat, h, decide_eq_true_eq] at this
  exact this
theorem enc_esc {a b : UInt8} {x y : Nat} (ha : hexV a = some x) (hb : hexV b = some y) (hp : plainB (UInt8.ofNat (16 * x + y)) = false) : encB (UInt8.ofNat (16 * x + y)) = [37, a, b] := by
  have hx := hexV_lt ha
  have hy := hexV_lt hb
  unfold encB
  have e : (UInt8.ofNat (16 * x + y)).toNat = 16 * x + y := by simp; omega
  rw [hp, if_neg (by decide), e, show (16 * x + y) / 16 = x by omega, show (16 * x + y) % 16 = y by omega, hexV_digU ha, hexV_digU hb]
/-- an encoded word is encoded again as it was -/
theorem unwGo_enc : ∀ (k : Nat) (s w : Bs), s.length ≤ k → unwGo s = some w → w.flatMap encB = s
  | _, [], w, _, h => by rw [unwGo] at h; cases h; rfl
  | 0, c :: r, w, hk, _ => by simp at hk
  | k + 1, c :: r, w, hk, h => by
    rw [List.length_cons] at hk
    rcases hp : plainB c with _ | _
    · by_cases hc : c = 37
      · subst hc
        match r, h with
        | [], h => rw [unwGo_short (by simp)] at h; cases h
        | [_], h => rw [unwGo_short (by simp)] at h; cases h
        | a :: b :: r', h =>
          cases ha : hexV a with
          | none => rw [unwGo_bad (.inl ha)] at h; cases h
          | some x =>
            cases hb : hexV b with
            | none => rw [unwGo_bad (.inr hb)] at h; cases h
            | some y =>
              rw [unwGo_esc ha hb] at h
              split at h
              · cases h
              · rename_i hq
                have hq : plainB (UInt8.ofNat (16 * x + y)) = false := by simpa using hq
                cases hr : unwGo r' with
                | none => rw [hr] at h; cases h
                | some w' =>
                  rw [hr] at h
                  simp only [Option.map_some, Option.some.injEq] at h
                  subst h
                  simp only [List.length_cons] at hk
                  rw [List.flatMap_cons, unwGo_enc k r' w' (by omega) hr, enc_esc ha hb hq]
                  rfl
      · rw [unwGo_not hp hc] at h; cases h
    · rw [unwGo_plain hp] at h
      cases hr : unwGo r with
      | none => rw [hr] at h; cases h
      | some w' =>
        rw [hr] at h
        simp only [Option.map_some, Option.some.injEq] at h
        subst h
        rw [List.flatMap_cons, unwGo_enc k r w' (by omega) hr]
        unfold encB
        rw [if_pos hp]
        rfl
theorem unwR_word {s w : Bs} (h : unwR s = some w) : word w = s := by
  unfold unwR at h
  split at h
  · rename_i e
    cases h
    rw [e]; rfl
  · cases hq : unwGo s with
    | none => rw [hq] at h; cases h
    | some v =>
      rw [hq] at h
      simp only at h
      split at h
      · cases h
      · rename_i hv
        cases h
        unfold word
        rw [if_neg (by simpa using hv)]
        exact unwGo_enc _ s _ (Nat.le_refl _) hq
/-- the loop of both: what is read up to the k-th byte -/
theorem unw_at {s : Bs} {k : Nat} {out : Bs} (h : unwGo s = (unwGo (s.drop k)).map (out ++ ·)) (hk : k < s.length) :
    (plainB s[k] = true → unwGo s = (unwGo (s.drop (k + 1))).map ((out ++ [s[k]]) ++ ·)) ∧
    (plainB s[k] = false → s[k] ≠ 37 → unwGo s = none) ∧
    (s[k] = 37 → s.length < k + 3 → unwGo s = none) ∧
    (∀ h3 : k + 2 < s.length, s[k] = 37 → (hexV s[k + 1] = none ∨ hexV s[k + 2] = none) → unwGo s = none) ∧
    (∀ (h3 : k + 2 < s.length) x y, s[k] = 37 → hexV s[k + 1] = some x → hexV s[k + 2] = some y → (plainB (UInt8.ofNat (16 * x + y)) = true → unwGo s = none) ∧ (plainB (UInt8.ofNat (16 * x + y)) = false → unwGo s = (unwGo (s.drop (k + 3))).map ((out ++ [UInt8.ofNat (16 * x + y)]) ++ ·))) := by
  have hd := List.drop_eq_getElem_cons hk
  refine ⟨fun hp => ?_, fun hp hc => ?_, fun hc hl => ?_, fun h3 hc hb => ?_, fun h3 x y hc hx hy => ?_⟩
  · rw [h, hd, unwGo_plain hp]
    cases unwGo (s.drop (k + 1)) <;> simp
  · rw [h, hd, unwGo_not hp hc]; rfl
  · rw [h, hd, hc, unwGo_short (by simp; omega)]; rfl
  · have h1 := List.drop_eq_getElem_cons (show k + 1 < s.length by omega)
    have h2 := List.drop_eq_getElem_cons h3
    rw [h, hd, hc, h1, h2, unwGo_bad hb]; rfl
  · have h1 := List.drop_eq_getElem_cons (show k + 1 < s.length by omega)
    have h2 := List.drop_eq_getElem_cons h3
    rw [hd, hc, h1, h2, unwGo_esc hx hy] at h
    refine ⟨fun hp => ?_, fun hp => ?_⟩
    · rw [h, if_pos hp]; rfl
    · rw [h, if_neg (by rw [hp]; decide)]
      cases unwGo (s.drop (k + 3)) <;> simp
end V
end Go.Proofs.YtnhfaincdabdkaaGreatDoor
