/-
  Plain Lean, no program: bytes, numbers, cuts at one byte.
-/
import Derived.Lib.Split
import Derived.Lib.LastIndexLaws
import Derived.Lib.Small
import Derived.Lib.SlTrimSet
namespace Go.Proofs.Ytoiabbhppbghdaa.V

abbrev Bs := List UInt8

def digB (n : Int) : Bool := decide (48 ≤ n) && decide (n ≤ 57)
def letB (n : Int) : Bool := (decide (97 ≤ n) && decide (n ≤ 122)) || (decide (65 ≤ n) && decide (n ≤ 90))
def dig (c : UInt8) : Bool := digB c.toNat
def lett (c : UInt8) : Bool := letB c.toNat
def only (p : UInt8 → Bool) (l : Bs) : Bool := l.all p && !l.isEmpty
def digits (l : Bs) : Bool := only dig l
def numb (l : Bs) (exact : Bool) : Bool := digits l && !(exact && decide (1 < l.length) && l.getD 0 0 == 48)
def value (l : Bs) : Bs := l.dropWhile (· == 48)
/-- the first that is not 0 -/
def cor (x y : Int) : Int := if x = 0 then y else x
def numbers (a b : Bs) : Int := cor (Lib.compareInt (value a).length (value b).length) (Lib.compareBytes (value a) (value b))
def identC (a b : Bs) : Int := if digits a && digits b then numbers a b else if digits a then -1 else if digits b then 1 else Lib.compareBytes a b
def nk (s : Bs) : Bs := UInt8.ofNat (value s).length :: value s

theorem all_take {s : Bs} {p : UInt8 → Bool} {k : Nat} (h : k < s.length) : (s.take (k + 1)).all p = ((s.take k).all p && p s[k]) := by
  rw [List.take_succ_eq_append_getElem h, List.all_append]; simp
theorem only_no {s : Bs} {p : UInt8 → Bool} {k : Nat} (h : k < s.length) (hp : p s[k] = false) : only p s = false := by
  unfold only
  rw [Bool.and_eq_false_iff]; left
  rw [List.all_eq_false]
  exact ⟨s[k], List.getElem_mem h, by simp [hp]⟩

/-- s cut at every c -/
def splitOn (c : UInt8) : Bs → List Bs
  | [] => [[]]
  | b :: l => if b == c then [] :: splitOn c l else match splitOn c l with
    | [] => [[b]]
    | x :: r => (b :: x) :: r

theorem splitOn_ne (c : UInt8) : ∀ l, splitOn c l ≠ []
  | [] => by simp [splitOn]
  | b :: l => by
    unfold splitOn
    split
    · simp
    · split <;> simp

/-- what stands before the first c, what stands behind it, and whether there is one -/
def cut1 (c : UInt8) (l : Bs) : Bs × Bs × Bool :=
  if c ∈ l then (l.takeWhile (· != c), l.drop ((l.takeWhile (· != c)).length + 1), true) else (l, [], false)

theorem index_one (l : Bs) (c : UInt8) : Lib.index l [c] = if c ∈ l then ((l.takeWhile (· != c)).length : Int) else -1 := by
  induction l with
  | nil => simp [Lib.index]
  | cons b l ih =>
    unfold Lib.index
    by_cases h : b = c
    · subst h; simp [List.isPrefixOf]
    · have h1 : ([c] : Bs).isPrefixOf (b :: l) = false := by simp [List.isPrefixOf]; exact fun e => h e.symm
      rw [h1, ih]
      have h3 : (b != c) = true := by simpa using h
      have h5 : ¬ c = b := fun e => h e.symm
      by_cases hc : c ∈ l
      · simp only [hc, if_true, List.mem_cons, or_true, List.takeWhile_cons, h3, List.length_cons]
        have : ((((l.takeWhile (· != c)).length : Nat) : Int) == -1) = false := by rw [beq_eq_false_iff_ne]; omega
        simp [this]
      · simp [hc, h5]

theorem take_tw (l : Bs) (p : UInt8 → Bool) : l.take (l.takeWhile p).length = l.takeWhile p := by
  induction l with
  | nil => rfl
  | cons b l ih => by_cases hb : p b = true <;> simp [List.takeWhile_cons, hb, ih]

theorem cut_one (l : Bs) (c : UInt8) : Lib.cut l [c] = cut1 c l := by
  unfold Lib.cut cut1
  rw [index_one]
  by_cases h : c ∈ l
  · simp only [h, if_true]
    rw [if_pos (by omega)]
    simp only [Int.toNat_natCast, take_tw, List.length_singleton]
  · simp only [h, if_false]
    rw [if_neg (by decide)]

theorem count_none {l : Bs} {c : UInt8} (h : c ∉ l) : Lib.count l [c] = 0 := Lib.count_miss (by rw [index_one, if_neg h])
theorem splitOn_none {c : UInt8} : ∀ {l : Bs}, c ∉ l → splitOn c l = [l]
  | [], _ => rfl
  | b :: l, h => by
    rw [List.mem_cons, not_or] at h
    have h1 : (b == c) = false := by simpa using fun e => h.1 e.symm
    simp [splitOn, h1, splitOn_none h.2]

theorem splitOn_some {c : UInt8} : ∀ {l : Bs}, c ∈ l → splitOn c l = l.takeWhile (· != c) :: splitOn c (l.drop ((l.takeWhile (· != c)).length + 1))
  | [], h => by simp at h
  | b :: l, h => by
    by_cases hb : b = c
    · subst hb; simp [splitOn]
    · have h3 : (b != c) = true := by simpa using hb
      have h4 : (b == c) = false := by simpa using hb
      have h2 : c ∈ l := by
        rw [List.mem_cons] at h
        rcases h with h | h
        · exact absurd h.symm hb
        · exact h
      rw [splitOn, h4, splitOn_some h2]
      simp [List.takeWhile_cons, h3]

theorem tw_lt {l : Bs} {c : UInt8} (h : c ∈ l) : (l.takeWhile (· != c)).length < l.length := by
  induction l with
  | nil => simp at h
  | cons b l ih =>
    by_cases hb : (b != c) = true
    · have h2 : c ∈ l := by
        rw [List.mem_cons] at h
        rcases h with h | h
        · subst h; simp at hb
        · exact h
      simpa [List.takeWhile_cons, hb] using ih h2
    · simp [List.takeWhile_cons, hb]

theorem split_one (c : UInt8) : ∀ (n : Nat) (l : Bs), l.length ≤ n → Lib.split l [c] = splitOn c l
  | n, l, hn => by
    unfold Lib.split
    by_cases h : c ∈ l
    · have hi : Lib.index l [c] = ((l.takeWhile (· != c)).length : Nat) := by rw [index_one, if_pos h]
      rw [Lib.count_hit (by simp) hi, Nat.add_comm, splitOn_some h]
      unfold Lib.splitK
      have hne : ¬ (Lib.index l [c] == -1) = true := by
        rw [hi, beq_iff_eq]; omega
      rw [if_neg hne, hi]
      have hlen := tw_lt h
      simp only [Int.toNat_natCast, List.length_singleton, Nat.add_zero, take_tw]
      congr 1
      cases n with
      | zero => omega
      | succ n => exact split_one c n _ (by rw [List.length_drop]; omega)
    · rw [count_none h, splitOn_none h]; rfl


theorem indexByte_mem (l : Bs) (c : UInt8) : decide (0 ≤ Lib.indexByte l c) = decide (c ∈ l) := by
  induction l with
  | nil => simp [Lib.indexByte]
  | cons b l ih =>
    have ih' : (0 ≤ Lib.indexByte l c) ↔ c ∈ l := by simpa using ih
    have hge := Lib.indexByte_ge l c
    unfold Lib.indexByte
    by_cases h : b = c
    · subst h; simp
    · have h1 : (b == c) = false := by simpa using h
      have h5 : ¬ c = b := fun e => h e.symm
      rw [h1]
      by_cases hm : Lib.indexByte l c = -1
      · have : c ∉ l := fun e => by have := ih'.2 e; omega
        simp [hm, this, h5]
      · have hc : c ∈ l := ih'.1 (by omega)
        simp [hm, hc]; omega

/-- letters, digits and other bytes -/
def kind (other : Bs) (c : UInt8) : Bool := lett c || dig c || decide (c ∈ other)

theorem value_zero {l : Bs} (h : l.getD 0 0 = 48) (h0 : 0 < l.length) : value l = value (l.drop 1) := by
  cases l with
  | nil => simp at h0
  | cons b l =>
    have : b = 48 := h
    subst this
    simp [value]
theorem value_other {l : Bs} (h : l.getD 0 0 ≠ 48) : value l = l := by
  cases l with
  | nil => rfl
  | cons b l =>
    have : (b == 48) = false := by simpa using h
    simp [value, List.dropWhile_cons, this]

/-- -1, 0 or 1 -/
def sgn (n : Int) : Int := if n < 0 then -1 else if 0 < n then 1 else 0

/-- the first of some numbers that is not 0 -/
def orI : List Int → Int
  | [] => 0
  | x :: l => cor x (orI l)

theorem orI_skip : ∀ (xs : List Int) (k : Nat), (∀ j, j < k → xs.getD j 0 = 0) → orI xs = orI (xs.drop k)
  | _, 0, _ => rfl
  | [], k + 1, _ => by simp
  | x :: l, k + 1, h => by
    have h0 : x = 0 := h 0 (by omega)
    rw [List.drop_succ_cons, ← orI_skip l k (fun j hj => h (j + 1) (by omega))]
    subst h0; rfl

end Go.Proofs.Ytoiabbhppbghdaa.V
