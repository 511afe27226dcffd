/-
  Plain Lean, no program: bytes, numbers, cuts at one byte.
  Plain Lean, no program: what the three schemes take for versions.
  Plain Lean, no program: the comparisons of the three schemes.
  Plain Lean, no program: keys of versions, ordered as the versions are.
  Plain Lean, no program: of which bytes versions consist.
  Plain Lean, no program: the orders that the reference of layer 6 writes are the same orders.
-/
import Derived.Lib.Split
import Derived.Lib.LastIndexLaws
import Derived.Lib.Small
import Derived.Lib.SlTrimSet
import Derived.Lib.LastIndexByte
namespace Go.Proofs.YtpjjkbdkgaehkaaGreatDoor.V

abbrev Bs := List UInt8

def digB (n : Int) : Bool := decide (48 ≤ n) && decide (n ≤ 57)
def letB (n : Int) : Bool := (decide (97 ≤ n) && decide (n ≤ 122)) || (decide (65 ≤ n) && decide (n ≤ 90))
def dig (c : UInt8) : Bool := digB c.toNat
def lett (c : UInt8) : Bool := letB c.toNat
def only (p : UInt8 → Bool) (l : Bs) : Bool := l.all p && !l.isEmpty
def digits (l : Bs) : Bool := only dig l
def numb (l : Bs) (exact : Bool) : Bool := digits l && !(exact && decide (1 < l.length) && l.getD 0 0 == 48)
def value (l : Bs) : Bs := l.dropWhile (· == 48)
/-- the first that is not 0 -/
def cor (x y : Int) : Int := if x = 0 then y else x
def numbers (a b : Bs) : Int := cor (Lib.compareInt (value a).length (value b).length) (Lib.compareBytes (value a) (value b))
def identC (a b : Bs) : Int := if digits a && digits b then numbers a b else if digits a then -1 else if digits b then 1 else Lib.compareBytes a b
def nk (s : Bs) : Bs := UInt8.ofNat (value s).length :: value s

theorem all_take {s : Bs} {p : UInt8 → Bool} {k : Nat} (h : k < s.length) : (s.take (k + 1)).all p = ((s.take k).all p && p s[k]) := by
  rw [List.take_succ_eq_append_getElem h, List.all_append]; simp
theorem only_no {s : Bs} {p : UInt8 → Bool} {k : Nat} (h : k < s.length) (hp : p s[k] = false) : only p s = false := by
  unfold only
  rw [Bool.and_eq_false_iff]; left
  rw [List.all_eq_false]
  exact ⟨s[k], List.getElem_mem h, by simp [hp]⟩

/-- s cut at every c -/
def splitOn (c : UInt8) : Bs → List Bs
  | [] => [[]]
  | b :: l => if b == c then [] :: splitOn c l else match splitOn c l with
    | [] => [[b]]
    | x :: r => (b :: x) :: r

theorem splitOn_ne (c : UInt8) : ∀ l, splitOn c l ≠ []
  | [] => by simp [splitOn]
  | b :: l => by
    unfold splitOn
    split
    · simp
    · split <;> simp

/-- what stands before the first c, what stands behind it, and whether there is one -/
def cut1 (c : UInt8) (l : Bs) : Bs × Bs × Bool :=
  if c ∈ l then (l.takeWhile (· != c), l.drop ((l.takeWhile (· != c)).length + 1), true) else (l, [], false)

theorem index_one (l : Bs) (c : UInt8) : Lib.index l [c] = if c ∈ l then ((l.takeWhile (· != c)).length : Int) else -1 := by
  induction l with
  | nil => simp [Lib.index]
  | cons b l ih =>
    unfold Lib.index
    by_cases h : b = c
    · subst h; simp [List.isPrefixOf]
    · have h1 : ([c] : Bs).isPrefixOf (b :: l) = false := by simp [List.isPrefixOf]; exact fun e => h e.symm
      rw [h1, ih]
      have h3 : (b != c) = true := by simpa using h
      have h5 : ¬ c = b := fun e => h e.symm
      by_cases hc : c ∈ l
      · simp only [hc, if_true, List.mem_cons, or_true, List.takeWhile_cons, h3, List.length_cons]
        have : ((((l.takeWhile (· != c)).length : Nat) : Int) == -1) = false := by rw [beq_eq_false_iff_ne]; omega
        simp [this]
      · simp [hc, h5]

theorem take_tw (l : Bs) (p : UInt8 → Bool) : l.take (l.takeWhile p).length = l.takeWhile p := by
  induction l with
  | nil => rfl
  | cons b l ih => by_cases hb : p b = true <;> simp [hb, ih]

theorem cut_one (l : Bs) (c : UInt8) : Lib.cut l [c] = cut1 c l := by
  unfold Lib.cut cut1
  rw [index_one]
  by_cases h : c ∈ l
  · simp only [h, if_true]
    rw [if_pos (by omega)]
    simp only [Int.toNat_natCast, take_tw, List.length_singleton]
  · simp only [h, if_false]
    rw [if_neg (by decide)]

theorem count_none {l : Bs} {c : UInt8} (h : c ∉ l) : Lib.count l [c] = 0 := Lib.count_miss (by rw [index_one, if_neg h])
theorem splitOn_none {c : UInt8} : ∀ {l : Bs}, c ∉ l → splitOn c l = [l]
  | [], _ => rfl
  | b :: l, h => by
    rw [List.mem_cons, not_or] at h
    have h1 : (b == c) = false := by simpa using fun e => h.1 e.symm
    simp [splitOn, h1, splitOn_none h.2]

theorem splitOn_some {c : UInt8} : ∀ {l : Bs}, c ∈ l → splitOn c l = l.takeWhile (· != c) :: splitOn c (l.drop ((l.takeWhile (· != c)).length + 1))
  | [], h => by simp at h
  | b :: l, h => by
    by_cases hb : b = c
    · subst hb; simp [splitOn]
    · have h3 : (b != c) = true := by simpa using hb
      have h4 : (b == c) = false := by simpa using hb
      have h2 : c ∈ l := by
        rw [List.mem_cons] at h
        rcases h with h | h
        · exact absurd h.symm hb
        · exact h
      rw [splitOn, h4, splitOn_some h2]
      simp [h3]

theorem tw_lt {l : Bs} {c : UInt8} (h : c ∈ l) : (l.takeWhile (· != c)).length < l.length := by
  induction l with
  | nil => simp at h
  | cons b l ih =>
    by_cases hb : (b != c) = true
    · have h2 : c ∈ l := by
        rw [List.mem_cons] at h
        rcases h with h | h
        · subst h; simp at hb
        · exact h
      simpa [List.takeWhile_cons, hb] using ih h2
    · simp [hb]

theorem split_one (c : UInt8) : ∀ (n : Nat) (l : Bs), l.length ≤ n → Lib.split l [c] = splitOn c l
  | n, l, hn => by
    unfold Lib.split
    by_cases h : c ∈ l
    · have hi : Lib.index l [c] = ((l.takeWhile (· != c)).length : Nat) := by rw [index_one, if_pos h]
      rw [Lib.count_hit (by simp) hi, Nat.add_comm, splitOn_some h]
      unfold Lib.splitK
      have hne : ¬ (Lib.index l [c] == -1) = true := by
        rw [hi, beq_iff_eq]; omega
      rw [if_neg hne, hi]
      have hlen := tw_lt h
      simp only [Int.toNat_natCast, List.length_singleton, Nat.add_zero, take_tw]
      congr 1
      cases n with
      | zero => omega
      | succ n => exact split_one c n _ (by rw [List.length_drop]; omega)
    · rw [count_none h, splitOn_none h]; rfl


theorem indexByte_mem (l : Bs) (c : UInt8) : decide (0 ≤ Lib.indexByte l c) = decide (c ∈ l) := by
  induction l with
  | nil => simp [Lib.indexByte]
  | cons b l ih =>
    have ih' : (0 ≤ Lib.indexByte l c) ↔ c ∈ l := by simpa using ih
    have hge := Lib.indexByte_ge l c
    unfold Lib.indexByte
    by_cases h : b = c
    · subst h; simp
    · have h1 : (b == c) = false := by simpa using h
      have h5 : ¬ c = b := fun e => h e.symm
      rw [h1]
      by_cases hm : Lib.indexByte l c = -1
      · have : c ∉ l := fun e => by have := ih'.2 e; omega
        simp [hm, this, h5]
      · have hc : c ∈ l := ih'.1 (by omega)
        simp [hm, hc]; omega

/-- letters, digits and other bytes -/
def kind (other : Bs) (c : UInt8) : Bool := lett c || dig c || decide (c ∈ other)

theorem value_zero {l : Bs} (h : l.getD 0 0 = 48) (h0 : 0 < l.length) : value l = value (l.drop 1) := by
  cases l with
  | nil => simp at h0
  | cons b l =>
    have : b = 48 := h
    subst this
    simp [value]
theorem value_other {l : Bs} (h : l.getD 0 0 ≠ 48) : value l = l := by
  cases l with
  | nil => rfl
  | cons b l =>
    have : (b == 48) = false := by simpa using h
    simp [value, this]

/-- -1, 0 or 1 -/
def sgn (n : Int) : Int := if n < 0 then -1 else if 0 < n then 1 else 0

/-- the first of some numbers that is not 0 -/
def orI : List Int → Int
  | [] => 0
  | x :: l => cor x (orI l)

theorem orI_skip : ∀ (xs : List Int) (k : Nat), (∀ j, j < k → xs.getD j 0 = 0) → orI xs = orI (xs.drop k)
  | _, 0, _ => rfl
  | [], k + 1, _ => by simp
  | x :: l, k + 1, h => by
    have h0 : x = 0 := h 0 (by omega)
    rw [List.drop_succ_cons, ← orI_skip l k (fun j hj => h (j + 1) (by omega))]
    subst h0; rfl

end Go.Proofs.YtpjjkbdkgaehkaaGreatDoor.V
namespace Go.Proofs.YtpjjkbdkgaehkaaGreatDoor.V

def identOk (exact : Bool) (x : Bs) : Bool := only (kind [45]) x && !(digits x && !numb x exact)
def identifiers (s : Bs) (exact : Bool) : Bool := (splitOn 46 s).all (identOk exact)
def dotOk (s : Bs) : Bool := (splitOn 46 s).all fun x => numb x false

/-- the parts of a semantic version -/
def semParse (v : Bs) : Option (List Bs × List Bs) :=
  if ((cut1 43 v).2.2 && !identifiers (cut1 43 v).2.1 false) || ((cut1 45 (cut1 43 v).1).2.2 && !identifiers (cut1 45 (cut1 43 v).1).2.1 true) || (splitOn 46 (cut1 45 (cut1 43 v).1).1).length != 3 then none
  else if (splitOn 46 (cut1 45 (cut1 43 v).1).1).all (fun x => numb x true) then
    some (splitOn 46 (cut1 45 (cut1 43 v).1).1, if (cut1 45 (cut1 43 v).1).2.2 then splitOn 46 (cut1 45 (cut1 43 v).1).2.1 else [])
  else none
end Go.Proofs.YtpjjkbdkgaehkaaGreatDoor.V
namespace Go.Proofs.YtpjjkbdkgaehkaaGreatDoor.V

theorem orI_hit (xs : List Int) (k : Nat) (h : ∀ j, j < k → xs.getD j 0 = 0) (hk : k < xs.length) (h0 : xs.getD k 0 ≠ 0) : orI xs = xs.getD k 0 := by
  rw [orI_skip xs k h]
  have e : xs.drop k = xs.getD k 0 :: xs.drop (k + 1) := by
    rw [List.drop_eq_getElem_cons hk]; simp [List.getD, List.getElem?_eq_getElem hk]
  rw [e]; unfold orI cor; rw [if_neg h0]

theorem orI_zero (xs : List Int) (h : ∀ j, j < xs.length → xs.getD j 0 = 0) : orI xs = 0 := by
  rw [orI_skip xs xs.length h]; simp [orI]

/-- two lists compared element by element; a longer one is greater -/
def listCmp {α : Type} (f : α → α → Int) : List α → List α → Int
  | [], [] => 0
  | [], _ :: _ => -1
  | _ :: _, [] => 1
  | a :: as, b :: bs => cor (f a b) (listCmp f as bs)

def takeD (s : Bs) (d : Bool) : Bs × Bs := (s.takeWhile fun c => dig c == d, s.dropWhile fun c => dig c == d)

/-- the place of a byte of a prefix in the order of bytes, or of its end -/
def wt (s : Bs) (i : Nat) : Int := if s.length ≤ i then 2 else if s.getD i 0 = 126 then 1 else if lett (s.getD i 0) then (s.getD i 0).toNat else ((s.getD i 0) ||| 128).toNat

def wcmp (x y : Bs) : Int := orI ((List.range (max x.length y.length)).map fun i => Lib.compareInt (wt x i) (wt y i))

def texts : Nat → Bs → Bs → Int
  | 0, _, _ => 0
  | f + 1, a, b => if a.isEmpty && b.isEmpty then 0 else
    cor (wcmp (takeD a false).1 (takeD b false).1)
      (cor (numbers (takeD (takeD a false).2 true).1 (takeD (takeD b false).2 true).1)
        (texts f (takeD (takeD a false).2 true).2 (takeD (takeD b false).2 true).2))

theorem span_len (p : UInt8 → Bool) (s : Bs) : (s.takeWhile p).length + (s.dropWhile p).length = s.length := by
  induction s with
  | nil => rfl
  | cons b l ih => by_cases h : p b = true <;> simp [h] <;> omega

theorem takeD_len (s : Bs) (d : Bool) : (takeD s d).1.length + (takeD s d).2.length = s.length := span_len _ s

theorem takeD_two (s : Bs) (h : s ≠ []) : (takeD (takeD s false).2 true).2.length < s.length := by
  have h1 := takeD_len s false
  have h2 := takeD_len (takeD s false).2 true
  have h3 : 0 < (takeD s false).1.length + (takeD (takeD s false).2 true).1.length := by
    cases s with
    | nil => exact absurd rfl h
    | cons b l =>
      by_cases hd : dig b = true
      · simp [takeD, hd]
      · simp [takeD, hd]; omega
  omega

/-- enough is enough -/
theorem texts_fuel : ∀ (f g : Nat) (a b : Bs), a.length + b.length < f → a.length + b.length < g → texts f a b = texts g a b
  | 0, _, _, _, h, _ => by omega
  | _, 0, _, _, _, h => by omega
  | f + 1, g + 1, a, b, hf, hg => by
    unfold texts
    by_cases he : (a.isEmpty && b.isEmpty) = true
    · simp [he]
    · rw [if_neg he, if_neg he]
      congr 2
      have ha := takeD_len a false
      have ha2 := takeD_len (takeD a false).2 true
      have hb := takeD_len b false
      have hb2 := takeD_len (takeD b false).2 true
      have hne : a ≠ [] ∨ b ≠ [] := by
        rcases a with _ | ⟨x, a⟩
        · rcases b with _ | ⟨y, b⟩
          · simp at he
          · exact .inr (by simp)
        · exact .inl (by simp)
      have hlt : (takeD (takeD a false).2 true).2.length + (takeD (takeD b false).2 true).2.length < a.length + b.length := by
        rcases hne with h | h
        · have := takeD_two a h; omega
        · have := takeD_two b h; omega
      exact texts_fuel f g _ _ (by omega) (by omega)

def textsC (a b : Bs) : Int := texts (a.length + b.length + 1) a b

theorem textsC_nil : textsC [] [] = 0 := rfl
theorem textsC_step (a b : Bs) (h : ¬ (a.isEmpty && b.isEmpty) = true) : textsC a b = cor (wcmp (takeD a false).1 (takeD b false).1)
      (cor (numbers (takeD (takeD a false).2 true).1 (takeD (takeD b false).2 true).1)
        (textsC (takeD (takeD a false).2 true).2 (takeD (takeD b false).2 true).2)) := by
  unfold textsC
  rw [texts, if_neg h]
  congr 2
  have hne : a ≠ [] ∨ b ≠ [] := by
    rcases a with _ | ⟨x, a⟩
    · rcases b with _ | ⟨y, b⟩
      · simp at h
      · exact .inr (by simp)
    · exact .inl (by simp)
  have ha := takeD_len a false
  have ha2 := takeD_len (takeD a false).2 true
  have hb := takeD_len b false
  have hb2 := takeD_len (takeD b false).2 true
  refine texts_fuel _ _ _ _ ?_ (by omega)
  rcases hne with h | h
  · have := takeD_two a h; omega
  · have := takeD_two b h; omega

theorem cor_zero (y : Int) : cor 0 y = y := rfl
theorem cor_ne {x : Int} (h : x ≠ 0) (y : Int) : cor x y = x := by unfold cor; rw [if_neg h]

/-- the part of a text before a byte that is (is no) digit, found by counting -/
theorem take_at (s : Bs) (p : UInt8 → Bool) (k : Nat) (hk : k ≤ s.length) (h1 : (s.take k).all p = true) (h2 : k = s.length ∨ ∃ h : k < s.length, p s[k] = false) :
    s.take k = s.takeWhile p ∧ s.drop k = s.dropWhile p := by
  induction s generalizing k with
  | nil => simp
  | cons b l ih =>
    cases k with
    | zero =>
      rcases h2 with h2 | ⟨h, h2⟩
      · simp at h2
      · have h2 : p b = false := h2
        simp [h2]
    | succ k =>
      simp at h1
      have h3 := ih k (by simpa using hk) (by simpa using h1.2) (by
        rcases h2 with h2 | ⟨h, h2⟩
        · left; simpa using h2
        · right; exact ⟨by simpa using h, by simpa using h2⟩)
      simp [h1.1, h3.1, h3.2]

def allow : Bs := [46, 43, 126]
def lastDash (s : Bs) : Int := Lib.lastIndexByte ⟨s.toArray⟩ 45
/-- upstream version and revision -/
def debTail (ep s : Bs) : Option (Bs × Bs × Bs) :=
  if lastDash s < 0 then
    if only (kind [46, 43, 126, 45]) s && dig (s.getD 0 0) then some (ep, s, []) else none
  else if only (kind allow) (s.drop ((lastDash s).toNat + 1)) then
    if only (kind [46, 43, 126, 45]) (s.take (lastDash s).toNat) && dig ((s.take (lastDash s).toNat).getD 0 0) then some (ep, s.take (lastDash s).toNat, s.drop ((lastDash s).toNat + 1)) else none
  else none
def debParse (v : Bs) : Option (Bs × Bs × Bs) :=
  if (cut1 58 v).2.2 then if numb (cut1 58 v).1 false then debTail (cut1 58 v).1 (cut1 58 v).2.1 else none
  else debTail [] v

/-- the elements without those at the end that count as 0 -/
def stripEnd (l : List Bs) : List Bs := (l.reverse.dropWhile fun x => (value x).isEmpty).reverse
def dotParse (v : Bs) : List Bs := stripEnd (splitOn 46 v)
def dotCmp (a b : Bs) : Int := listCmp numbers (dotParse a) (dotParse b)
def debCmp (x y : Bs × Bs × Bs) : Int := orI [numbers x.1 y.1, textsC x.2.1 y.2.1, textsC x.2.2 y.2.2]

theorem stripEnd_drop (l : List Bs) (x : Bs) (h : (value x).isEmpty = true) : stripEnd (l ++ [x]) = stripEnd l := by
  unfold stripEnd; simp [h]
theorem stripEnd_stop (l : List Bs) (x : Bs) (h : (value x).isEmpty = false) : stripEnd (l ++ [x]) = l ++ [x] := by
  unfold stripEnd; simp [h]

def preCmp (p q : List Bs) : Int := if p.isEmpty || q.isEmpty then Lib.compareInt q.length p.length else listCmp identC p q
def semCmp (x y : List Bs × List Bs) : Int :=
  cor (orI [numbers (x.1.getD 0 []) (y.1.getD 0 []), numbers (x.1.getD 1 []) (y.1.getD 1 []), numbers (x.1.getD 2 []) (y.1.getD 2 [])]) (preCmp x.2 y.2)

def schOk (n : Int) (v : Bs) : Bool := if n = 1 then (semParse v).isSome else if n = 2 then (debParse v).isSome else if n = 3 then dotOk v else false
def cmpV (n : Int) (a b : Bs) : Int :=
  if n = 1 then (match semParse a, semParse b with | some x, some y => semCmp x y | _, _ => 0)
  else if n = 2 then (match debParse a, debParse b with | some x, some y => debCmp x y | _, _ => 0)
  else dotCmp a b
def valid (n : Int) (v : Bs) : Bool := decide (1 ≤ v.length) && decide (v.length ≤ 64) && schOk n v

def scheme (n : Int) : Bool := n == 1 || n == 2 || n == 3
/-- the order of two strings, and the error -/
def compareR (n : Int) (a b : Bs) : Int × Int := if !scheme n then (0, 14) else if valid n a && valid n b then (cmpV n a b, 0) else (0, 1)
end Go.Proofs.YtpjjkbdkgaehkaaGreatDoor.V
namespace Go.Proofs.YtpjjkbdkgaehkaaGreatDoor.V

abbrev cb := Lib.compareBytes

theorem cor_assoc (a b c : Int) : cor (cor a b) c = cor a (cor b c) := by unfold cor; repeat' split <;> simp_all
theorem cor_right (a : Int) : cor a 0 = a := by unfold cor; split <;> simp_all

theorem cb_refl : ∀ a, cb a a = 0
  | [] => rfl
  | x :: a => by simp [cb, Lib.compareBytes]; exact cb_refl a
theorem cb_same (x : UInt8) (a b : Bs) : cb (x :: a) (x :: b) = cb a b := by simp [cb, Lib.compareBytes]
theorem cb_lt {x y : UInt8} (h : x < y) (a b : Bs) : cb (x :: a) (y :: b) = -1 := by simp [cb, Lib.compareBytes, h]
theorem cb_gt {x y : UInt8} (h : y < x) (a b : Bs) : cb (x :: a) (y :: b) = 1 := by
  have h2 : ¬ x < y := fun g => by rw [UInt8.lt_iff_toNat_lt] at h g; omega
  simp [cb, Lib.compareBytes, h, h2]
theorem u8_tri (x y : UInt8) : x < y ∨ x = y ∨ y < x := by
  rw [UInt8.lt_iff_toNat_lt, UInt8.lt_iff_toNat_lt, ← UInt8.toNat_inj]; omega
/-- three ways for the heads -/
theorem cb_cons (x y : UInt8) (a b : Bs) : (x < y ∧ cb (x :: a) (y :: b) = -1) ∨ (x = y ∧ cb (x :: a) (y :: b) = cb a b) ∨ (y < x ∧ cb (x :: a) (y :: b) = 1) := by
  rcases u8_tri x y with h | h | h
  · exact .inl ⟨h, cb_lt h a b⟩
  · subst h; exact .inr (.inl ⟨rfl, cb_same x a b⟩)
  · exact .inr (.inr ⟨h, cb_gt h a b⟩)
theorem cb_rng : ∀ a b, cb a b = -1 ∨ cb a b = 0 ∨ cb a b = 1
  | [], [] => .inr (.inl rfl)
  | [], _ :: _ => .inl rfl
  | _ :: _, [] => .inr (.inr rfl)
  | x :: a, y :: b => by
    rcases cb_cons x y a b with ⟨_, h⟩ | ⟨_, h⟩ | ⟨_, h⟩
    · exact .inl h
    · rw [h]; exact cb_rng a b
    · exact .inr (.inr h)
theorem cb_anti : ∀ a b, cb b a = - cb a b
  | [], [] => rfl
  | [], _ :: _ => rfl
  | _ :: _, [] => rfl
  | x :: a, y :: b => by
    rcases u8_tri x y with h | h | h
    · rw [cb_lt h, cb_gt h]; rfl
    · subst h; rw [cb_same, cb_same]; exact cb_anti a b
    · rw [cb_lt h, cb_gt h]
theorem cb_eq : ∀ {a b}, cb a b = 0 → a = b
  | [], [], _ => rfl
  | [], _ :: _, h => by simp [cb, Lib.compareBytes] at h
  | _ :: _, [], h => by simp [cb, Lib.compareBytes] at h
  | x :: a, y :: b, h => by
    rcases cb_cons x y a b with ⟨_, g⟩ | ⟨e, g⟩ | ⟨_, g⟩
    · rw [g] at h; simp at h
    · rw [g] at h; rw [e, cb_eq h]
    · rw [g] at h; simp at h
theorem cb_trans : ∀ a b c, cb a b ≤ 0 → cb b c ≤ 0 → cb a c ≤ 0
  | [], _, [], _, _ => by simp [cb, Lib.compareBytes]
  | [], _, _ :: _, _, _ => by simp [cb, Lib.compareBytes]
  | _ :: _, [], _, h, _ => by simp [cb, Lib.compareBytes] at h
  | _ :: _, _ :: _, [], _, h => by simp [cb, Lib.compareBytes] at h
  | x :: a, y :: b, z :: c, h, g => by
    rcases u8_tri x y with h1 | h1 | h1
    · rcases u8_tri y z with g1 | g1 | g1
      · rw [cb_lt (by rw [UInt8.lt_iff_toNat_lt] at *; omega)]; decide
      · subst g1; rw [cb_lt h1]; decide
      · rw [cb_gt g1] at g; simp at g
    · subst h1
      rcases u8_tri x z with g1 | g1 | g1
      · rw [cb_lt g1]; decide
      · subst g1; rw [cb_same] at *; exact cb_trans a b c h g
      · rw [cb_gt g1] at g; simp at g
    · rw [cb_gt h1] at h; simp at h

theorem cb_app : ∀ (a b x y : Bs), a.length = b.length → cb (a ++ x) (b ++ y) = cor (cb a b) (cb x y)
  | [], [], _, _, _ => rfl
  | [], _ :: _, _, _, h => by simp at h
  | _ :: _, [], _, _, h => by simp at h
  | p :: a, q :: b, x, y, h => by
    rw [List.cons_append, List.cons_append]
    rcases u8_tri p q with e | e | e
    · rw [cb_lt e, cb_lt e]; rfl
    · subst e; rw [cb_same, cb_same]; exact cb_app a b x y (by simpa using h)
    · rw [cb_gt e, cb_gt e]; rfl

theorem value_len (a : Bs) : (value a).length ≤ a.length := (List.dropWhile_sublist _).length_le

theorem ofNat_lt {m n : Nat} (h : m < n) (hn : n ≤ 255) : UInt8.ofNat m < UInt8.ofNat n := by
  rw [UInt8.lt_iff_toNat_lt, UInt8.toNat_ofNat', UInt8.toNat_ofNat', Nat.mod_eq_of_lt (by omega), Nat.mod_eq_of_lt (by omega)]; exact h

theorem nk_cmp (a b x y : Bs) (ha : a.length ≤ 255) (hb : b.length ≤ 255) : cb (nk a ++ x) (nk b ++ y) = cor (numbers a b) (cb x y) := by
  have h1 := value_len a
  have h2 := value_len b
  unfold nk numbers Lib.compareInt
  rw [List.cons_append, List.cons_append]
  rcases Nat.lt_trichotomy (value a).length (value b).length with h | h | h
  · rw [cb_lt (ofNat_lt h (by omega)), if_pos (by omega)]; rfl
  · rw [h, cb_same, cb_app _ _ _ _ h, if_neg (by omega), if_neg (by omega), cor_zero]
  · rw [cb_gt (ofNat_lt h (by omega)), if_neg (by omega), if_pos (by omega)]; rfl

theorem cb_zero : ∀ (p q x y : Bs), (∀ c ∈ p, c ≠ 0) → (∀ c ∈ q, c ≠ 0) → cb (p ++ 0 :: x) (q ++ 0 :: y) = cor (cb p q) (cb x y)
  | [], [], x, y, _, _ => by rw [List.nil_append, List.nil_append, cb_same]; rfl
  | [], b :: q, x, y, _, h => by
    have hb : (0 : UInt8) < b := by
      have := h b (by simp)
      rw [UInt8.lt_iff_toNat_lt]
      rw [Ne, ← UInt8.toNat_inj] at this
      have h0 : (0 : UInt8).toNat = 0 := rfl
      omega
    rw [List.nil_append, List.cons_append, cb_lt hb]; rfl
  | b :: p, [], x, y, h, _ => by
    have hb : (0 : UInt8) < b := by
      have := h b (by simp)
      rw [UInt8.lt_iff_toNat_lt]
      rw [Ne, ← UInt8.toNat_inj] at this
      have h0 : (0 : UInt8).toNat = 0 := rfl
      omega
    rw [List.nil_append, List.cons_append, cb_gt hb]; rfl
  | b :: p, c :: q, x, y, h, g => by
    rw [List.cons_append, List.cons_append]
    rcases u8_tri b c with e | e | e
    · rw [cb_lt e, cb_lt e]; rfl
    · subst e
      rw [cb_same, cb_same]
      exact cb_zero p q x y (fun d hd => h d (by simp [hd])) (fun d hd => g d (by simp [hd]))
    · rw [cb_gt e, cb_gt e]; rfl

/-! semantic versions -/

def preEl (p : Bs) : Bs := if digits p then 1 :: nk p else 2 :: (p ++ [0])
def preAll (l : List Bs) : Bs := (l.map preEl).flatten
def preKey (l : List Bs) : Bs := if l.isEmpty then [3] else preAll l ++ [0]
def semKey (x : List Bs × List Bs) : Bs := nk (x.1.getD 0 []) ++ (nk (x.1.getD 1 []) ++ (nk (x.1.getD 2 []) ++ preKey x.2))

/-- short, and no byte is 0 -/
def Tame (p : Bs) : Prop := p.length ≤ 255 ∧ ∀ c ∈ p, c ≠ 0

theorem preEl_cmp (p q x y : Bs) (hp : Tame p) (hq : Tame q) : cb (preEl p ++ x) (preEl q ++ y) = cor (identC p q) (cb x y) := by
  unfold preEl identC
  rcases h1 : digits p with _ | _ <;> rcases h2 : digits q with _ | _
  · simp only [Bool.false_eq_true, if_false, Bool.and_self]
    rw [List.cons_append, List.cons_append, cb_same, List.append_assoc, List.append_assoc]
    exact cb_zero p q x y hp.2 hq.2
  · simp only [Bool.false_eq_true, if_false, if_true, Bool.and_true]
    rw [List.cons_append, List.cons_append, cb_gt (by decide)]; rfl
  · simp only [Bool.false_eq_true, if_false, if_true, Bool.and_false]
    rw [List.cons_append, List.cons_append, cb_lt (by decide)]; rfl
  · simp only [if_true, Bool.and_self]
    rw [List.cons_append, List.cons_append, cb_same]
    exact nk_cmp p q x y hp.1 hq.1

theorem preEl_head (p x : Bs) : ∃ c r, preEl p ++ x = c :: r ∧ 0 < c ∧ c < 3 := by
  unfold preEl
  split
  · exact ⟨_, _, rfl, by decide, by decide⟩
  · exact ⟨_, _, rfl, by decide, by decide⟩

theorem preAll_cmp : ∀ p q : List Bs, (∀ x ∈ p, Tame x) → (∀ x ∈ q, Tame x) → cb (preAll p ++ [0]) (preAll q ++ [0]) = listCmp identC p q
  | [], [], _, _ => rfl
  | [], b :: q, _, _ => by
    obtain ⟨c, r, h, hc, _⟩ := preEl_head b (preAll q ++ [0])
    show cb [0] ((preEl b ++ preAll q) ++ [0]) = -1
    rw [List.append_assoc, h, cb_lt hc]
  | b :: p, [], _, _ => by
    obtain ⟨c, r, h, hc, _⟩ := preEl_head b (preAll p ++ [0])
    show cb ((preEl b ++ preAll p) ++ [0]) [0] = 1
    rw [List.append_assoc, h, cb_gt hc]
  | a :: p, b :: q, hp, hq => by
    show cb ((preEl a ++ preAll p) ++ [0]) ((preEl b ++ preAll q) ++ [0]) = cor (identC a b) (listCmp identC p q)
    rw [List.append_assoc, List.append_assoc, preEl_cmp a b _ _ (hp a (by simp)) (hq b (by simp)), preAll_cmp p q (fun x h => hp x (by simp [h])) (fun x h => hq x (by simp [h]))]

theorem preKey_cmp (p q : List Bs) (hp : ∀ x ∈ p, Tame x) (hq : ∀ x ∈ q, Tame x) : cb (preKey p) (preKey q) = preCmp p q := by
  unfold preKey preCmp
  cases p with
  | nil =>
    cases q with
    | nil => rfl
    | cons b q =>
      obtain ⟨c, r, h, _, hc⟩ := preEl_head b (preAll q ++ [0])
      have e : preAll (b :: q) ++ [0] = c :: r := by rw [← h]; simp [preAll]
      simp only [List.isEmpty_nil, List.isEmpty_cons, if_true, if_false, Bool.false_eq_true, Bool.true_or]
      rw [e, cb_gt hc]
      unfold Lib.compareInt
      rw [if_neg (by simp; try omega), if_pos (by simp; try omega)]
  | cons a p =>
    cases q with
    | nil =>
      obtain ⟨c, r, h, _, hc⟩ := preEl_head a (preAll p ++ [0])
      have e : preAll (a :: p) ++ [0] = c :: r := by rw [← h]; simp [preAll]
      simp only [List.isEmpty_nil, List.isEmpty_cons, if_true, if_false, Bool.false_eq_true, Bool.or_true]
      rw [e, cb_lt hc]
      unfold Lib.compareInt
      rw [if_pos (by simp; try omega)]
    | cons b q => simp only [List.isEmpty_cons, if_false, Bool.false_eq_true, Bool.or_self]; exact preAll_cmp _ _ hp hq

theorem semKey_cmp (x y : List Bs × List Bs) (hx : ∀ k, (x.1.getD k []).length ≤ 255) (hy : ∀ k, (y.1.getD k []).length ≤ 255) (hp : ∀ z ∈ x.2, Tame z) (hq : ∀ z ∈ y.2, Tame z) :
    cb (semKey x) (semKey y) = semCmp x y := by
  unfold semKey semCmp
  rw [nk_cmp _ _ _ _ (hx 0) (hy 0), nk_cmp _ _ _ _ (hx 1) (hy 1), nk_cmp _ _ _ _ (hx 2) (hy 2), preKey_cmp _ _ hp hq]
  simp only [orI, cor_right, cor_assoc]

/-! Debian versions -/

def wb (c : UInt8) : UInt8 := if c = 126 then 1 else if lett c then c else c ||| 128
def wts (s : Bs) : Bs := s.map wb ++ [2]

theorem wb_ne (c : UInt8) : wb c ≠ 2 := by
  have h : ∀ n : Fin 256, wb (UInt8.ofNat n.val) ≠ 2 := by decide +kernel
  have := h ⟨c.toNat, c.toNat_lt⟩
  rwa [show UInt8.ofNat c.toNat = c from UInt8.ofNat_toNat] at this

theorem wt_zero (c : UInt8) (s : Bs) : wt (c :: s) 0 = (wb c).toNat := by
  unfold wt wb
  simp only [List.length_cons, List.getD_cons_zero]
  rw [if_neg (by omega)]
  repeat' split
  all_goals rfl
theorem wt_succ (c : UInt8) (s : Bs) (i : Nat) : wt (c :: s) (i + 1) = wt s i := by
  unfold wt
  simp only [List.length_cons, List.getD_cons_succ, Nat.add_le_add_iff_right]
theorem wt_nil (i : Nat) : wt [] i = 2 := by unfold wt; simp

theorem wcmp_cons (b c : UInt8) (p q : Bs) : wcmp (b :: p) (c :: q) = cor (Lib.compareInt (wb b).toNat (wb c).toNat) (wcmp p q) := by
  unfold wcmp
  rw [List.length_cons, List.length_cons, Nat.succ_max_succ, List.range_succ_eq_map, List.map_cons, orI, wt_zero, wt_zero, List.map_map]
  congr 2
  exact List.map_congr_left (fun i _ => by show Lib.compareInt (wt (b :: p) (i + 1)) (wt (c :: q) (i + 1)) = _; rw [wt_succ, wt_succ])
theorem cmpI_ne {a b : Int} (h : a ≠ b) : Lib.compareInt a b ≠ 0 := by unfold Lib.compareInt; repeat' split <;> omega
theorem wcmp_right (c : UInt8) (q : Bs) : wcmp [] (c :: q) = Lib.compareInt 2 (wb c).toNat := by
  unfold wcmp
  rw [List.length_nil, List.length_cons, Nat.zero_max, List.range_succ_eq_map, List.map_cons, orI, wt_zero, wt_nil, cor_ne]
  apply cmpI_ne
  intro e
  apply wb_ne c
  rw [← UInt8.toNat_inj]
  have : (2 : UInt8).toNat = 2 := rfl
  omega
theorem wcmp_left (c : UInt8) (q : Bs) : wcmp (c :: q) [] = Lib.compareInt (wb c).toNat 2 := by
  unfold wcmp
  rw [List.length_nil, List.length_cons, Nat.max_zero, List.range_succ_eq_map, List.map_cons, orI, wt_zero, wt_nil, cor_ne]
  apply cmpI_ne
  intro e
  apply wb_ne c
  rw [← UInt8.toNat_inj]
  have : (2 : UInt8).toNat = 2 := rfl
  omega
theorem wcmp_nil : wcmp [] [] = 0 := rfl

/-- bytes compared as numbers -/
theorem cb_heads (x y : UInt8) (a b : Bs) : cb (x :: a) (y :: b) = cor (Lib.compareInt x.toNat y.toNat) (cb a b) := by
  unfold Lib.compareInt
  rcases u8_tri x y with e | e | e
  · rw [cb_lt e, if_pos (by rw [UInt8.lt_iff_toNat_lt] at e; omega)]; rfl
  · subst e; rw [cb_same, if_neg (by omega), if_neg (by omega)]; rfl
  · rw [cb_gt e, if_neg (by rw [UInt8.lt_iff_toNat_lt] at e; omega), if_pos (by rw [UInt8.lt_iff_toNat_lt] at e; omega)]; rfl

theorem wts_cmp : ∀ (p q x y : Bs), cb (wts p ++ x) (wts q ++ y) = cor (wcmp p q) (cb x y)
  | [], [], x, y => by rw [wcmp_nil, cor_zero]; exact cb_same 2 x y
  | [], c :: q, x, y => by
    rw [wcmp_right]
    show cb (2 :: x) (wb c :: (wts q ++ y)) = _
    rw [cb_heads]
    have h : Lib.compareInt ((2 : UInt8).toNat : Int) (wb c).toNat ≠ 0 := cmpI_ne (by
      intro e; apply wb_ne c; rw [← UInt8.toNat_inj]; omega)
    rw [cor_ne h]
    exact (cor_ne h _).symm
  | c :: p, [], x, y => by
    rw [wcmp_left]
    show cb (wb c :: (wts p ++ x)) (2 :: y) = _
    rw [cb_heads]
    have h : Lib.compareInt (wb c).toNat ((2 : UInt8).toNat : Int) ≠ 0 := cmpI_ne (by
      intro e; apply wb_ne c; rw [← UInt8.toNat_inj]; omega)
    rw [cor_ne h]
    exact (cor_ne h _).symm
  | b :: p, c :: q, x, y => by
    rw [wcmp_cons]
    show cb (wb b :: (wts p ++ x)) (wb c :: (wts q ++ y)) = _
    rw [cb_heads, wts_cmp p q x y, cor_assoc]

/-- what is left of a text behind its first number -/
def restD (s : Bs) : Bs := (takeD (takeD s false).2 true).2
/-- its first words, then its first number -/
def headK (s : Bs) : Bs := wts (takeD s false).1 ++ nk (takeD (takeD s false).2 true).1
/-- what a key holds for the rest of a text -/
def textR : Nat → Bs → Bs
  | 0, _ => [2]
  | f + 1, s => if s.isEmpty then [2] else headK s ++ textR f (restD s)
def textKey (s : Bs) : Bs := headK s ++ textR s.length (restD s)

theorem restD_len (s : Bs) : (restD s).length ≤ s.length := by
  have h1 := takeD_len s false
  have h2 := takeD_len (takeD s false).2 true
  unfold restD; omega
theorem restD_lt {s : Bs} (h : s ≠ []) : (restD s).length < s.length := takeD_two s h
theorem drop_head {p : UInt8 → Bool} : ∀ {l : Bs} {c r}, l.dropWhile p = c :: r → p c = false
  | b :: l, c, r, h => by
    rw [List.dropWhile_cons] at h
    split at h
    · exact drop_head h
    · rename_i hb
      simp at h; obtain ⟨rfl, _⟩ := h; exact Bool.eq_false_iff.2 hb
theorem restD_head {s : Bs} {c : UInt8} {r : Bs} (h : restD s = c :: r) : dig c = false := by
  have := drop_head (p := fun c => dig c == true) (show List.dropWhile _ _ = c :: r from h)
  simpa using this

theorem textsC_step' (a b : Bs) : textsC a b = cor (wcmp (takeD a false).1 (takeD b false).1)
      (cor (numbers (takeD (takeD a false).2 true).1 (takeD (takeD b false).2 true).1) (textsC (restD a) (restD b))) := by
  by_cases h : (a.isEmpty && b.isEmpty) = true
  · rw [Bool.and_eq_true, List.isEmpty_iff, List.isEmpty_iff] at h
    obtain ⟨rfl, rfl⟩ := h
    decide +kernel
  · exact textsC_step a b h

theorem take_sub (s : Bs) : (takeD s false).1.length ≤ s.length ∧ (takeD (takeD s false).2 true).1.length ≤ s.length := by
  have h1 := takeD_len s false
  have h2 := takeD_len (takeD s false).2 true
  omega

theorem take_cons {c : UInt8} (r : Bs) (h : dig c = false) : ∃ q, (takeD (c :: r) false).1 = c :: q := by
  unfold takeD
  refine ⟨r.takeWhile fun c => dig c == false, ?_⟩
  simp [h]

theorem textR_cmp : ∀ (f g : Nat) (a b x y : Bs), a.length ≤ f → b.length ≤ g → a.length ≤ 255 → b.length ≤ 255 → (∀ c r, a = c :: r → dig c = false) → (∀ c r, b = c :: r → dig c = false) →
    cb (textR f a ++ x) (textR g b ++ y) = cor (textsC a b) (cb x y)
  | f, g, [], [], x, y, _, _, _, _, _, _ => by
    have e1 : textR f [] = [2] := by cases f <;> rfl
    have e2 : textR g [] = [2] := by cases g <;> rfl
    rw [e1, e2, textsC_nil, cor_zero]; exact cb_same 2 x y
  | f, 0, _, _ :: _, _, _, _, h, _, _, _, _ => by simp at h
  | 0, g, _ :: _, _, _, _, h, _, _, _, _, _ => by simp at h
  | f, g + 1, [], c :: r, x, y, _, _, _, _, _, hb => by
    have e1 : textR f [] = wts [] := by cases f <;> rfl
    obtain ⟨q, hq⟩ := take_cons r (hb c r rfl)
    have e0 : (takeD ([] : Bs) false).1 = [] := rfl
    have hw : wcmp [] (c :: q) ≠ 0 := by
      rw [wcmp_right]; exact cmpI_ne (by intro e; apply wb_ne c; rw [← UInt8.toNat_inj]; have : (2 : UInt8).toNat = 2 := rfl; omega)
    rw [textsC_step', hq, e0, cor_ne hw, e1]
    show cb (wts [] ++ x) ((headK (c :: r) ++ textR g (restD (c :: r))) ++ y) = _
    unfold headK
    rw [hq, List.append_assoc, List.append_assoc, wts_cmp, cor_ne hw, cor_ne hw]
  | f + 1, g, c :: r, [], x, y, _, _, _, _, ha, _ => by
    have e1 : textR g [] = wts [] := by cases g <;> rfl
    obtain ⟨q, hq⟩ := take_cons r (ha c r rfl)
    have e0 : (takeD ([] : Bs) false).1 = [] := rfl
    have hw : wcmp (c :: q) [] ≠ 0 := by
      rw [wcmp_left]; exact cmpI_ne (by intro e; apply wb_ne c; rw [← UInt8.toNat_inj]; have : (2 : UInt8).toNat = 2 := rfl; omega)
    rw [textsC_step', hq, e0, cor_ne hw, e1]
    show cb ((headK (c :: r) ++ textR f (restD (c :: r))) ++ x) (wts [] ++ y) = _
    unfold headK
    rw [hq, List.append_assoc, List.append_assoc, wts_cmp, cor_ne hw, cor_ne hw]
  | f + 1, g + 1, c :: r, d :: t, x, y, hf, hg, h1, h2, ha, hb => by
    have l1 := restD_lt (s := c :: r) (by simp)
    have l2 := restD_lt (s := d :: t) (by simp)
    have s1 := take_sub (c :: r)
    have s2 := take_sub (d :: t)
    rw [textsC_step']
    show cb ((headK (c :: r) ++ textR f (restD (c :: r))) ++ x) ((headK (d :: t) ++ textR g (restD (d :: t))) ++ y) = _
    unfold headK
    rw [List.append_assoc, List.append_assoc, List.append_assoc, List.append_assoc, wts_cmp, nk_cmp _ _ _ _ (by omega) (by omega),
      textR_cmp f g _ _ x y (by omega) (by omega) (by omega) (by omega) (fun _ _ h => restD_head h) (fun _ _ h => restD_head h), cor_assoc, cor_assoc]

theorem textKey_cmp (a b x y : Bs) (ha : a.length ≤ 255) (hb : b.length ≤ 255) : cb (textKey a ++ x) (textKey b ++ y) = cor (textsC a b) (cb x y) := by
  have l1 := restD_len a
  have l2 := restD_len b
  have s1 := take_sub a
  have s2 := take_sub b
  unfold textKey headK
  rw [textsC_step', List.append_assoc, List.append_assoc, List.append_assoc, List.append_assoc, wts_cmp, nk_cmp _ _ _ _ (by omega) (by omega),
    textR_cmp _ _ _ _ x y (by omega) (by omega) (by omega) (by omega) (fun _ _ h => restD_head h) (fun _ _ h => restD_head h), cor_assoc, cor_assoc]

def debKey (x : Bs × Bs × Bs) : Bs := nk x.1 ++ (textKey x.2.1 ++ textKey x.2.2)
theorem debKey_cmp (x y : Bs × Bs × Bs) (h1 : x.1.length ≤ 255) (h2 : x.2.1.length ≤ 255) (h3 : x.2.2.length ≤ 255) (g1 : y.1.length ≤ 255) (g2 : y.2.1.length ≤ 255) (g3 : y.2.2.length ≤ 255) :
    cb (debKey x) (debKey y) = debCmp x y := by
  unfold debKey debCmp
  rw [nk_cmp _ _ _ _ h1 g1, textKey_cmp _ _ _ _ h2 g2]
  have := textKey_cmp x.2.2 y.2.2 [] [] h3 g3
  rw [List.append_nil, List.append_nil, show cb [] [] = 0 from rfl, cor_right] at this
  rw [this]
  simp only [orI, cor_right]

/-! dotted versions -/

def dotAll (l : List Bs) : Bs := (l.map fun x => 1 :: nk x).flatten
def dotKey (l : List Bs) : Bs := dotAll l ++ [0]
theorem dotKey_cmp : ∀ p q : List Bs, (∀ x ∈ p, x.length ≤ 255) → (∀ x ∈ q, x.length ≤ 255) → cb (dotKey p) (dotKey q) = listCmp numbers p q
  | [], [], _, _ => rfl
  | [], b :: q, _, _ => rfl
  | b :: p, [], _, _ => rfl
  | a :: p, b :: q, hp, hq => by
    show cb (((1 :: nk a) ++ dotAll p) ++ [0]) (((1 :: nk b) ++ dotAll q) ++ [0]) = cor (numbers a b) (listCmp numbers p q)
    rw [List.append_assoc, List.append_assoc, List.cons_append, List.cons_append, cb_same, nk_cmp _ _ _ _ (hp a (by simp)) (hq b (by simp))]
    congr 1
    exact dotKey_cmp p q (fun x h => hp x (by simp [h])) (fun x h => hq x (by simp [h]))

/-! the key of a version -/

def keyV (n : Int) (v : Bs) : Bs :=
  if n = 1 then (match semParse v with | some x => semKey x | none => [])
  else if n = 2 then (match debParse v with | some x => debKey x | none => [])
  else dotKey (dotParse v)

theorem cut1_le (c : UInt8) (l : Bs) : (cut1 c l).1.length ≤ l.length ∧ (cut1 c l).2.1.length ≤ l.length := by
  unfold cut1
  split
  · exact ⟨(List.takeWhile_sublist _).length_le, by simp⟩
  · simp
theorem splitOn_in (c : UInt8) : ∀ (l x : Bs), x ∈ splitOn c l → x.length ≤ l.length
  | [], x, h => by simp [splitOn] at h; simp [h]
  | b :: l, x, h => by
    have ih := splitOn_in c l
    unfold splitOn at h
    split at h
    · rcases List.mem_cons.1 h with h | h
      · simp [h]
      · have := ih x h; simp; omega
    · split at h
      · simp at h; simp [h]
      · rename_i y r he
        rw [he] at ih
        rcases List.mem_cons.1 h with h | h
        · subst h; have := ih y (by simp); simp; omega
        · have := ih x (by simp [h]); simp; omega

theorem ident_tame {e : Bool} {x : Bs} (h : identOk e x = true) (hl : x.length ≤ 255) : Tame x := by
  refine ⟨hl, fun c hc e0 => ?_⟩
  subst e0
  unfold identOk only at h
  rw [Bool.and_eq_true, Bool.and_eq_true, List.all_eq_true] at h
  have := h.1.1 0 hc
  revert this; decide +kernel

theorem semParse_facts {s : Bs} {l pre : List Bs} (h : semParse s = some (l, pre)) : (∀ x ∈ l, x.length ≤ s.length) ∧ (∀ x ∈ pre, x.length ≤ s.length ∧ identOk true x = true) := by
  unfold semParse at h
  have h1 := cut1_le 43 s
  have h2 := cut1_le 45 (cut1 43 s).1
  split at h
  · cases h
  · rename_i hn
    split at h
    · simp only [Option.some.injEq, Prod.mk.injEq] at h
      obtain ⟨rfl, h⟩ := h
      refine ⟨fun x hx => by have := splitOn_in 46 _ x hx; omega, fun x hx => ?_⟩
      split at h
      · rename_i hc
        subst h
        refine ⟨by have := splitOn_in 46 _ x hx; omega, ?_⟩
        have hi : identifiers (cut1 45 (cut1 43 s).1).2.1 true = true := by
          rcases hb : identifiers (cut1 45 (cut1 43 s).1).2.1 true with _ | _
          · rw [hb, hc] at hn; simp at hn
          · rfl
        unfold identifiers at hi
        rw [List.all_eq_true] at hi
        exact hi x hx
      · subst h; simp at hx
    · cases h

theorem debParse_facts {s : Bs} {x : Bs × Bs × Bs} (h : debParse s = some x) : x.1.length ≤ s.length ∧ x.2.1.length ≤ s.length ∧ x.2.2.length ≤ s.length := by
  have ht : ∀ {ep t : Bs}, ep.length ≤ s.length → t.length ≤ s.length → debTail ep t = some x → x.1.length ≤ s.length ∧ x.2.1.length ≤ s.length ∧ x.2.2.length ≤ s.length := by
    intro ep t he hl h
    unfold debTail at h
    repeat' split at h
    all_goals first | (cases h; done) | (simp only [Option.some.injEq] at h; subst h; simp only [List.length_take, List.length_drop, List.length_nil]; omega)
  have h1 := cut1_le 58 s
  unfold debParse at h
  split at h
  · split at h
    · exact ht h1.1 h1.2 h
    · cases h
  · exact ht (by simp) (Nat.le_refl _) h

theorem dotParse_len {s x : Bs} (h : x ∈ dotParse s) : x.length ≤ s.length := by
  unfold dotParse stripEnd at h
  rw [List.mem_reverse] at h
  exact splitOn_in 46 s x (List.mem_reverse.1 ((List.dropWhile_sublist _).subset h))

theorem valid_short {n : Int} {v : Bs} (h : valid n v = true) : v.length ≤ 64 := by
  unfold valid at h; simp at h; omega

theorem getD_le {l : List Bs} {m : Nat} (h : ∀ x ∈ l, x.length ≤ m) (k : Nat) : (l.getD k []).length ≤ m := by
  rw [List.getD_eq_getElem?_getD]
  rcases hk : l[k]? with _ | x
  · simp
  · exact h x (List.mem_of_getElem? hk)

theorem key_law {n : Int} (hn : scheme n = true) {a b : Bs} (ha : valid n a = true) (hb : valid n b = true) : cb (keyV n a) (keyV n b) = cmpV n a b := by
  have l1 := valid_short ha
  have l2 := valid_short hb
  have hs : n = 1 ∨ n = 2 ∨ n = 3 := by unfold scheme at hn; simpa [or_assoc] using hn
  rcases hs with rfl | rfl | rfl
  · unfold keyV cmpV
    rw [if_pos rfl, if_pos rfl, if_pos rfl]
    obtain ⟨⟨la, pa⟩, e1⟩ := Option.isSome_iff_exists.1 (show (semParse a).isSome = true by unfold valid schOk at ha; simp at ha; exact ha.2)
    obtain ⟨⟨lb, pb⟩, e2⟩ := Option.isSome_iff_exists.1 (show (semParse b).isSome = true by unfold valid schOk at hb; simp at hb; exact hb.2)
    have f1 := semParse_facts e1
    have f2 := semParse_facts e2
    rw [e1, e2]
    exact semKey_cmp _ _ (fun k => by have := getD_le f1.1 k; simp only; omega) (fun k => by have := getD_le f2.1 k; simp only; omega)
      (fun z hz => ident_tame (f1.2 z hz).2 (by have := (f1.2 z hz).1; omega)) (fun z hz => ident_tame (f2.2 z hz).2 (by have := (f2.2 z hz).1; omega))
  · unfold keyV cmpV
    rw [if_neg (by decide), if_pos rfl, if_neg (by decide), if_pos rfl, if_neg (by decide), if_pos rfl]
    obtain ⟨x, e1⟩ := Option.isSome_iff_exists.1 (show (debParse a).isSome = true by unfold valid schOk at ha; simp at ha; exact ha.2)
    obtain ⟨y, e2⟩ := Option.isSome_iff_exists.1 (show (debParse b).isSome = true by unfold valid schOk at hb; simp at hb; exact hb.2)
    have f1 := debParse_facts e1
    have f2 := debParse_facts e2
    rw [e1, e2]
    exact debKey_cmp _ _ (by omega) (by omega) (by omega) (by omega) (by omega) (by omega)
  · unfold keyV cmpV
    rw [if_neg (by decide), if_neg (by decide), if_neg (by decide), if_neg (by decide), if_neg (by decide), if_neg (by decide)]
    exact dotKey_cmp _ _ (fun x hx => by have := dotParse_len hx; omega) (fun x hx => by have := dotParse_len hx; omega)

/-- what VersionTotal says of the order of three versions -/
theorem total_law {n : Int} (hn : scheme n = true) {a b c : Bs} (ha : valid n a = true) (hb : valid n b = true) (hc : valid n c = true) :
    cmpV n a b = - cmpV n b a ∧ cmpV n a a = 0 ∧ ¬ (cmpV n a b ≤ 0 ∧ cmpV n b c ≤ 0 ∧ 0 < cmpV n a c) ∧ ¬ (0 ≤ cmpV n a b ∧ 0 ≤ cmpV n b c ∧ cmpV n a c < 0) ∧ (cmpV n a b = 0 → cmpV n b c = cmpV n a c) := by
  rw [← key_law hn ha hb, ← key_law hn hb ha, ← key_law hn ha ha, ← key_law hn hb hc, ← key_law hn ha hc]
  refine ⟨cb_anti _ _, cb_refl _, fun h => ?_, fun h => ?_, fun h => ?_⟩
  · have := cb_trans _ _ _ h.1 h.2.1; omega
  · have h1 := cb_anti (keyV n a) (keyV n b)
    have h2 := cb_anti (keyV n b) (keyV n c)
    have h3 := cb_anti (keyV n a) (keyV n c)
    have := cb_trans (keyV n c) (keyV n b) (keyV n a) (by omega) (by omega)
    omega
  · rw [cb_eq h]
end Go.Proofs.YtpjjkbdkgaehkaaGreatDoor.V
namespace Go.Proofs.YtpjjkbdkgaehkaaGreatDoor.V

def verB (c : UInt8) : Bool := kind [46, 43, 126, 45, 58] c

theorem split_bytes {P : UInt8 → Prop} (c : UInt8) (hc : P c) : ∀ l : Bs, (∀ x ∈ splitOn c l, ∀ b ∈ x, P b) → ∀ b ∈ l, P b
  | [], _, b, hb => by simp at hb
  | a :: l, h, b, hb => by
    unfold splitOn at h
    by_cases e : a = c
    · subst e
      simp only [beq_self_eq_true, if_true] at h
      rcases List.mem_cons.1 hb with rfl | hb
      · exact hc
      · exact split_bytes a hc l (fun x hx => h x (by simp [hx])) b hb
    · rw [if_neg (by simpa using e)] at h
      rcases hs : splitOn c l with _ | ⟨y, r⟩
      · exact absurd hs (splitOn_ne c l)
      · rw [hs] at h
        simp only at h
        rcases List.mem_cons.1 hb with rfl | hb
        · exact h (b :: y) (by simp) b (by simp)
        · exact split_bytes c hc l (fun x hx z hz => by
            rw [hs] at hx
            rcases List.mem_cons.1 hx with rfl | hx
            · exact h (a :: x) (by simp) z (by simp [hz])
            · exact h x (by simp [hx]) z hz) b hb

theorem tw_whole (c : UInt8) : ∀ l : Bs, c ∈ l → l = l.takeWhile (· != c) ++ c :: l.drop ((l.takeWhile (· != c)).length + 1)
  | [], h => by simp at h
  | b :: l, h => by
    by_cases e : b = c
    · subst e; simp 
    · have hb : (b != c) = true := by simpa using e
      have ih := tw_whole c l (by
        rcases List.mem_cons.1 h with h | h
        · exact absurd h.symm e
        · exact h)
      rw [List.takeWhile_cons, if_pos hb, List.length_cons, List.drop_succ_cons, List.cons_append, ← ih]
theorem cut_whole (c : UInt8) (l : Bs) (h : (cut1 c l).2.2 = true) : l = (cut1 c l).1 ++ c :: (cut1 c l).2.1 := by
  unfold cut1 at *
  by_cases hc : c ∈ l
  · rw [if_pos hc]; exact tw_whole c l hc
  · rw [if_neg hc] at h; cases h
theorem cut_none (c : UInt8) (l : Bs) (h : (cut1 c l).2.2 = false) : (cut1 c l).1 = l := by
  unfold cut1 at *
  split
  · rename_i hc; rw [if_pos hc] at h; cases h
  · rfl
theorem cut_bytes {P : UInt8 → Prop} (c : UInt8) (hc : P c) (l : Bs) (h1 : ∀ b ∈ (cut1 c l).1, P b) (h2 : (cut1 c l).2.2 = true → ∀ b ∈ (cut1 c l).2.1, P b) : ∀ b ∈ l, P b := by
  intro b hb
  rcases h : (cut1 c l).2.2 with _ | _
  · rw [cut_none c l h] at h1; exact h1 b hb
  · rw [cut_whole c l h] at hb
    rcases List.mem_append.1 hb with g | g
    · exact h1 b g
    · rcases List.mem_cons.1 g with rfl | g
      · exact hc
      · exact h2 h b g

theorem only_in {p : UInt8 → Bool} {l : Bs} (h : only p l = true) : ∀ b ∈ l, p b = true := by
  unfold only at h
  rw [Bool.and_eq_true, List.all_eq_true] at h
  exact h.1
theorem kind_mono {o o' : Bs} (ho : ∀ c ∈ o, c ∈ o') {c : UInt8} (h : kind o c = true) : kind o' c = true := by
  unfold kind at *
  rw [Bool.or_eq_true] at *
  rcases h with h | h
  · exact .inl h
  · exact .inr (by simpa using ho c (by simpa using h))
theorem numb_in {x : Bs} {e : Bool} (h : numb x e = true) : ∀ b ∈ x, verB b = true := fun b hb => by
  unfold numb digits at h
  rw [Bool.and_eq_true] at h
  have := only_in h.1 b hb
  unfold verB kind; rw [this]; simp
theorem ident_in {x : Bs} {e : Bool} (h : identOk e x = true) : ∀ b ∈ x, verB b = true := fun b hb => by
  unfold identOk at h
  rw [Bool.and_eq_true] at h
  exact kind_mono (by simp) (only_in h.1 b hb)
theorem idents_in {s : Bs} {e : Bool} (h : identifiers s e = true) : ∀ b ∈ s, verB b = true := by
  unfold identifiers at h
  rw [List.all_eq_true] at h
  exact split_bytes 46 (by decide +kernel) s fun x hx => ident_in (h x hx)
theorem dot_in {s : Bs} (h : dotOk s = true) : ∀ b ∈ s, verB b = true := by
  unfold dotOk at h
  rw [List.all_eq_true] at h
  exact split_bytes 46 (by decide +kernel) s fun x hx => numb_in (h x hx)
theorem sem_in {s : Bs} (h : (semParse s).isSome = true) : ∀ b ∈ s, verB b = true := by
  unfold semParse at h
  split at h
  · cases h
  · rename_i hn
    split at h
    · rename_i ha
      rw [List.all_eq_true] at ha
      simp only [Bool.or_eq_true, Bool.and_eq_true, Bool.not_eq_true', not_or, not_and, Bool.not_eq_false] at hn
      obtain ⟨⟨h1, h2⟩, _⟩ := hn
      refine cut_bytes 43 (by decide +kernel) s (cut_bytes 45 (by decide +kernel) _ (split_bytes 46 (by decide +kernel) _ fun x hx => numb_in (ha x hx)) fun e => idents_in (h2 e)) fun e => idents_in (h1 e)
    · cases h
theorem debTail_in {ep s : Bs} (h : (debTail ep s).isSome = true) : ∀ b ∈ s, verB b = true := by
  unfold debTail at h
  split at h
  · split at h
    · rename_i g
      rw [Bool.and_eq_true] at g
      exact fun b hb => kind_mono (by simp) (only_in g.1 b hb)
    · cases h
  · rename_i h0
    split at h
    · rename_i g1
      split at h
      · rename_i g2
        rw [Bool.and_eq_true] at g2
        have e1 := fun b hb => kind_mono (o' := [46, 43, 126, 45, 58]) (by simp) (only_in g2.1 b hb)
        have e2 := fun b hb => kind_mono (o' := [46, 43, 126, 45, 58]) (by simp [allow]) (only_in g1 b hb)
        unfold lastDash at *
        rcases Lib.lastIndexByte_spec ⟨s.toArray⟩ 45 with ⟨e, _⟩ | ⟨i, hi, e, hc, _⟩
        · rw [e] at h0; simp at h0
        · rw [e] at e1 e2
          have hi' : i < s.length := by rw [show (ByteArray.mk s.toArray).size = s.length by show s.toArray.size = _; simp] at hi; exact hi
          intro b hb
          rw [← List.take_append_drop i s, List.drop_eq_getElem_cons hi'] at hb
          rcases List.mem_append.1 hb with q | q
          · exact e1 b (by simpa using q)
          · rcases List.mem_cons.1 q with rfl | q
            · have : s[i] = 45 := by
                have e3 : (ByteArray.mk s.toArray).data[i]! = s[i] := by simp [hi']
                rw [e3] at hc
                exact UInt8.toNat_inj.1 (show s[i].toNat = 45 by omega)
              rw [this]; decide +kernel
            · exact e2 b (by simpa using q)
      · cases h
    · cases h
theorem deb_in {s : Bs} (h : (debParse s).isSome = true) : ∀ b ∈ s, verB b = true := by
  unfold debParse at h
  split at h
  · rename_i hc
    split at h
    · rename_i hn
      exact cut_bytes 58 (by decide +kernel) s (numb_in hn) fun _ => debTail_in h
    · cases h
  · exact debTail_in h
theorem valid_in {n : Int} {v : Bs} (h : valid n v = true) : ∀ b ∈ v, verB b = true := by
  unfold valid schOk at h
  rw [Bool.and_eq_true] at h
  obtain ⟨_, h⟩ := h
  repeat' split at h
  · exact sem_in h
  · exact deb_in h
  · exact dot_in h
  · cases h
theorem valid_not {n : Int} {v : Bs} (h : valid n v = true) {c : UInt8} (hc : verB c = false) : c ∉ v := fun g => by
  rw [valid_in h c g] at hc; cases hc
theorem valid_scheme {n : Int} {v : Bs} (h : valid n v = true) : n = 1 ∨ n = 2 ∨ n = 3 := by
  unfold valid schOk at h
  rw [Bool.and_eq_true] at h
  obtain ⟨_, h⟩ := h
  repeat' split at h
  all_goals first | (cases h; done) | omega
end Go.Proofs.YtpjjkbdkgaehkaaGreatDoor.V
namespace Go.Proofs.YtpjjkbdkgaehkaaGreatDoor.V

/-! weights -/

def rwt (s : Bs) (i : Nat) : Int := if s.length ≤ i then 1 else if s.getD i 0 = 126 then 0 else if lett (s.getD i 0) then 2 + (s.getD i 0).toNat else 300 + (s.getD i 0).toNat
def phi (n : Int) : Int := if n ≤ 2 then n - 1 else if n < 128 then n + 2 else n + 172

def Ascii (s : Bs) : Prop := ∀ c ∈ s, c.toNat < 128

theorem or_128 {c : UInt8} (h : c.toNat < 128) : (c ||| 128).toNat = c.toNat + 128 := by
  have h2 : ∀ n : Fin 128, ((UInt8.ofNat n.val) ||| 128).toNat = n.val + 128 := by decide +kernel
  have := h2 ⟨c.toNat, h⟩
  rwa [show UInt8.ofNat c.toNat = c from UInt8.ofNat_toNat] at this

theorem lett_rng {c : UInt8} (h : lett c = true) : 65 ≤ c.toNat ∧ c.toNat ≤ 122 := by
  unfold lett letB at h; simp at h; omega

theorem wt_ge (s : Bs) (i : Nat) (h : Ascii s) : 1 ≤ wt s i := by
  unfold wt
  split
  · omega
  · split
    · omega
    · split
      · rename_i hl; have := lett_rng hl; omega
      · rename_i hk _ _
        have hm : s.getD i 0 ∈ s := by
          rw [List.getD_eq_getElem?_getD, List.getElem?_eq_getElem (by omega)]; exact List.getElem_mem _
        have := or_128 (h _ hm); omega

theorem rwt_phi (s : Bs) (i : Nat) (h : Ascii s) : rwt s i = phi (wt s i) := by
  unfold rwt wt
  split
  · rfl
  · split
    · rfl
    · split
      · rename_i hl
        have := lett_rng hl
        unfold phi
        rw [if_neg (by omega), if_pos (by omega)]; omega
      · rename_i hk _ _
        have hm : s.getD i 0 ∈ s := by
          rw [List.getD_eq_getElem?_getD, List.getElem?_eq_getElem (by omega)]; exact List.getElem_mem _
        have h1 := or_128 (h _ hm)
        have h2 := h _ hm
        unfold phi
        rw [h1, if_neg (by omega), if_neg (by omega)]; omega

theorem sgn_phi {a b : Int} (ha : 1 ≤ a) (hb : 1 ≤ b) : sgn (phi a - phi b) = Lib.compareInt a b := by
  unfold sgn phi Lib.compareInt
  repeat' split
  all_goals omega
theorem sgn_rwt (x y : Bs) (i : Nat) (hx : Ascii x) (hy : Ascii y) : sgn (rwt x i - rwt y i) = Lib.compareInt (wt x i) (wt y i) := by
  rw [rwt_phi x i hx, rwt_phi y i hy]
  exact sgn_phi (wt_ge x i hx) (wt_ge y i hy)
theorem sgn_zero {n : Int} : sgn n = 0 ↔ n = 0 := by unfold sgn; repeat' split <;> omega
theorem rwt_rng (s : Bs) (i : Nat) : 0 ≤ rwt s i ∧ rwt s i ≤ 555 := by
  unfold rwt
  have := (s.getD i 0).toNat_lt
  repeat' split
  all_goals omega

theorem Ascii.take {s : Bs} (h : Ascii s) (d : Bool) : Ascii (takeD s d).1 := fun c hc => h c ((List.takeWhile_sublist _).subset hc)
theorem Ascii.rest {s : Bs} (h : Ascii s) (d : Bool) : Ascii (takeD s d).2 := fun c hc => h c ((List.dropWhile_sublist _).subset hc)

/-! lists of numbers, the missing ones 0 -/

def pad : List Bs → List Bs → Int
  | [], [] => 0
  | [], b :: q => cor (numbers [48] b) (pad [] q)
  | a :: p, [] => cor (numbers a [48]) (pad p [])
  | a :: p, b :: q => cor (numbers a b) (pad p q)

theorem pad_step (x y : List Bs) (h : 0 < x.length ∨ 0 < y.length) : pad x y = cor (numbers (x.getD 0 [48]) (y.getD 0 [48])) (pad (x.drop 1) (y.drop 1)) := by
  cases x <;> cases y
  · simp at h
  all_goals
    rw [pad]
    rfl

theorem pad_skip : ∀ (k : Nat) (x y : List Bs), (∀ j, j < k → numbers (x.getD j [48]) (y.getD j [48]) = 0) → pad x y = pad (x.drop k) (y.drop k)
  | 0, _, _, _ => rfl
  | k + 1, x, y, h => by
    have h0 := h 0 (by omega)
    have e : pad x y = pad (x.drop 1) (y.drop 1) := by
      by_cases hl : 0 < x.length ∨ 0 < y.length
      · rw [pad_step x y hl, h0, cor_zero]
      · have hx : x = [] := List.eq_nil_of_length_eq_zero (by omega)
        have hy : y = [] := List.eq_nil_of_length_eq_zero (by omega)
        subst hx hy; rfl
    rw [e, pad_skip k (x.drop 1) (y.drop 1) (fun j hj => by
      have := h (j + 1) (by omega)
      simpa [List.getD_eq_getElem?_getD, List.getElem?_drop, Nat.add_comm] using this)]
    simp 

theorem pad_hit (k : Nat) (x y : List Bs) (h : ∀ j, j < k → numbers (x.getD j [48]) (y.getD j [48]) = 0) (hk : k < x.length ∨ k < y.length) (h0 : numbers (x.getD k [48]) (y.getD k [48]) ≠ 0) :
    pad x y = numbers (x.getD k [48]) (y.getD k [48]) := by
  rw [pad_skip k x y h, pad_step _ _ (by simp only [List.length_drop]; omega)]
  have e1 : (x.drop k).getD 0 [48] = x.getD k [48] := by simp [List.getD_eq_getElem?_getD, List.getElem?_drop]
  have e2 : (y.drop k).getD 0 [48] = y.getD k [48] := by simp [List.getD_eq_getElem?_getD, List.getElem?_drop]
  rw [e1, e2, cor_ne h0]
theorem pad_end (k : Nat) (x y : List Bs) (h : ∀ j, j < k → numbers (x.getD j [48]) (y.getD j [48]) = 0) (hk : ¬ (k < x.length ∨ k < y.length)) : pad x y = 0 := by
  rw [pad_skip k x y h, List.drop_of_length_le (by omega), List.drop_of_length_le (by omega), pad]

theorem stripEnd_cons (a : Bs) (l : List Bs) : stripEnd (a :: l) = if (stripEnd l).isEmpty && (value a).isEmpty then [] else a :: stripEnd l := by
  unfold stripEnd
  rw [List.reverse_cons, List.dropWhile_append]
  rcases h : (List.dropWhile (fun x => (value x).isEmpty) l.reverse) with _ | ⟨b, r⟩
  · rcases hv : (value a).isEmpty with _ | _ <;> simp [hv]
  · simp

theorem num_left {a b : Bs} (h : value a = []) : numbers a b = if (value b).isEmpty then 0 else -1 := by
  unfold numbers
  rw [h]
  rcases hb : value b with _ | ⟨c, r⟩
  · rfl
  · rw [List.isEmpty_cons, if_neg (by decide)]
    unfold Lib.compareInt
    rw [if_pos (by simp; try omega)]; rfl
theorem num_right {a b : Bs} (h : value b = []) : numbers a b = if (value a).isEmpty then 0 else 1 := by
  unfold numbers
  rw [h]
  rcases hb : value a with _ | ⟨c, r⟩
  · rfl
  · rw [List.isEmpty_cons, if_neg (by decide)]
    unfold Lib.compareInt
    rw [if_neg (by simp; try omega), if_pos (by simp; try omega)]; rfl

theorem lc_left (l : List Bs) : listCmp numbers [] l = if l.isEmpty then 0 else -1 := by cases l <;> rfl
theorem lc_right (l : List Bs) : listCmp numbers l [] = if l.isEmpty then 0 else 1 := by cases l <;> rfl

theorem pad_strip : ∀ x y : List Bs, pad x y = listCmp numbers (stripEnd x) (stripEnd y)
  | [], [] => by rw [pad]; rfl
  | [], b :: q => by
    have ih := pad_strip [] q
    have e : stripEnd [] = [] := rfl
    rw [e, lc_left] at ih ⊢
    rw [pad, num_left (a := [48]) (by decide), ih, stripEnd_cons]
    rcases (value b).isEmpty with _ | _ <;> rcases (stripEnd q).isEmpty with _ | _ <;> simp [cor]
  | a :: p, [] => by
    have ih := pad_strip p []
    have e : stripEnd [] = [] := rfl
    rw [e, lc_right] at ih ⊢
    rw [pad, num_right (b := [48]) (by decide), ih, stripEnd_cons]
    rcases (value a).isEmpty with _ | _ <;> rcases (stripEnd p).isEmpty with _ | _ <;> simp [cor]
  | a :: p, b :: q => by
    have ih := pad_strip p q
    rw [pad, stripEnd_cons, stripEnd_cons, ih]
    rcases hp : (stripEnd p).isEmpty && (value a).isEmpty with _ | _ <;> rcases hq : (stripEnd q).isEmpty && (value b).isEmpty with _ | _
    · simp [listCmp]
    · rw [Bool.and_eq_true, List.isEmpty_iff, List.isEmpty_iff] at hq
      rw [num_right hq.2, hq.1, lc_right, if_pos rfl, if_neg Bool.false_ne_true, lc_right]
      rcases h1 : (value a).isEmpty with _ | _ <;> rcases h2 : (stripEnd p).isEmpty with _ | _ <;> (rw [h1, h2] at hp; simp [cor] at hp ⊢)
    · rw [Bool.and_eq_true, List.isEmpty_iff, List.isEmpty_iff] at hp
      rw [num_left hp.2, hp.1, lc_left, if_pos rfl, if_neg Bool.false_ne_true, lc_left]
      rcases h1 : (value b).isEmpty with _ | _ <;> rcases h2 : (stripEnd q).isEmpty with _ | _ <;> (rw [h1, h2] at hq; simp [cor] at hq ⊢)
    · rw [Bool.and_eq_true, List.isEmpty_iff, List.isEmpty_iff] at hp hq
      rw [num_left hp.2, hp.1, hq.1, hq.2, if_pos rfl, if_pos rfl]
      rfl

theorem pad_dots (a b : Bs) : pad (splitOn 46 a) (splitOn 46 b) = dotCmp a b := pad_strip _ _

/-! what a Debian version is made of -/

theorem kind_ascii {o : Bs} (ho : Ascii o) {c : UInt8} (h : kind o c = true) : c.toNat < 128 := by
  unfold kind at h
  rw [Bool.or_eq_true, Bool.or_eq_true] at h
  rcases h with (h | h) | h
  · have := lett_rng h; omega
  · unfold dig digB at h; simp at h; omega
  · exact ho c (by simpa using h)
theorem only_ascii {o : Bs} (ho : Ascii o) {s : Bs} (h : only (kind o) s = true) : Ascii s := fun c hc => by
  unfold only at h
  rw [Bool.and_eq_true, List.all_eq_true] at h
  exact kind_ascii ho (h.1 c hc)
theorem ascii_lit (l : Bs) (h : l.all (fun c => decide (c.toNat < 128)) = true) : Ascii l := fun c hc => by
  rw [List.all_eq_true] at h
  simpa using h c hc

theorem debTail_ascii {ep s : Bs} {x : Bs × Bs × Bs} (h : debTail ep s = some x) : Ascii x.2.1 ∧ Ascii x.2.2 := by
  have a1 : Ascii [46, 43, 126, 45] := ascii_lit _ (by decide)
  have a2 : Ascii allow := ascii_lit _ (by decide)
  unfold debTail at h
  split at h
  · split at h
    · rename_i hk
      simp only [Option.some.injEq] at h; subst h
      rw [Bool.and_eq_true] at hk
      exact ⟨only_ascii a1 hk.1, fun c hc => by simp at hc⟩
    · cases h
  · split at h
    · rename_i hr
      split at h
      · rename_i hk
        simp only [Option.some.injEq] at h; subst h
        rw [Bool.and_eq_true] at hk
        exact ⟨only_ascii a1 hk.1, only_ascii a2 hr⟩
      · cases h
    · cases h
theorem debParse_ascii {v : Bs} {x : Bs × Bs × Bs} (h : debParse v = some x) : Ascii x.2.1 ∧ Ascii x.2.2 := by
  unfold debParse at h
  split at h
  · split at h
    · exact debTail_ascii h
    · cases h
  · exact debTail_ascii h

/-- a number counts by its value -/
theorem numbers_value {a b c d : Bs} (h : value a = value c) (g : value b = value d) : numbers a b = numbers c d := by
  unfold numbers; rw [h, g]
end Go.Proofs.YtpjjkbdkgaehkaaGreatDoor.V
