/-
  Plain Lean, no program: the comparisons of the three schemes.
-/
import Derived.Test.YtoiabbhppbghdaaP2
import Derived.Lib.LastIndexByte
namespace Go.Proofs.Ytoiabbhppbghdaa.V

theorem orI_hit (xs : List Int) (k : Nat) (h : ∀ j, j < k → xs.getD j 0 = 0) (hk : k < xs.length) (h0 : xs.getD k 0 ≠ 0) : orI xs = xs.getD k 0 := by
  rw [orI_skip xs k h]
  have e : xs.drop k = xs.getD k 0 :: xs.drop (k + 1) := by
    rw [List.drop_eq_getElem_cons hk]; simp [List.getD, List.getElem?_eq_getElem hk]
  rw [e]; unfold orI cor; rw [if_neg h0]

theorem orI_zero (xs : List Int) (h : ∀ j, j < xs.length → xs.getD j 0 = 0) : orI xs = 0 := by
  rw [orI_skip xs xs.length h]; simp [orI]

/-- two lists compared element by element; a longer one is greater -/
def listCmp {α : Type} (f : α → α → Int) : List α → List α → Int
  | [], [] => 0
  | [], _ :: _ => -1
  | _ :: _, [] => 1
  | a :: as, b :: bs => cor (f a b) (listCmp f as bs)

def takeD (s : Bs) (d : Bool) : Bs × Bs := (s.takeWhile fun c => dig c == d, s.dropWhile fun c => dig c == d)

/-- the place of a byte of a prefix in the order of bytes, or of its end -/
def wt (s : Bs) (i : Nat) : Int := if s.length ≤ i then 2 else if s.getD i 0 = 126 then 1 else if lett (s.getD i 0) then (s.getD i 0).toNat else ((s.getD i 0) ||| 128).toNat

def wcmp (x y : Bs) : Int := orI ((List.range (max x.length y.length)).map fun i => Lib.compareInt (wt x i) (wt y i))

def texts : Nat → Bs → Bs → Int
  | 0, _, _ => 0
  | f + 1, a, b => if a.isEmpty && b.isEmpty then 0 else
    cor (wcmp (takeD a false).1 (takeD b false).1)
      (cor (numbers (takeD (takeD a false).2 true).1 (takeD (takeD b false).2 true).1)
        (texts f (takeD (takeD a false).2 true).2 (takeD (takeD b false).2 true).2))

theorem span_len (p : UInt8 → Bool) (s : Bs) : (s.takeWhile p).length + (s.dropWhile p).length = s.length := by
  induction s with
  | nil => rfl
  | cons b l ih => by_cases h : p b = true <;> simp [List.takeWhile_cons, List.dropWhile_cons, h] <;> omega

theorem takeD_len (s : Bs) (d : Bool) : (takeD s d).1.length + (takeD s d).2.length = s.length := span_len _ s

theorem takeD_two (s : Bs) (h : s ≠ []) : (takeD (takeD s false).2 true).2.length < s.length := by
  have h1 := takeD_len s false
  have h2 := takeD_len (takeD s false).2 true
  have h3 : 0 < (takeD s false).1.length + (takeD (takeD s false).2 true).1.length := by
    cases s with
    | nil => exact absurd rfl h
    | cons b l =>
      by_cases hd : dig b = true
      · simp [takeD, List.takeWhile_cons, List.dropWhile_cons, hd]
      · simp [takeD, List.takeWhile_cons, hd]; omega
  omega

/-- enough is enough -/
theorem texts_fuel : ∀ (f g : Nat) (a b : Bs), a.length + b.length < f → a.length + b.length < g → texts f a b = texts g a b
  | 0, _, _, _, h, _ => by omega
  | _, 0, _, _, _, h => by omega
  | f + 1, g + 1, a, b, hf, hg => by
    unfold texts
    by_cases he : (a.isEmpty && b.isEmpty) = true
    · simp [he]
    · rw [if_neg he, if_neg he]
      congr 2
      have ha := takeD_len a false
      have ha2 := takeD_len (takeD a false).2 true
      have hb := takeD_len b false
      have hb2 := takeD_len (takeD b false).2 true
      have hne : a ≠ [] ∨ b ≠ [] := by
        rcases a with _ | ⟨x, a⟩
        · rcases b with _ | ⟨y, b⟩
          · simp at he
          · exact .inr (by simp)
        · exact .inl (by simp)
      have hlt : (takeD (takeD a false).2 true).2.length + (takeD (takeD b false).2 true).2.length < a.length + b.length := by
        rcases hne with h | h
        · have := takeD_two a h; omega
        · have := takeD_two b h; omega
      exact texts_fuel f g _ _ (by omega) (by omega)

def textsC (a b : Bs) : Int := texts (a.length + b.length + 1) a b

theorem textsC_nil : textsC [] [] = 0 := rfl
theorem textsC_step (a b : Bs) (h : ¬ (a.isEmpty && b.isEmpty) = true) : textsC a b = cor (wcmp (takeD a false).1 (takeD b false).1)
      (cor (numbers (takeD (takeD a false).2 true).1 (takeD (takeD b false).2 true).1)
        (textsC (takeD (takeD a false).2 true).2 (takeD (takeD b false).2 true).2)) := by
  unfold textsC
  rw [texts, if_neg h]
  congr 2
  have hne : a ≠ [] ∨ b ≠ [] := by
    rcases a with _ | ⟨x, a⟩
    · rcases b with _ | ⟨y, b⟩
      · simp at h
      · exact .inr (by simp)
    · exact .inl (by simp)
  have ha := takeD_len a false
  have ha2 := takeD_len (takeD a false).2 true
  have hb := takeD_len b false
  have hb2 := takeD_len (takeD b false).2 true
  refine texts_fuel _ _ _ _ ?_ (by omega)
  rcases hne with h | h
  · have := takeD_two a h; omega
  · have := takeD_two b h; omega

theorem cor_zero (y : Int) : cor 0 y = y := rfl
theorem cor_ne {x : Int} (h : x ≠ 0) (y : Int) : cor x y = x := by unfold cor; rw [if_neg h]

/-- the part of a text before a byte that is (is no) digit, found by counting -/
theorem take_at (s : Bs) (p : UInt8 → Bool) (k : Nat) (hk : k ≤ s.length) (h1 : (s.take k).all p = true) (h2 : k = s.length ∨ ∃ h : k < s.length, p s[k] = false) :
    s.take k = s.takeWhile p ∧ s.drop k = s.dropWhile p := by
  induction s generalizing k with
  | nil => simp
  | cons b l ih =>
    cases k with
    | zero =>
      rcases h2 with h2 | ⟨h, h2⟩
      · simp at h2
      · have h2 : p b = false := h2
        simp [List.takeWhile_cons, List.dropWhile_cons, h2]
    | succ k =>
      simp at h1
      have h3 := ih k (by simpa using hk) (by simpa using h1.2) (by
        rcases h2 with h2 | ⟨h, h2⟩
        · left; simpa using h2
        · right; exact ⟨by simpa using h, by simpa using h2⟩)
      simp [List.takeWhile_cons, List.dropWhile_cons, h1.1, h3.1, h3.2]

def allow : Bs := [46, 43, 126]
def lastDash (s : Bs) : Int := Lib.lastIndexByte ⟨s.toArray⟩ 45
/-- upstream version and revision -/
def debTail (ep s : Bs) : Option (Bs × Bs × Bs) :=
  if lastDash s < 0 then
    if only (kind [46, 43, 126, 45]) s && dig (s.getD 0 0) then some (ep, s, []) else none
  else if only (kind allow) (s.drop ((lastDash s).toNat + 1)) then
    if only (kind [46, 43, 126, 45]) (s.take (lastDash s).toNat) && dig ((s.take (lastDash s).toNat).getD 0 0) then some (ep, s.take (lastDash s).toNat, s.drop ((lastDash s).toNat + 1)) else none
  else none
def debParse (v : Bs) : Option (Bs × Bs × Bs) :=
  if (cut1 58 v).2.2 then if numb (cut1 58 v).1 false then debTail (cut1 58 v).1 (cut1 58 v).2.1 else none
  else debTail [] v

/-- the elements without those at the end that count as 0 -/
def stripEnd (l : List Bs) : List Bs := (l.reverse.dropWhile fun x => (value x).isEmpty).reverse
def dotParse (v : Bs) : List Bs := stripEnd (splitOn 46 v)
def dotCmp (a b : Bs) : Int := listCmp numbers (dotParse a) (dotParse b)
def debCmp (x y : Bs × Bs × Bs) : Int := orI [numbers x.1 y.1, textsC x.2.1 y.2.1, textsC x.2.2 y.2.2]

theorem stripEnd_drop (l : List Bs) (x : Bs) (h : (value x).isEmpty = true) : stripEnd (l ++ [x]) = stripEnd l := by
  unfold stripEnd; simp [h]
theorem stripEnd_stop (l : List Bs) (x : Bs) (h : (value x).isEmpty = false) : stripEnd (l ++ [x]) = l ++ [x] := by
  unfold stripEnd; simp [h]

def preCmp (p q : List Bs) : Int := if p.isEmpty || q.isEmpty then Lib.compareInt q.length p.length else listCmp identC p q
def semCmp (x y : List Bs × List Bs) : Int :=
  cor (orI [numbers (x.1.getD 0 []) (y.1.getD 0 []), numbers (x.1.getD 1 []) (y.1.getD 1 []), numbers (x.1.getD 2 []) (y.1.getD 2 [])]) (preCmp x.2 y.2)

def schOk (n : Int) (v : Bs) : Bool := if n = 1 then (semParse v).isSome else if n = 2 then (debParse v).isSome else if n = 3 then dotOk v else false
def cmpV (n : Int) (a b : Bs) : Int :=
  if n = 1 then (match semParse a, semParse b with | some x, some y => semCmp x y | _, _ => 0)
  else if n = 2 then (match debParse a, debParse b with | some x, some y => debCmp x y | _, _ => 0)
  else dotCmp a b
def valid (n : Int) (v : Bs) : Bool := decide (1 ≤ v.length) && decide (v.length ≤ 64) && schOk n v

def scheme (n : Int) : Bool := n == 1 || n == 2 || n == 3
/-- the order of two strings, and the error -/
def compareR (n : Int) (a b : Bs) : Int × Int := if !scheme n then (0, 14) else if valid n a && valid n b then (cmpV n a b, 0) else (0, 1)
end Go.Proofs.Ytoiabbhppbghdaa.V
