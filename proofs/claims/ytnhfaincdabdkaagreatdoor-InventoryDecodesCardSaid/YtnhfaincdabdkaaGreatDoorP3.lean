/-
  Plain: documents decoded, by the program and by the reference.
  Plain Lean, no program: what the three schemes take for versions.
  Plain Lean, no program: paths.
  Plain Lean, no program: the comparisons of the three schemes.
-/
import Derived.Test.YtnhfaincdabdkaaGreatDoorPG
import Derived.Lib.LastIndexByte
namespace Go.Proofs.YtnhfaincdabdkaaGreatDoor
open Go.RowKit

namespace V
def wordsP : List Bs → Option (List Bs)
  | [] => some []
  | s :: r => match unwR s with | none => none | some w => (wordsP r).map (w :: ·)
/-- the error of a line -/
def chk (l : List Bs) : Int := if l.length = 0 then 1 else if 120 < l.length then 3 else if (l.all fun w => decide (w.length ≤ 32768)) = true then 0 else 3
def linesT : List Bs → Option (List (List Bs))
  | [] => none
  | [x] => if x = [] then some [] else none
  | x :: y :: r => match wordsP (splitOn 32 x) with | none => none | some l => if chk l = 0 then (linesT (y :: r)).map (l :: ·) else none
/-- what Decode returns -/
def decP (b : Bs) : List (List Bs) × Int := if 262144 < b.length then ([], 3) else match linesT (splitOn 10 b) with | some ls => if ls.length ≤ 1000 then (ls, 0) else ([], 2) | none => ([], 2)
def rowsP : List Bs → Option (List (List Bs))
  | [] => some []
  | x :: r => match wordsP (splitOn 32 x) with | none => none | some l => (rowsP r).map (l :: ·)
def firstBad : List (List Bs) → Int
  | [] => 0
  | l :: r => if chk l = 0 then firstBad r else chk l
/-- the error of Encode -/
def encE (ls : List (List Bs)) : Int := if 1000 < ls.length then 3 else if firstBad ls = 0 then (if 262144 < docSz ls ls.length then 3 else 0) else firstBad ls
theorem chk_cases (l : List Bs) : chk l = 0 ∨ chk l = 1 ∨ chk l = 3 := by
  unfold chk
  split
  · exact .inr (.inl rfl)
  · split
    · exact .inr (.inr rfl)
    · split
      · exact .inl rfl
      · exact .inr (.inr rfl)
theorem chk_zero {l : List Bs} : chk l = 0 ↔ 0 < l.length ∧ l.length ≤ 120 ∧ ∀ w ∈ l, w.length ≤ 32768 := by
  unfold chk
  split
  · simp; omega
  · split
    · simp; omega
    · split
      · rename_i h
        simp only [List.all_eq_true, decide_eq_true_eq] at h
        exact ⟨fun _ => ⟨by omega, by omega, h⟩, fun _ => rfl⟩
      · rename_i h
        simp only [List.all_eq_true, decide_eq_true_eq] at h
        exact ⟨fun e => by simp at e, fun e => absurd e.2.2 h⟩
theorem firstBad_zero : ∀ {ls : List (List Bs)}, firstBad ls = 0 ↔ ∀ l ∈ ls, chk l = 0
  | [] => by simp [firstBad]
  | l :: r => by
    unfold firstBad
    split
    · rename_i h
      rw [firstBad_zero]
      simp [h]
    · rename_i h
      simp [h]
theorem firstBad_at {ls : List (List Bs)} {k : Nat} (hk : k < ls.length) (h : firstBad ls = firstBad (ls.drop k)) : (chk ls[k] = 0 → firstBad ls = firstBad (ls.drop (k + 1))) ∧ (¬ chk ls[k] = 0 → firstBad ls = chk ls[k]) := by
  rw [List.drop_eq_getElem_cons hk, firstBad] at h
  refine ⟨fun e => ?_, fun e => ?_⟩
  · rw [h, if_pos e]
  · rw [h, if_neg e]
theorem docOk_iff {ls : List (List Bs)} (h : encE ls = 0) : DocOk ls := by
  unfold encE at h
  split at h
  · cases h
  · split at h
    · rename_i h1 h2
      split at h
      · cases h
      · exact ⟨by omega, fun l hl => chk_zero.1 (firstBad_zero.1 h2 l hl), by omega⟩
    · rename_i h2
      exact absurd h h2
theorem linesT_cons {x : Bs} {t : List Bs} (h : t ≠ []) : linesT (x :: t) = match wordsP (splitOn 32 x) with | none => none | some l => if chk l = 0 then (linesT t).map (l :: ·) else none := by
  cases t with
  | nil => exact absurd rfl h
  | cons y r => rfl
theorem linesT_rows : ∀ rows : List Bs, linesT (rows ++ [[]]) = match rowsP rows with | none => none | some ls => if firstBad ls = 0 then some ls else none
  | [] => by simp [linesT, rowsP, firstBad]
  | x :: r => by
    rw [List.cons_append, linesT_cons (by simp), rowsP, linesT_rows r]
    cases hw : wordsP (splitOn 32 x) with
    | none => rfl
    | some l =>
      simp only
      cases hr : rowsP r with
      | none => simp
      | some ls =>
        simp only [Option.map_some]
        by_cases h1 : chk l = 0
        · have e : firstBad (l :: ls) = firstBad ls := by rw [firstBad, if_pos h1]
          simp only [e, h1, if_true]
          by_cases h2 : firstBad ls = 0
          · simp [h2]
          · simp [h2]
        · have e : firstBad (l :: ls) = chk l := by rw [firstBad, if_neg h1]
          simp [e, h1]
theorem splitOn_end (c : UInt8) : ∀ b : Bs, splitOn c (b ++ [c]) = splitOn c b ++ [[]]
  | [] => by simp [splitOn]
  | a :: b => by
    rw [List.cons_append, splitOn, splitOn, splitOn_end c b]
    split
    · rfl
    · cases hq : splitOn c b with
      | nil => exact absurd hq (splitOn_ne c b)
      | cons y r => rfl
theorem splitOn_last (c : UInt8) : ∀ {b : Bs}, b ≠ [] → b.getLast? ≠ some c → ∃ t x, splitOn c b = t ++ [x] ∧ x ≠ []
  | [], h, _ => absurd rfl h
  | [a], _, h => by
    have : (a == c) = false := by rw [beq_eq_false_iff_ne]; intro e; subst e; simp at h
    exact ⟨[], [a], by simp [splitOn, this], by simp⟩
  | a :: a2 :: b, _, h => by
    obtain ⟨t, x, he, hx⟩ := splitOn_last c (b := a2 :: b) (by simp) (by simpa using h)
    rw [splitOn, he]
    split
    · exact ⟨[] :: t, x, rfl, hx⟩
    · cases t with
      | nil => exact ⟨[], a :: x, rfl, by simp⟩
      | cons y r => exact ⟨(a :: y) :: r, x, rfl, hx⟩
theorem linesT_bad : ∀ (t : List Bs) {x : Bs}, x ≠ [] → linesT (t ++ [x]) = none
  | [], x, h => by simp [linesT, h]
  | y :: t, x, h => by
    rw [List.cons_append, linesT_cons (by simp), linesT_bad t h]
    cases wordsP (splitOn 32 y) with
    | none => rfl
    | some l => simp
theorem words_sz : ∀ {r : List Bs} {l : List Bs}, wordsP r = some l → l.length = r.length ∧ (l.map fun w => sizeW w + 1).sum = (r.map fun s => s.length + 1).sum
  | [], l, h => by cases h; exact ⟨rfl, rfl⟩
  | s :: r, l, h => by
    rw [wordsP] at h
    cases hs : unwR s with
    | none => rw [hs] at h; cases h
    | some w =>
      rw [hs] at h
      simp only at h
      cases hr : wordsP r with
      | none => rw [hr] at h; cases h
      | some l' =>
        rw [hr] at h
        cases h
        have ih := words_sz hr
        have hw := word_len w
        rw [unwR_word hs] at hw
        simp only [List.length_cons, List.map_cons, List.sum_cons, ih.1, ih.2, hw]
        exact ⟨trivial, trivial⟩
theorem split_sz (c : UInt8) : ∀ s : Bs, ((splitOn c s).map fun x => x.length + 1).sum = s.length + 1
  | [] => by simp [splitOn]
  | a :: s => by
    have ih := split_sz c s
    rw [splitOn]
    split
    · simp [ih]; omega
    · cases hq : splitOn c s with
      | nil => exact absurd hq (splitOn_ne c s)
      | cons y r =>
        rw [hq] at ih
        simp only [List.map_cons, List.sum_cons, List.length_cons] at ih ⊢
        omega
theorem line_sz {x : Bs} {l : List Bs} (h : wordsP (splitOn 32 x) = some l) : lineSz l l.length = x.length + 1 := by
  unfold lineSz
  rw [List.take_length, (words_sz h).2, split_sz]
theorem rows_sz : ∀ {r : List Bs} {ls : List (List Bs)}, rowsP r = some ls → (ls.map fun l => lineSz l l.length).sum = (r.map fun s => s.length + 1).sum
  | [], ls, h => by cases h; rfl
  | x :: r, ls, h => by
    rw [rowsP] at h
    cases hs : wordsP (splitOn 32 x) with
    | none => rw [hs] at h; cases h
    | some l =>
      rw [hs] at h
      simp only at h
      cases hr : rowsP r with
      | none => rw [hr] at h; cases h
      | some ls' =>
        rw [hr] at h
        cases h
        simp only [List.map_cons, List.sum_cons, rows_sz hr, line_sz hs]
theorem doc_sz {b : Bs} {ls : List (List Bs)} (h : rowsP (splitOn 10 b) = some ls) : docSz ls ls.length = b.length + 1 := by
  unfold docSz
  rw [List.take_length, rows_sz h, split_sz]
/-- the reference's way -/
theorem decP_ref {b : Bs} (hl : (b ++ [10]).length ≤ 262144) : decP (b ++ [10]) = match rowsP (splitOn 10 b) with | none => ([], 2) | some ls => if encE ls = 0 then (ls, 0) else ([], 2) := by
  unfold decP
  rw [if_neg (by omega), splitOn_end, linesT_rows]
  cases hr : rowsP (splitOn 10 b) with
  | none => rfl
  | some ls =>
    simp only
    have hz := doc_sz hr
    have hlen : (b ++ [(10 : UInt8)]).length = b.length + 1 := by simp
    unfold encE
    by_cases h1 : firstBad ls = 0
    · rw [if_pos h1, if_pos h1, if_neg (show ¬ 262144 < docSz ls ls.length by omega)]
      simp only
      by_cases h2 : ls.length ≤ 1000
      · rw [if_pos h2, if_neg (show ¬ 1000 < ls.length by omega), if_pos rfl]
      · rw [if_neg h2, if_pos (show 1000 < ls.length by omega), if_neg (by decide)]
    · rw [if_neg h1, if_neg h1]
      simp only
      by_cases h2 : 1000 < ls.length
      · rw [if_pos h2, if_neg (by decide)]
      · rw [if_neg h2, if_neg h1]
theorem decP_empty : decP [] = ([], 0) := by simp [decP, splitOn, linesT]
theorem decP_open {b : Bs} (h0 : b ≠ []) (h : b.getLast? ≠ some 10) (hl : b.length ≤ 262144) : decP b = ([], 2) := by
  obtain ⟨t, x, he, hx⟩ := splitOn_last 10 h0 h
  unfold decP
  rw [if_neg (by omega), he, linesT_bad t hx]
end V
end Go.Proofs.YtnhfaincdabdkaaGreatDoor
namespace Go.Proofs.YtnhfaincdabdkaaGreatDoor.V

def identOk (exact : Bool) (x : Bs) : Bool := only (kind [45]) x && !(digits x && !numb x exact)
def identifiers (s : Bs) (exact : Bool) : Bool := (splitOn 46 s).all (identOk exact)
def dotOk (s : Bs) : Bool := (splitOn 46 s).all fun x => numb x false

/-- the parts of a semantic version -/
def semParse (v : Bs) : Option (List Bs × List Bs) :=
  if ((cut1 43 v).2.2 && !identifiers (cut1 43 v).2.1 false) || ((cut1 45 (cut1 43 v).1).2.2 && !identifiers (cut1 45 (cut1 43 v).1).2.1 true) || (splitOn 46 (cut1 45 (cut1 43 v).1).1).length != 3 then none
  else if (splitOn 46 (cut1 45 (cut1 43 v).1).1).all (fun x => numb x true) then
    some (splitOn 46 (cut1 45 (cut1 43 v).1).1, if (cut1 45 (cut1 43 v).1).2.2 then splitOn 46 (cut1 45 (cut1 43 v).1).2.1 else [])
  else none
end Go.Proofs.YtnhfaincdabdkaaGreatDoor.V
namespace Go.Proofs.YtnhfaincdabdkaaGreatDoor.V

def partOk (x : Bs) : Bool := !(x == []) && !(x == [46]) && !(x == [46, 46])
def partsOk (s : Bs) : Bool := (splitOn 47 s).all partOk
def pathOk (s : Bs) : Bool := decide (1 ≤ s.length) && decide (s.length ≤ 200) && !decide ((0 : UInt8) ∈ s) && partsOk s

theorem parts_none {s : Bs} (h : (47 : UInt8) ∉ s) : partsOk s = partOk s := by
  unfold partsOk; rw [splitOn_none h]; simp
theorem parts_some {s : Bs} (h : (47 : UInt8) ∈ s) : partsOk s = (partOk (s.takeWhile (· != 47)) && partsOk (s.drop ((s.takeWhile (· != 47)).length + 1))) := by
  unfold partsOk; rw [splitOn_some h]; simp
/-- by the cut at the first slash -/
theorem parts_cut (s : Bs) : partsOk s = if (cut1 47 s).2.2 then partOk (cut1 47 s).1 && partsOk (cut1 47 s).2.1 else partOk (cut1 47 s).1 := by
  unfold cut1
  by_cases h : (47 : UInt8) ∈ s
  · rw [if_pos h]; simp only [if_true]; exact parts_some h
  · rw [if_neg h]; simp only [Bool.false_eq_true, if_false]; exact parts_none h
theorem partOk_cases (x : Bs) : (x = [] ∧ partOk x = false) ∨ (x = [46] ∧ partOk x = false) ∨ (x = [46, 46] ∧ partOk x = false) ∨ ((x == []) = false ∧ (x == [46]) = false ∧ (x == [46, 46]) = false ∧ partOk x = true) := by
  unfold partOk
  by_cases h1 : x = []
  · subst h1; exact .inl ⟨rfl, rfl⟩
  · by_cases h2 : x = [46]
    · subst h2; exact .inr (.inl ⟨rfl, rfl⟩)
    · by_cases h3 : x = [46, 46]
      · subst h3; exact .inr (.inr (.inl ⟨rfl, rfl⟩))
      · have e1 : (x == []) = false := beq_eq_false_iff_ne.2 h1
        have e2 : (x == [46]) = false := beq_eq_false_iff_ne.2 h2
        have e3 : (x == [46, 46]) = false := beq_eq_false_iff_ne.2 h3
        exact .inr (.inr (.inr ⟨e1, e2, e3, by rw [e1, e2, e3]; rfl⟩))
end Go.Proofs.YtnhfaincdabdkaaGreatDoor.V
namespace Go.Proofs.YtnhfaincdabdkaaGreatDoor.V

theorem orI_hit (xs : List Int) (k : Nat) (h : ∀ j, j < k → xs.getD j 0 = 0) (hk : k < xs.length) (h0 : xs.getD k 0 ≠ 0) : orI xs = xs.getD k 0 := by
  rw [orI_skip xs k h]
  have e : xs.drop k = xs.getD k 0 :: xs.drop (k + 1) := by
    rw [List.drop_eq_getElem_cons hk]; simp [List.getD, List.getElem?_eq_getElem hk]
  rw [e]; unfold orI cor; rw [if_neg h0]

theorem orI_zero (xs : List Int) (h : ∀ j, j < xs.length → xs.getD j 0 = 0) : orI xs = 0 := by
  rw [orI_skip xs xs.length h]; simp [orI]

/-- two lists compared element by element; a longer one is greater -/
def listCmp {α : Type} (f : α → α → Int) : List α → List α → Int
  | [], [] => 0
  | [], _ :: _ => -1
  | _ :: _, [] => 1
  | a :: as, b :: bs => cor (f a b) (listCmp f as bs)

def takeD (s : Bs) (d : Bool) : Bs × Bs := (s.takeWhile fun c => dig c == d, s.dropWhile fun c => dig c == d)

/-- the place of a byte of a prefix in the order of bytes, or of its end -/
def wt (s : Bs) (i : Nat) : Int := if s.length ≤ i then 2 else if s.getD i 0 = 126 then 1 else if lett (s.getD i 0) then (s.getD i 0).toNat else ((s.getD i 0) ||| 128).toNat

def wcmp (x y : Bs) : Int := orI ((List.range (max x.length y.length)).map fun i => Lib.compareInt (wt x i) (wt y i))

def texts : Nat → Bs → Bs → Int
  | 0, _, _ => 0
  | f + 1, a, b => if a.isEmpty && b.isEmpty then 0 else
    cor (wcmp (takeD a false).1 (takeD b false).1)
      (cor (numbers (takeD (takeD a false).2 true).1 (takeD (takeD b false).2 true).1)
        (texts f (takeD (takeD a false).2 true).2 (takeD (takeD b false).2 true).2))

theorem span_len (p : UInt8 → Bool) (s : Bs) : (s.takeWhile p).length + (s.dropWhile p).length = s.length := by
  induction s with
  | nil => rfl
  | cons b l ih => by_cases h : p b = true <;> simp [h] <;> omega

theorem takeD_len (s : Bs) (d : Bool) : (takeD s d).1.length + (takeD s d).2.length = s.length := span_len _ s

theorem takeD_two (s : Bs) (h : s ≠ []) : (takeD (takeD s false).2 true).2.length < s.length := by
  have h1 := takeD_len s false
  have h2 := takeD_len (takeD s false).2 true
  have h3 : 0 < (takeD s false).1.length + (takeD (takeD s false).2 true).1.length := by
    cases s with
    | nil => exact absurd rfl h
    | cons b l =>
      by_cases hd : dig b = true
      · simp [takeD, hd]
      · simp [takeD, hd]; omega
  omega

/-- enough is enough -/
theorem texts_fuel : ∀ (f g : Nat) (a b : Bs), a.length + b.length < f → a.length + b.length < g → texts f a b = texts g a b
  | 0, _, _, _, h, _ => by omega
  | _, 0, _, _, _, h => by omega
  | f + 1, g + 1, a, b, hf, hg => by
    unfold texts
    by_cases he : (a.isEmpty && b.isEmpty) = true
    · simp [he]
    · rw [if_neg he, if_neg he]
      congr 2
      have ha := takeD_len a false
      have ha2 := takeD_len (takeD a false).2 true
      have hb := takeD_len b false
      have hb2 := takeD_len (takeD b false).2 true
      have hne : a ≠ [] ∨ b ≠ [] := by
        rcases a with _ | ⟨x, a⟩
        · rcases b with _ | ⟨y, b⟩
          · simp at he
          · exact .inr (by simp)
        · exact .inl (by simp)
      have hlt : (takeD (takeD a false).2 true).2.length + (takeD (takeD b false).2 true).2.length < a.length + b.length := by
        rcases hne with h | h
        · have := takeD_two a h; omega
        · have := takeD_two b h; omega
      exact texts_fuel f g _ _ (by omega) (by omega)

def textsC (a b : Bs) : Int := texts (a.length + b.length + 1) a b

theorem textsC_nil : textsC [] [] = 0 := rfl
theorem textsC_step (a b : Bs) (h : ¬ (a.isEmpty && b.isEmpty) = true) : textsC a b = cor (wcmp (takeD a false).1 (takeD b false).1)
      (cor (numbers (takeD (takeD a false).2 true).1 (takeD (takeD b false).2 true).1)
        (textsC (takeD (takeD a false).2 true).2 (takeD (takeD b false).2 true).2)) := by
  unfold textsC
  rw [texts, if_neg h]
  congr 2
  have hne : a ≠ [] ∨ b ≠ [] := by
    rcases a with _ | ⟨x, a⟩
    · rcases b with _ | ⟨y, b⟩
      · simp at h
      · exact .inr (by simp)
    · exact .inl (by simp)
  have ha := takeD_len a false
  have ha2 := takeD_len (takeD a false).2 true
  have hb := takeD_len b false
  have hb2 := takeD_len (takeD b false).2 true
  refine texts_fuel _ _ _ _ ?_ (by omega)
  rcases hne with h | h
  · have := takeD_two a h; omega
  · have := takeD_two b h; omega

theorem cor_zero (y : Int) : cor 0 y = y := rfl
theorem cor_ne {x : Int} (h : x ≠ 0) (y : Int) : cor x y = x := by unfold cor; rw [if_neg h]

/-- the part of a text before a byte that is (is no) digit, found by counting -/
theorem take_at (s : Bs) (p : UInt8 → Bool) (k : Nat) (hk : k ≤ s.length) (h1 : (s.take k).all p = true) (h2 : k = s.length ∨ ∃ h : k < s.length, p s[k] = false) :
    s.take k = s.takeWhile p ∧ s.drop k = s.dropWhile p := by
  induction s generalizing k with
  | nil => simp
  | cons b l ih =>
    cases k with
    | zero =>
      rcases h2 with h2 | ⟨h, h2⟩
      · simp at h2
      · have h2 : p b = false := h2
        simp [h2]
    | succ k =>
      simp at h1
      have h3 := ih k (by simpa using hk) (by simpa using h1.2) (by
        rcases h2 with h2 | ⟨h, h2⟩
        · left; simpa using h2
        · right; exact ⟨by simpa using h, by simpa using h2⟩)
      simp [h1.1, h3.1, h3.2]

def allow : Bs := [46, 43, 126]
def lastDash (s : Bs) : Int := Lib.lastIndexByte ⟨s.toArray⟩ 45
/-- upstream version and revision -/
def debTail (ep s : Bs) : Option (Bs × Bs × Bs) :=
  if lastDash s < 0 then
    if only (kind [46, 43, 126, 45]) s && dig (s.getD 0 0) then some (ep, s, []) else none
  else if only (kind allow) (s.drop ((lastDash s).toNat + 1)) then
    if only (kind [46, 43, 126, 45]) (s.take (lastDash s).toNat) && dig ((s.take (lastDash s).toNat).getD 0 0) then some (ep, s.take (lastDash s).toNat, s.drop ((lastDash s).toNat + 1)) else none
  else none
def debParse (v : Bs) : Option (Bs × Bs × Bs) :=
  if (cut1 58 v).2.2 then if numb (cut1 58 v).1 false then debTail (cut1 58 v).1 (cut1 58 v).2.1 else none
  else debTail [] v

/-- the elements without those at the end that count as 0 -/
def stripEnd (l : List Bs) : List Bs := (l.reverse.dropWhile fun x => (value x).isEmpty).reverse
def dotParse (v : Bs) : List Bs := stripEnd (splitOn 46 v)
def dotCmp (a b : Bs) : Int := listCmp numbers (dotParse a) (dotParse b)
def debCmp (x y : Bs × Bs × Bs) : Int := orI [numbers x.1 y.1, textsC x.2.1 y.2.1, textsC x.2.2 y.2.2]

theorem stripEnd_drop (l : List Bs) (x : Bs) (h : (value x).isEmpty = true) : stripEnd (l ++ [x]) = stripEnd l := by
  unfold stripEnd; simp [h]
theorem stripEnd_stop (l : List Bs) (x : Bs) (h : (value x).isEmpty = false) : stripEnd (l ++ [x]) = l ++ [x] := by
  unfold stripEnd; simp [h]

def preCmp (p q : List Bs) : Int := if p.isEmpty || q.isEmpty then Lib.compareInt q.length p.length else listCmp identC p q
def semCmp (x y : List Bs × List Bs) : Int :=
  cor (orI [numbers (x.1.getD 0 []) (y.1.getD 0 []), numbers (x.1.getD 1 []) (y.1.getD 1 []), numbers (x.1.getD 2 []) (y.1.getD 2 [])]) (preCmp x.2 y.2)

def schOk (n : Int) (v : Bs) : Bool := if n = 1 then (semParse v).isSome else if n = 2 then (debParse v).isSome else if n = 3 then dotOk v else false
def cmpV (n : Int) (a b : Bs) : Int :=
  if n = 1 then (match semParse a, semParse b with | some x, some y => semCmp x y | _, _ => 0)
  else if n = 2 then (match debParse a, debParse b with | some x, some y => debCmp x y | _, _ => 0)
  else dotCmp a b
def valid (n : Int) (v : Bs) : Bool := decide (1 ≤ v.length) && decide (v.length ≤ 64) && schOk n v

def scheme (n : Int) : Bool := n == 1 || n == 2 || n == 3
/-- the order of two strings, and the error -/
def compareR (n : Int) (a b : Bs) : Int × Int := if !scheme n then (0, 14) else if valid n a && valid n b then (cmpV n a b, 0) else (0, 1)
end Go.Proofs.YtnhfaincdabdkaaGreatDoor.V
