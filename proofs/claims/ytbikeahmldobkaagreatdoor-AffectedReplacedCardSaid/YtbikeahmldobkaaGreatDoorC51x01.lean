/-
  Lemmas for the law.
-/
import Derived.Lib.Split
import Derived.Lib.LastIndexLaws
import Derived.Lib.Small
import Derived.Lib.SlTrimSet
import Derived.Lib.LastIndexByte
set_option linter.all false
namespace Go.Proofs.YtbikeahmldobkaaGreatDoor.V
abbrev Bs := List UInt8
def digB (n : Int) : Bool := decide (48 ≤ n) && decide (n ≤ 57)
def letB (n : Int) : Bool := (decide (97 ≤ n) && decide (n ≤ 122)) || (decide (65 ≤ n) && decide (n ≤ 90))
def dig (c : UInt8) : Bool := digB c.toNat
def lett (c : UInt8) : Bool := letB c.toNat
def only (p : UInt8 → Bool) (l : Bs) : Bool := l.all p && !l.isEmpty
def digits (l : Bs) : Bool := only dig l
def numb (l : Bs) (exact : Bool) : Bool := digits l && !(exact && decide (1 < l.length) && l.getD 0 0 == 48)
def value (l : Bs) : Bs := l.dropWhile (· == 48)
def cor (x y : Int) : Int := if x = 0 then y else x
def numbers (a b : Bs) : Int := cor (Lib.compareInt (value a).length (value b).length) (Lib.compareBytes (value a) (value b))
def jt (a b : Bs) : Int := if digits a && digits b then numbers a b else if digits a then -1 else if digits b then 1 else Lib.compareBytes a b
def nk (s : Bs) : Bs := UInt8.ofNat (value s).length :: value s
theorem zby {s : Bs} {p : UInt8 → Bool} {k : Nat} (h : k < s.length) : (s.take (k + 1)).all p = ((s.take k).all p && p s[k]) := by
 rw [List.take_succ_eq_append_getElem h, List.all_append]; simp
theorem znw {s : Bs} {p : UInt8 → Bool} {k : Nat} (h : k < s.length) (hp : p s[k] = false) : only p s = false := by
 unfold only
 rw [Bool.and_eq_false_iff]; left
 rw [List.all_eq_false]
 exact ⟨s[k], List.getElem_mem h, by simp [hp]⟩
def zl (c : UInt8) : Bs → List Bs
 | [] => [[]]
 | b :: l => if b == c then [] :: zl c l else match zl c l with
  | [] => [[b]]
  | x :: r => (b :: x) :: r
theorem zr4 (c : UInt8) : ∀ l, zl c l ≠ []
 | [] => by simp [zl]
 | b :: l => by
  unfold zl
  split
  ·simp
  ·split <;> simp
def cut1 (c : UInt8) (l : Bs) : Bs × Bs × Bool :=
 if c ∈ l then (l.takeWhile (· != c), l.drop ((l.takeWhile (· != c)).length + 1), true) else (l, [], false)
theorem index_one (l : Bs) (c : UInt8) : Lib.index l [c] = if c ∈ l then ((l.takeWhile (· != c)).length : Int) else -1 := by
 induction l with
 | nil => simp [Lib.index]
 | cons b l ih =>
  unfold Lib.index
  by_cases h : b = c
  ·subst h; simp [List.isPrefixOf]
  ·have h1 : ([c] : Bs).isPrefixOf (b :: l) = false := by simp [List.isPrefixOf]; exact fun e => h e.symm
   rw [h1, ih]
   have h3 : (b != c) = true := by simpa using h
   have h5 : ¬ c = b := fun e => h e.symm
   by_cases hc : c ∈ l
   ·simp only [hc, if_true, List.mem_cons, or_true, List.takeWhile_cons, h3, List.length_cons]
    have : ((((l.takeWhile (· != c)).length : Nat) : Int) == -1) = false := by rw [beq_eq_false_iff_ne]; omega
    simp [this]
   ·simp [hc, h5]
theorem zn2 (l : Bs) (p : UInt8 → Bool) : l.take (l.takeWhile p).length = l.takeWhile p := by
 induction l with
 | nil => rfl
 | cons b l ih => by_cases hb : p b = true <;> simp [hb, ih]
theorem cut_one (l : Bs) (c : UInt8) : Lib.cut l [c] = cut1 c l := by
 unfold Lib.cut cut1
 rw [index_one]
 by_cases h : c ∈ l
 ·simp only [h, if_true]
  rw [if_pos (by omega)]
  simp only [Int.toNat_natCast, zn2, List.length_singleton]
 ·simp only [h, if_false]
  rw [if_neg (by decide)]
theorem zr0 {l : Bs} {c : UInt8} (h : c ∉ l) : Lib.count l [c] = 0 := Lib.count_miss (by rw [index_one, if_neg h])
theorem zaf {c : UInt8} : ∀ {l : Bs}, c ∉ l → zl c l = [l]
 | [], _ => rfl
 | b :: l, h => by
  rw [List.mem_cons, not_or] at h
  have h1 : (b == c) = false := by simpa using fun e => h.1 e.symm
  simp [zl, h1, zaf h.2]
theorem ww {c : UInt8} : ∀ {l : Bs}, c ∈ l → zl c l = l.takeWhile (· != c) :: zl c (l.drop ((l.takeWhile (· != c)).length + 1))
 | [], h => by simp at h
 | b :: l, h => by
  by_cases hb : b = c
  ·subst hb; simp [zl]
  ·have h3 : (b != c) = true := by simpa using hb
   have h4 : (b == c) = false := by simpa using hb
   have h2 : c ∈ l := by
    rw [List.mem_cons] at h
    rcases h with h | h
    ·exact absurd h.symm hb
    ·exact h
   rw [zl, h4, ww h2]
   simp [h3]
theorem tw_lt {l : Bs} {c : UInt8} (h : c ∈ l) : (l.takeWhile (· != c)).length < l.length := by
 induction l with
 | nil => simp at h
 | cons b l ih =>
  by_cases hb : (b != c) = true
  ·have h2 : c ∈ l := by
    rw [List.mem_cons] at h
    rcases h with h | h
    ·subst h; simp at hb
    ·exact h
   simpa [List.takeWhile_cons, hb] using ih h2
  ·simp [hb]
theorem zk0 (c : UInt8) : ∀ (n : Nat) (l : Bs), l.length ≤ n → Lib.split l [c] = zl c l
 | n, l, hn => by
  unfold Lib.split
  by_cases h : c ∈ l
  ·have hi : Lib.index l [c] = ((l.takeWhile (· != c)).length : Nat) := by rw [index_one, if_pos h]
   rw [Lib.count_hit (by simp) hi, Nat.add_comm, ww h]
   unfold Lib.splitK
   have g0 : ¬ (Lib.index l [c] == -1) = true := by
    rw [hi, beq_iff_eq]; omega
   rw [if_neg g0, hi]
   have g1 := tw_lt h
   simp only [Int.toNat_natCast, List.length_singleton, Nat.add_zero, zn2]
   congr 1
   cases n with
   | zero => omega
   | succ n => exact zk0 c n _ (by rw [List.length_drop]; omega)
  ·rw [zr0 h, zaf h]; rfl
theorem vp (l : Bs) (c : UInt8) : decide (0 ≤ Lib.indexByte l c) = decide (c ∈ l) := by
 induction l with
 | nil => simp [Lib.indexByte]
 | cons b l ih =>
  have ih' : (0 ≤ Lib.indexByte l c) ↔ c ∈ l := by simpa using ih
  have g0 := Lib.indexByte_ge l c
  unfold Lib.indexByte
  by_cases h : b = c
  ·subst h; simp
  ·have h1 : (b == c) = false := by simpa using h
   have h5 : ¬ c = b := fun e => h e.symm
   rw [h1]
   by_cases hm : Lib.indexByte l c = -1
   ·have : c ∉ l := fun e => by have := ih'.2 e; omega
    simp [hm, this, h5]
   ·have hc : c ∈ l := ih'.1 (by omega)
    simp [hm, hc]; omega
def kind (other : Bs) (c : UInt8) : Bool := lett c || dig c || decide (c ∈ other)
theorem zrm {l : Bs} (h : l.getD 0 0 = 48) (h0 : 0 < l.length) : value l = value (l.drop 1) := by
 cases l with
 | nil => simp at h0
 | cons b l =>
  have : b = 48 := h
  subst this
  simp [value]
theorem zp4 {l : Bs} (h : l.getD 0 0 ≠ 48) : value l = l := by
 cases l with
 | nil => rfl
 | cons b l =>
  have : (b == 48) = false := by simpa using h
  simp [value, this]
def sgn (n : Int) : Int := if n < 0 then -1 else if 0 < n then 1 else 0
def orI : List Int → Int
 | [] => 0
 | x :: l => cor x (orI l)
theorem zc5 : ∀ (xs : List Int) (k : Nat), (∀ j, j < k → xs.getD j 0 = 0) → orI xs = orI (xs.drop k)
 | _, 0, _ => rfl
 | [], k + 1, _ => by simp
 | x :: l, k + 1, h => by
  have h0 : x = 0 := h 0 (by omega)
  rw [List.drop_succ_cons, ← zc5 l k (fun j hj => h (j + 1) (by omega))]
  subst h0; rfl
end Go.Proofs.YtbikeahmldobkaaGreatDoor.V
namespace Go.Proofs.YtbikeahmldobkaaGreatDoor.V
def ju (exact : Bool) (x : Bs) : Bool := only (kind [45]) x && !(digits x && !numb x exact)
def identifiers (s : Bs) (exact : Bool) : Bool := (zl 46 s).all (ju exact)
def zeh (s : Bs) : Bool := (zl 46 s).all fun x => numb x false
def zo (v : Bs) : Option (List Bs × List Bs) :=
 if ((cut1 43 v).2.2 && !identifiers (cut1 43 v).2.1 false) || ((cut1 45 (cut1 43 v).1).2.2 && !identifiers (cut1 45 (cut1 43 v).1).2.1 true) || (zl 46 (cut1 45 (cut1 43 v).1).1).length != 3 then none
 else if (zl 46 (cut1 45 (cut1 43 v).1).1).all (fun x => numb x true) then
  some (zl 46 (cut1 45 (cut1 43 v).1).1, if (cut1 45 (cut1 43 v).1).2.2 then zl 46 (cut1 45 (cut1 43 v).1).2.1 else [])
 else none
end Go.Proofs.YtbikeahmldobkaaGreatDoor.V
namespace Go.Proofs.YtbikeahmldobkaaGreatDoor.V
theorem orI_hit (xs : List Int) (k : Nat) (h : ∀ j, j < k → xs.getD j 0 = 0) (hk : k < xs.length) (h0 : xs.getD k 0 ≠ 0) : orI xs = xs.getD k 0 := by
 rw [zc5 xs k h]
 have e : xs.drop k = xs.getD k 0 :: xs.drop (k + 1) := by
  rw [List.drop_eq_getElem_cons hk]; simp [List.getD, List.getElem?_eq_getElem hk]
 rw [e]; unfold orI cor; rw [if_neg h0]
theorem orI_zero (xs : List Int) (h : ∀ j, j < xs.length → xs.getD j 0 = 0) : orI xs = 0 := by
 rw [zc5 xs xs.length h]; simp [orI]
def jb {α : Type} (f : α → α → Int) : List α → List α → Int
 | [], [] => 0
 | [], _ :: _ => -1
 | _ :: _, [] => 1
 | a :: as, b :: bs => cor (f a b) (jb f as bs)
def zx (s : Bs) (d : Bool) : Bs × Bs := (s.takeWhile fun c => dig c == d, s.dropWhile fun c => dig c == d)
def wt (s : Bs) (i : Nat) : Int := if s.length ≤ i then 2 else if s.getD i 0 = 126 then 1 else if lett (s.getD i 0) then (s.getD i 0).toNat else ((s.getD i 0) ||| 128).toNat
def wcmp (x y : Bs) : Int := orI ((List.range (max x.length y.length)).map fun i => Lib.compareInt (wt x i) (wt y i))
def texts : Nat → Bs → Bs → Int
 | 0, _, _ => 0
 | f + 1, a, b => if a.isEmpty && b.isEmpty then 0 else
  cor (wcmp (zx a false).1 (zx b false).1)
   (cor (numbers (zx (zx a false).2 true).1 (zx (zx b false).2 true).1)
     (texts f (zx (zx a false).2 true).2 (zx (zx b false).2 true).2))
theorem span_len (p : UInt8 → Bool) (s : Bs) : (s.takeWhile p).length + (s.dropWhile p).length = s.length := by
 induction s with
 | nil => rfl
 | cons b l ih => by_cases h : p b = true <;> simp [h] <;> omega
theorem ql (s : Bs) (d : Bool) : (zx s d).1.length + (zx s d).2.length = s.length := span_len _ s
theorem xv (s : Bs) (h : s ≠ []) : (zx (zx s false).2 true).2.length < s.length := by
 have h1 := ql s false
 have h2 := ql (zx s false).2 true
 have h3 : 0 < (zx s false).1.length + (zx (zx s false).2 true).1.length := by
  cases s with
  | nil => exact absurd rfl h
  | cons b l =>
   by_cases hd : dig b = true
   ·simp [zx, hd]
   ·simp [zx, hd]; omega
 omega
theorem zkg : ∀ (f g : Nat) (a b : Bs), a.length + b.length < f → a.length + b.length < g → texts f a b = texts g a b
 | 0, _, _, _, h, _ => by omega
 | _, 0, _, _, _, h => by omega
 | f + 1, g + 1, a, b, hf, hg => by
  unfold texts
  by_cases he : (a.isEmpty && b.isEmpty) = true
  ·simp [he]
  ·rw [if_neg he, if_neg he]
   congr 2
   have ha := ql a false
   have g1 := ql (zx a false).2 true
   have hb := ql b false
   have hb2 := ql (zx b false).2 true
   have g0 : a ≠ [] ∨ b ≠ [] := by
    rcases a with _ | ⟨x, a⟩
    ·rcases b with _ | ⟨y, b⟩
     ·simp at he
     ·exact .inr (by simp)
    ·exact .inl (by simp)
   have hlt : (zx (zx a false).2 true).2.length + (zx (zx b false).2 true).2.length < a.length + b.length := by
    rcases g0 with h | h
    ·have := xv a h; omega
    ·have := xv b h; omega
   exact zkg f g _ _ (by omega) (by omega)
def qi (a b : Bs) : Int := texts (a.length + b.length + 1) a b
theorem zqv : qi [] [] = 0 := rfl
theorem zdn (a b : Bs) (h : ¬ (a.isEmpty && b.isEmpty) = true) : qi a b = cor (wcmp (zx a false).1 (zx b false).1)
      (cor (numbers (zx (zx a false).2 true).1 (zx (zx b false).2 true).1)
        (qi (zx (zx a false).2 true).2 (zx (zx b false).2 true).2)) := by
 unfold qi
 rw [texts, if_neg h]
 congr 2
 have g0 : a ≠ [] ∨ b ≠ [] := by
  rcases a with _ | ⟨x, a⟩
  ·rcases b with _ | ⟨y, b⟩
   ·simp at h
   ·exact .inr (by simp)
  ·exact .inl (by simp)
 have ha := ql a false
 have g1 := ql (zx a false).2 true
 have hb := ql b false
 have hb2 := ql (zx b false).2 true
 refine zkg _ _ _ _ ?_ (by omega)
 rcases g0 with h | h
 ·have := xv a h; omega
 ·have := xv b h; omega
theorem ue (y : Int) : cor 0 y = y := rfl
theorem js {x : Int} (h : x ≠ 0) (y : Int) : cor x y = x := by unfold cor; rw [if_neg h]
theorem zso (s : Bs) (p : UInt8 → Bool) (k : Nat) (hk : k ≤ s.length) (h1 : (s.take k).all p = true) (h2 : k = s.length ∨ ∃ h : k < s.length, p s[k] = false) :
  s.take k = s.takeWhile p ∧ s.drop k = s.dropWhile p := by
 induction s generalizing k with
 | nil => simp
 | cons b l ih =>
  cases k with
  | zero =>
   rcases h2 with h2 | ⟨h, h2⟩
   ·simp at h2
   ·have h2 : p b = false := h2
    simp [h2]
  | succ k =>
   simp at h1
   have h3 := ih k (by simpa using hk) (by simpa using h1.2) (by
     rcases h2 with h2 | ⟨h, h2⟩
     · left; simpa using h2
     · right; exact ⟨by simpa using h, by simpa using h2⟩)
   simp [h1.1, h3.1, h3.2]
def allow : Bs := [46, 43, 126]
def ja (s : Bs) : Int := Lib.lastIndexByte ⟨s.toArray⟩ 45
def jc (ep s : Bs) : Option (Bs × Bs × Bs) :=
 if ja s < 0 then
  if only (kind [46, 43, 126, 45]) s && dig (s.getD 0 0) then some (ep, s, []) else none
 else if only (kind allow) (s.drop ((ja s).toNat + 1)) then
  if only (kind [46, 43, 126, 45]) (s.take (ja s).toNat) && dig ((s.take (ja s).toNat).getD 0 0) then some (ep, s.take (ja s).toNat, s.drop ((ja s).toNat + 1)) else none
 else none
def zw (v : Bs) : Option (Bs × Bs × Bs) :=
 if (cut1 58 v).2.2 then if numb (cut1 58 v).1 false then jc (cut1 58 v).1 (cut1 58 v).2.1 else none
 else jc [] v
def qd (l : List Bs) : List Bs := (l.reverse.dropWhile fun x => (value x).isEmpty).reverse
def jk (v : Bs) : List Bs := qd (zl 46 v)
def zaw (a b : Bs) : Int := jb numbers (jk a) (jk b)
def yv (x y : Bs × Bs × Bs) : Int := orI [numbers x.1 y.1, qi x.2.1 y.2.1, qi x.2.2 y.2.2]
theorem zkm (l : List Bs) (x : Bs) (h : (value x).isEmpty = true) : qd (l ++ [x]) = qd l := by
 unfold qd; simp [h]
theorem zkk (l : List Bs) (x : Bs) (h : (value x).isEmpty = false) : qd (l ++ [x]) = l ++ [x] := by
 unfold qd; simp [h]
def zcs (p q : List Bs) : Int := if p.isEmpty || q.isEmpty then Lib.compareInt q.length p.length else jb jt p q
def je (x y : List Bs × List Bs) : Int :=
 cor (orI [numbers (x.1.getD 0 []) (y.1.getD 0 []), numbers (x.1.getD 1 []) (y.1.getD 1 []), numbers (x.1.getD 2 []) (y.1.getD 2 [])]) (zcs x.2 y.2)
def xl (n : Int) (v : Bs) : Bool := if n = 1 then (zo v).isSome else if n = 2 then (zw v).isSome else if n = 3 then zeh v else false
def cmpV (n : Int) (a b : Bs) : Int :=
 if n = 1 then (match zo a, zo b with | some x, some y => je x y | _, _ => 0)
 else if n = 2 then (match zw a, zw b with | some x, some y => yv x y | _, _ => 0)
 else zaw a b
def valid (n : Int) (v : Bs) : Bool := decide (1 ≤ v.length) && decide (v.length ≤ 64) && xl n v
def scheme (n : Int) : Bool := n == 1 || n == 2 || n == 3
def qc (n : Int) (a b : Bs) : Int × Int := if !scheme n then (0, 14) else if valid n a && valid n b then (cmpV n a b, 0) else (0, 1)
end Go.Proofs.YtbikeahmldobkaaGreatDoor.V
namespace Go.Proofs.YtbikeahmldobkaaGreatDoor.V
def ym (x : Bs) : Bool := !(x == []) && !(x == [46]) && !(x == [46, 46])
def ud (s : Bs) : Bool := (zl 47 s).all ym
def jo (s : Bs) : Bool := decide (1 ≤ s.length) && decide (s.length ≤ 200) && !decide ((0 : UInt8) ∈ s) && ud s
theorem zr1 {s : Bs} (h : (47 : UInt8) ∉ s) : ud s = ym s := by
 unfold ud; rw [zaf h]; simp
theorem zrn {s : Bs} (h : (47 : UInt8) ∈ s) : ud s = (ym (s.takeWhile (· != 47)) && ud (s.drop ((s.takeWhile (· != 47)).length + 1))) := by
 unfold ud; rw [ww h]; simp
theorem zu2 (s : Bs) : ud s = if (cut1 47 s).2.2 then ym (cut1 47 s).1 && ud (cut1 47 s).2.1 else ym (cut1 47 s).1 := by
 unfold cut1
 by_cases h : (47 : UInt8) ∈ s
 ·rw [if_pos h]; simp only [if_true]; exact zrn h
 ·rw [if_neg h]; simp only [Bool.false_eq_true, if_false]; exact zr1 h
theorem zfo (x : Bs) : (x = [] ∧ ym x = false) ∨ (x = [46] ∧ ym x = false) ∨ (x = [46, 46] ∧ ym x = false) ∨ ((x == []) = false ∧ (x == [46]) = false ∧ (x == [46, 46]) = false ∧ ym x = true) := by
 unfold ym
 by_cases h1 : x = []
 ·subst h1; exact .inl ⟨rfl, rfl⟩
 ·by_cases h2 : x = [46]
  ·subst h2; exact .inr (.inl ⟨rfl, rfl⟩)
  ·by_cases h3 : x = [46, 46]
   ·subst h3; exact .inr (.inr (.inl ⟨rfl, rfl⟩))
   ·have e1 : (x == []) = false := beq_eq_false_iff_ne.2 h1
    have e2 : (x == [46]) = false := beq_eq_false_iff_ne.2 h2
    have e3 : (x == [46, 46]) = false := beq_eq_false_iff_ne.2 h3
    exact .inr (.inr (.inr ⟨e1, e2, e3, by rw [e1, e2, e3]; rfl⟩))
end Go.Proofs.YtbikeahmldobkaaGreatDoor.V
