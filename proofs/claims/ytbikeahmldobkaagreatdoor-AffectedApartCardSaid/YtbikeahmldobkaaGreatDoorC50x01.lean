/-
  Lemmas for the law.
-/
import Derived.Lib.Split
import Derived.Lib.LastIndexLaws
import Derived.Lib.Small
import Derived.Lib.SlTrimSet
import Derived.Lib.LastIndexByte
set_option linter.all false
namespace Go.Proofs.YtbikeahmldobkaaGreatDoor.V
abbrev Bs := List UInt8
def digB (n : Int) : Bool := decide (48 ≤ n) && decide (n ≤ 57)
def letB (n : Int) : Bool := (decide (97 ≤ n) && decide (n ≤ 122)) || (decide (65 ≤ n) && decide (n ≤ 90))
def dig (c : UInt8) : Bool := digB c.toNat
def lett (c : UInt8) : Bool := letB c.toNat
def only (p : UInt8 → Bool) (l : Bs) : Bool := l.all p && !l.isEmpty
def digits (l : Bs) : Bool := only dig l
def numb (l : Bs) (exact : Bool) : Bool := digits l && !(exact && decide (1 < l.length) && l.getD 0 0 == 48)
def value (l : Bs) : Bs := l.dropWhile (· == 48)
def cor (x y : Int) : Int := if x = 0 then y else x
def numbers (a b : Bs) : Int := cor (Lib.compareInt (value a).length (value b).length) (Lib.compareBytes (value a) (value b))
def kf (a b : Bs) : Int := if digits a && digits b then numbers a b else if digits a then -1 else if digits b then 1 else Lib.compareBytes a b
def nk (s : Bs) : Bs := UInt8.ofNat (value s).length :: value s
theorem zcn {s : Bs} {p : UInt8 → Bool} {k : Nat} (h : k < s.length) : (s.take (k + 1)).all p = ((s.take k).all p && p s[k]) := by
 rw [List.take_succ_eq_append_getElem h, List.all_append]; simp
theorem zoq {s : Bs} {p : UInt8 → Bool} {k : Nat} (h : k < s.length) (hp : p s[k] = false) : only p s = false := by
 unfold only
 rw [Bool.and_eq_false_iff]; left
 rw [List.all_eq_false]
 exact ⟨s[k], List.getElem_mem h, by simp [hp]⟩
def zm (c : UInt8) : Bs → List Bs
 | [] => [[]]
 | b :: l => if b == c then [] :: zm c l else match zm c l with
  | [] => [[b]]
  | x :: r => (b :: x) :: r
theorem zs2 (c : UInt8) : ∀ l, zm c l ≠ []
 | [] => by simp [zm]
 | b :: l => by
  unfold zm
  split
  ·simp
  ·split <;> simp
def cut1 (c : UInt8) (l : Bs) : Bs × Bs × Bool :=
 if c ∈ l then (l.takeWhile (· != c), l.drop ((l.takeWhile (· != c)).length + 1), true) else (l, [], false)
theorem index_one (l : Bs) (c : UInt8) : Lib.index l [c] = if c ∈ l then ((l.takeWhile (· != c)).length : Int) else -1 := by
 induction l with
 | nil => simp [Lib.index]
 | cons b l ih =>
  unfold Lib.index
  by_cases h : b = c
  ·subst h; simp [List.isPrefixOf]
  ·have h1 : ([c] : Bs).isPrefixOf (b :: l) = false := by simp [List.isPrefixOf]; exact fun e => h e.symm
   rw [h1, ih]
   have h3 : (b != c) = true := by simpa using h
   have h5 : ¬ c = b := fun e => h e.symm
   by_cases hc : c ∈ l
   ·simp only [hc, if_true, List.mem_cons, or_true, List.takeWhile_cons, h3, List.length_cons]
    have : ((((l.takeWhile (· != c)).length : Nat) : Int) == -1) = false := by rw [beq_eq_false_iff_ne]; omega
    simp [this]
   ·simp [hc, h5]
theorem zov (l : Bs) (p : UInt8 → Bool) : l.take (l.takeWhile p).length = l.takeWhile p := by
 induction l with
 | nil => rfl
 | cons b l ih => by_cases hb : p b = true <;> simp [hb, ih]
theorem cut_one (l : Bs) (c : UInt8) : Lib.cut l [c] = cut1 c l := by
 unfold Lib.cut cut1
 rw [index_one]
 by_cases h : c ∈ l
 ·simp only [h, if_true]
  rw [if_pos (by omega)]
  simp only [Int.toNat_natCast, zov, List.length_singleton]
 ·simp only [h, if_false]
  rw [if_neg (by decide)]
theorem zsz {l : Bs} {c : UInt8} (h : c ∉ l) : Lib.count l [c] = 0 := Lib.count_miss (by rw [index_one, if_neg h])
theorem zaw {c : UInt8} : ∀ {l : Bs}, c ∉ l → zm c l = [l]
 | [], _ => rfl
 | b :: l, h => by
  rw [List.mem_cons, not_or] at h
  have h1 : (b == c) = false := by simpa using fun e => h.1 e.symm
  simp [zm, h1, zaw h.2]
theorem zap {c : UInt8} : ∀ {l : Bs}, c ∈ l → zm c l = l.takeWhile (· != c) :: zm c (l.drop ((l.takeWhile (· != c)).length + 1))
 | [], h => by simp at h
 | b :: l, h => by
  by_cases hb : b = c
  ·subst hb; simp [zm]
  ·have h3 : (b != c) = true := by simpa using hb
   have h4 : (b == c) = false := by simpa using hb
   have h2 : c ∈ l := by
    rw [List.mem_cons] at h
    rcases h with h | h
    ·exact absurd h.symm hb
    ·exact h
   rw [zm, h4, zap h2]
   simp [h3]
theorem tw_lt {l : Bs} {c : UInt8} (h : c ∈ l) : (l.takeWhile (· != c)).length < l.length := by
 induction l with
 | nil => simp at h
 | cons b l ih =>
  by_cases hb : (b != c) = true
  ·have h2 : c ∈ l := by
    rw [List.mem_cons] at h
    rcases h with h | h
    ·subst h; simp at hb
    ·exact h
   simpa [List.takeWhile_cons, hb] using ih h2
  ·simp [hb]
theorem zls (c : UInt8) : ∀ (n : Nat) (l : Bs), l.length ≤ n → Lib.split l [c] = zm c l
 | n, l, hn => by
  unfold Lib.split
  by_cases h : c ∈ l
  ·have hi : Lib.index l [c] = ((l.takeWhile (· != c)).length : Nat) := by rw [index_one, if_pos h]
   rw [Lib.count_hit (by simp) hi, Nat.add_comm, zap h]
   unfold Lib.splitK
   have g0 : ¬ (Lib.index l [c] == -1) = true := by
    rw [hi, beq_iff_eq]; omega
   rw [if_neg g0, hi]
   have g1 := tw_lt h
   simp only [Int.toNat_natCast, List.length_singleton, Nat.add_zero, zov]
   congr 1
   cases n with
   | zero => omega
   | succ n => exact zls c n _ (by rw [List.length_drop]; omega)
  ·rw [zsz h, zaw h]; rfl
theorem wm (l : Bs) (c : UInt8) : decide (0 ≤ Lib.indexByte l c) = decide (c ∈ l) := by
 induction l with
 | nil => simp [Lib.indexByte]
 | cons b l ih =>
  have ih' : (0 ≤ Lib.indexByte l c) ↔ c ∈ l := by simpa using ih
  have hge := Lib.indexByte_ge l c
  unfold Lib.indexByte
  by_cases h : b = c
  ·subst h; simp
  ·have h1 : (b == c) = false := by simpa using h
   have h5 : ¬ c = b := fun e => h e.symm
   rw [h1]
   by_cases hm : Lib.indexByte l c = -1
   ·have : c ∉ l := fun e => by have := ih'.2 e; omega
    simp [hm, this, h5]
   ·have hc : c ∈ l := ih'.1 (by omega)
    simp [hm, hc]; omega
def kind (other : Bs) (c : UInt8) : Bool := lett c || dig c || decide (c ∈ other)
theorem zsm {l : Bs} (h : l.getD 0 0 = 48) (h0 : 0 < l.length) : value l = value (l.drop 1) := by
 cases l with
 | nil => simp at h0
 | cons b l =>
  have : b = 48 := h
  subst this
  simp [value]
theorem zqz {l : Bs} (h : l.getD 0 0 ≠ 48) : value l = l := by
 cases l with
 | nil => rfl
 | cons b l =>
  have : (b == 48) = false := by simpa using h
  simp [value, this]
def sgn (n : Int) : Int := if n < 0 then -1 else if 0 < n then 1 else 0
def orI : List Int → Int
 | [] => 0
 | x :: l => cor x (orI l)
theorem zdx : ∀ (xs : List Int) (k : Nat), (∀ j, j < k → xs.getD j 0 = 0) → orI xs = orI (xs.drop k)
 | _, 0, _ => rfl
 | [], k + 1, _ => by simp
 | x :: l, k + 1, h => by
  have h0 : x = 0 := h 0 (by omega)
  rw [List.drop_succ_cons, ← zdx l k (fun j hj => h (j + 1) (by omega))]
  subst h0; rfl
end Go.Proofs.YtbikeahmldobkaaGreatDoor.V
namespace Go.Proofs.YtbikeahmldobkaaGreatDoor.V
def kh (exact : Bool) (x : Bs) : Bool := only (kind [45]) x && !(digits x && !numb x exact)
def identifiers (s : Bs) (exact : Bool) : Bool := (zm 46 s).all (kh exact)
def ze6 (s : Bs) : Bool := (zm 46 s).all fun x => numb x false
def zo (v : Bs) : Option (List Bs × List Bs) :=
 if ((cut1 43 v).2.2 && !identifiers (cut1 43 v).2.1 false) || ((cut1 45 (cut1 43 v).1).2.2 && !identifiers (cut1 45 (cut1 43 v).1).2.1 true) || (zm 46 (cut1 45 (cut1 43 v).1).1).length != 3 then none
 else if (zm 46 (cut1 45 (cut1 43 v).1).1).all (fun x => numb x true) then
  some (zm 46 (cut1 45 (cut1 43 v).1).1, if (cut1 45 (cut1 43 v).1).2.2 then zm 46 (cut1 45 (cut1 43 v).1).2.1 else [])
 else none
end Go.Proofs.YtbikeahmldobkaaGreatDoor.V
namespace Go.Proofs.YtbikeahmldobkaaGreatDoor.V
theorem orI_hit (xs : List Int) (k : Nat) (h : ∀ j, j < k → xs.getD j 0 = 0) (hk : k < xs.length) (h0 : xs.getD k 0 ≠ 0) : orI xs = xs.getD k 0 := by
 rw [zdx xs k h]
 have e : xs.drop k = xs.getD k 0 :: xs.drop (k + 1) := by
  rw [List.drop_eq_getElem_cons hk]; simp [List.getD, List.getElem?_eq_getElem hk]
 rw [e]; unfold orI cor; rw [if_neg h0]
theorem orI_zero (xs : List Int) (h : ∀ j, j < xs.length → xs.getD j 0 = 0) : orI xs = 0 := by
 rw [zdx xs xs.length h]; simp [orI]
def je {α : Type} (f : α → α → Int) : List α → List α → Int
 | [], [] => 0
 | [], _ :: _ => -1
 | _ :: _, [] => 1
 | a :: as, b :: bs => cor (f a b) (je f as bs)
def qb (s : Bs) (d : Bool) : Bs × Bs := (s.takeWhile fun c => dig c == d, s.dropWhile fun c => dig c == d)
def wt (s : Bs) (i : Nat) : Int := if s.length ≤ i then 2 else if s.getD i 0 = 126 then 1 else if lett (s.getD i 0) then (s.getD i 0).toNat else ((s.getD i 0) ||| 128).toNat
def wcmp (x y : Bs) : Int := orI ((List.range (max x.length y.length)).map fun i => Lib.compareInt (wt x i) (wt y i))
def texts : Nat → Bs → Bs → Int
 | 0, _, _ => 0
 | f + 1, a, b => if a.isEmpty && b.isEmpty then 0 else
  cor (wcmp (qb a false).1 (qb b false).1)
   (cor (numbers (qb (qb a false).2 true).1 (qb (qb b false).2 true).1)
     (texts f (qb (qb a false).2 true).2 (qb (qb b false).2 true).2))
theorem span_len (p : UInt8 → Bool) (s : Bs) : (s.takeWhile p).length + (s.dropWhile p).length = s.length := by
 induction s with
 | nil => rfl
 | cons b l ih => by_cases h : p b = true <;> simp [h] <;> omega
theorem qn (s : Bs) (d : Bool) : (qb s d).1.length + (qb s d).2.length = s.length := span_len _ s
theorem yi (s : Bs) (h : s ≠ []) : (qb (qb s false).2 true).2.length < s.length := by
 have h1 := qn s false
 have h2 := qn (qb s false).2 true
 have h3 : 0 < (qb s false).1.length + (qb (qb s false).2 true).1.length := by
  cases s with
  | nil => exact absurd rfl h
  | cons b l =>
   by_cases hd : dig b = true
   ·simp [qb, hd]
   ·simp [qb, hd]; omega
 omega
theorem zk6 : ∀ (f g : Nat) (a b : Bs), a.length + b.length < f → a.length + b.length < g → texts f a b = texts g a b
 | 0, _, _, _, h, _ => by omega
 | _, 0, _, _, _, h => by omega
 | f + 1, g + 1, a, b, hf, hg => by
  unfold texts
  by_cases he : (a.isEmpty && b.isEmpty) = true
  ·simp [he]
  ·rw [if_neg he, if_neg he]
   congr 2
   have ha := qn a false
   have g1 := qn (qb a false).2 true
   have hb := qn b false
   have hb2 := qn (qb b false).2 true
   have g0 : a ≠ [] ∨ b ≠ [] := by
    rcases a with _ | ⟨x, a⟩
    ·rcases b with _ | ⟨y, b⟩
     ·simp at he
     ·exact .inr (by simp)
    ·exact .inl (by simp)
   have hlt : (qb (qb a false).2 true).2.length + (qb (qb b false).2 true).2.length < a.length + b.length := by
    rcases g0 with h | h
    ·have := yi a h; omega
    ·have := yi b h; omega
   exact zk6 f g _ _ (by omega) (by omega)
def qk (a b : Bs) : Int := texts (a.length + b.length + 1) a b
theorem zrx : qk [] [] = 0 := rfl
theorem zed (a b : Bs) (h : ¬ (a.isEmpty && b.isEmpty) = true) : qk a b = cor (wcmp (qb a false).1 (qb b false).1)
      (cor (numbers (qb (qb a false).2 true).1 (qb (qb b false).2 true).1)
        (qk (qb (qb a false).2 true).2 (qb (qb b false).2 true).2)) := by
 unfold qk
 rw [texts, if_neg h]
 congr 2
 have g0 : a ≠ [] ∨ b ≠ [] := by
  rcases a with _ | ⟨x, a⟩
  ·rcases b with _ | ⟨y, b⟩
   ·simp at h
   ·exact .inr (by simp)
  ·exact .inl (by simp)
 have ha := qn a false
 have g1 := qn (qb a false).2 true
 have hb := qn b false
 have hb2 := qn (qb b false).2 true
 refine zk6 _ _ _ _ ?_ (by omega)
 rcases g0 with h | h
 ·have := yi a h; omega
 ·have := yi b h; omega
theorem uy (y : Int) : cor 0 y = y := rfl
theorem ke {x : Int} (h : x ≠ 0) (y : Int) : cor x y = x := by unfold cor; rw [if_neg h]
theorem ztn (s : Bs) (p : UInt8 → Bool) (k : Nat) (hk : k ≤ s.length) (h1 : (s.take k).all p = true) (h2 : k = s.length ∨ ∃ h : k < s.length, p s[k] = false) :
  s.take k = s.takeWhile p ∧ s.drop k = s.dropWhile p := by
 induction s generalizing k with
 | nil => simp
 | cons b l ih =>
  cases k with
  | zero =>
   rcases h2 with h2 | ⟨h, h2⟩
   ·simp at h2
   ·have h2 : p b = false := h2
    simp [h2]
  | succ k =>
   simp at h1
   have h3 := ih k (by simpa using hk) (by simpa using h1.2) (by
     rcases h2 with h2 | ⟨h, h2⟩
     · left; simpa using h2
     · right; exact ⟨by simpa using h, by simpa using h2⟩)
   simp [h1.1, h3.1, h3.2]
def allow : Bs := [46, 43, 126]
def jd (s : Bs) : Int := Lib.lastIndexByte ⟨s.toArray⟩ 45
def jg (ep s : Bs) : Option (Bs × Bs × Bs) :=
 if jd s < 0 then
  if only (kind [46, 43, 126, 45]) s && dig (s.getD 0 0) then some (ep, s, []) else none
 else if only (kind allow) (s.drop ((jd s).toNat + 1)) then
  if only (kind [46, 43, 126, 45]) (s.take (jd s).toNat) && dig ((s.take (jd s).toNat).getD 0 0) then some (ep, s.take (jd s).toNat, s.drop ((jd s).toNat + 1)) else none
 else none
def zz (v : Bs) : Option (Bs × Bs × Bs) :=
 if (cut1 58 v).2.2 then if numb (cut1 58 v).1 false then jg (cut1 58 v).1 (cut1 58 v).2.1 else none
 else jg [] v
def qe (l : List Bs) : List Bs := (l.reverse.dropWhile fun x => (value x).isEmpty).reverse
def js (v : Bs) : List Bs := qe (zm 46 v)
def zbl (a b : Bs) : Int := je numbers (js a) (js b)
def ul (x y : Bs × Bs × Bs) : Int := orI [numbers x.1 y.1, qk x.2.1 y.2.1, qk x.2.2 y.2.2]
theorem zld (l : List Bs) (x : Bs) (h : (value x).isEmpty = true) : qe (l ++ [x]) = qe l := by
 unfold qe; simp [h]
theorem zlb (l : List Bs) (x : Bs) (h : (value x).isEmpty = false) : qe (l ++ [x]) = l ++ [x] := by
 unfold qe; simp [h]
def zdk (p q : List Bs) : Int := if p.isEmpty || q.isEmpty then Lib.compareInt q.length p.length else je kf p q
def jl (x y : List Bs × List Bs) : Int :=
 cor (orI [numbers (x.1.getD 0 []) (y.1.getD 0 []), numbers (x.1.getD 1 []) (y.1.getD 1 []), numbers (x.1.getD 2 []) (y.1.getD 2 [])]) (zdk x.2 y.2)
def yn (n : Int) (v : Bs) : Bool := if n = 1 then (zo v).isSome else if n = 2 then (zz v).isSome else if n = 3 then ze6 v else false
def cmpV (n : Int) (a b : Bs) : Int :=
 if n = 1 then (match zo a, zo b with | some x, some y => jl x y | _, _ => 0)
 else if n = 2 then (match zz a, zz b with | some x, some y => ul x y | _, _ => 0)
 else zbl a b
def valid (n : Int) (v : Bs) : Bool := decide (1 ≤ v.length) && decide (v.length ≤ 64) && yn n v
def scheme (n : Int) : Bool := n == 1 || n == 2 || n == 3
def zw (n : Int) (a b : Bs) : Int × Int := if !scheme n then (0, 14) else if valid n a && valid n b then (cmpV n a b, 0) else (0, 1)
end Go.Proofs.YtbikeahmldobkaaGreatDoor.V
namespace Go.Proofs.YtbikeahmldobkaaGreatDoor.V
def ud (x : Bs) : Bool := !(x == []) && !(x == [46]) && !(x == [46, 46])
def ux (s : Bs) : Bool := (zm 47 s).all ud
def jx (s : Bs) : Bool := decide (1 ≤ s.length) && decide (s.length ≤ 200) && !decide ((0 : UInt8) ∈ s) && ux s
theorem zs0 {s : Bs} (h : (47 : UInt8) ∉ s) : ux s = ud s := by
 unfold ux; rw [zaw h]; simp
theorem zsn {s : Bs} (h : (47 : UInt8) ∈ s) : ux s = (ud (s.takeWhile (· != 47)) && ux (s.drop ((s.takeWhile (· != 47)).length + 1))) := by
 unfold ux; rw [zap h]; simp
theorem zv9 (s : Bs) : ux s = if (cut1 47 s).2.2 then ud (cut1 47 s).1 && ux (cut1 47 s).2.1 else ud (cut1 47 s).1 := by
 unfold cut1
 by_cases h : (47 : UInt8) ∈ s
 ·rw [if_pos h]; simp only [if_true]; exact zsn h
 ·rw [if_neg h]; simp only [Bool.false_eq_true, if_false]; exact zs0 h
theorem zgd (x : Bs) : (x = [] ∧ ud x = false) ∨ (x = [46] ∧ ud x = false) ∨ (x = [46, 46] ∧ ud x = false) ∨ ((x == []) = false ∧ (x == [46]) = false ∧ (x == [46, 46]) = false ∧ ud x = true) := by
 unfold ud
 by_cases h1 : x = []
 ·subst h1; exact .inl ⟨rfl, rfl⟩
 ·by_cases h2 : x = [46]
  ·subst h2; exact .inr (.inl ⟨rfl, rfl⟩)
  ·by_cases h3 : x = [46, 46]
   ·subst h3; exact .inr (.inr (.inl ⟨rfl, rfl⟩))
   ·have e1 : (x == []) = false := beq_eq_false_iff_ne.2 h1
    have e2 : (x == [46]) = false := beq_eq_false_iff_ne.2 h2
    have e3 : (x == [46, 46]) = false := beq_eq_false_iff_ne.2 h3
    exact .inr (.inr (.inr ⟨e1, e2, e3, by rw [e1, e2, e3]; rfl⟩))
end Go.Proofs.YtbikeahmldobkaaGreatDoor.V
namespace Go.Proofs.YtbikeahmldobkaaGreatDoor.V
abbrev cb := Lib.compareBytes
theorem za0 (a b c : Int) : cor (cor a b) c = cor a (cor b c) := by unfold cor; repeat' split <;> simp_all
theorem zck (a : Int) : cor a 0 = a := by unfold cor; split <;> simp_all
theorem vh : ∀ a, cb a a = 0
 | [] => rfl
 | x :: a => by simp [cb, Lib.compareBytes]; exact vh a
theorem xe (x : UInt8) (a b : Bs) : cb (x :: a) (x :: b) = cb a b := by simp [cb, Lib.compareBytes]
theorem zaj {x y : UInt8} (h : x < y) (a b : Bs) : cb (x :: a) (y :: b) = -1 := by simp [cb, Lib.compareBytes, h]
theorem zak {x y : UInt8} (h : y < x) (a b : Bs) : cb (x :: a) (y :: b) = 1 := by
 have h2 : ¬ x < y := fun g => by rw [UInt8.lt_iff_toNat_lt] at h g; omega
 simp [cb, Lib.compareBytes, h, h2]
theorem zdv (x y : UInt8) : x < y ∨ x = y ∨ y < x := by
 rw [UInt8.lt_iff_toNat_lt, UInt8.lt_iff_toNat_lt, ← UInt8.toNat_inj]; omega
theorem ziq (x y : UInt8) (a b : Bs) : (x < y ∧ cb (x :: a) (y :: b) = -1) ∨ (x = y ∧ cb (x :: a) (y :: b) = cb a b) ∨ (y < x ∧ cb (x :: a) (y :: b) = 1) := by
 rcases zdv x y with h | h | h
 ·exact .inl ⟨h, zaj h a b⟩
 ·subst h; exact .inr (.inl ⟨rfl, xe x a b⟩)
 ·exact .inr (.inr ⟨h, zak h a b⟩)
theorem zfr : ∀ a b, cb a b = -1 ∨ cb a b = 0 ∨ cb a b = 1
 | [], [] => .inr (.inl rfl)
 | [], _ :: _ => .inl rfl
 | _ :: _, [] => .inr (.inr rfl)
 | x :: a, y :: b => by
  rcases ziq x y a b with ⟨_, h⟩ | ⟨_, h⟩ | ⟨_, h⟩
  ·exact .inl h
  ·rw [h]; exact zfr a b
  ·exact .inr (.inr h)
theorem kd : ∀ a b, cb b a = - cb a b
 | [], [] => rfl
 | [], _ :: _ => rfl
 | _ :: _, [] => rfl
 | x :: a, y :: b => by
  rcases zdv x y with h | h | h
  ·rw [zaj h, zak h]; rfl
  ·subst h; rw [xe, xe]; exact kd a b
  ·rw [zaj h, zak h]
theorem zka : ∀ {a b}, cb a b = 0 → a = b
 | [], [], _ => rfl
 | [], _ :: _, h => by simp [cb, Lib.compareBytes] at h
 | _ :: _, [], h => by simp [cb, Lib.compareBytes] at h
 | x :: a, y :: b, h => by
  rcases ziq x y a b with ⟨_, g⟩ | ⟨e, g⟩ | ⟨_, g⟩
  ·rw [g] at h; simp at h
  ·rw [g] at h; rw [e, zka h]
  ·rw [g] at h; simp at h
theorem zad : ∀ a b c, cb a b ≤ 0 → cb b c ≤ 0 → cb a c ≤ 0
 | [], _, [], _, _ => by simp [cb, Lib.compareBytes]
 | [], _, _ :: _, _, _ => by simp [cb, Lib.compareBytes]
 | _ :: _, [], _, h, _ => by simp [cb, Lib.compareBytes] at h
 | _ :: _, _ :: _, [], _, h => by simp [cb, Lib.compareBytes] at h
 | x :: a, y :: b, z :: c, h, g => by
  rcases zdv x y with h1 | h1 | h1
  ·rcases zdv y z with g1 | g1 | g1
   ·rw [zaj (by rw [UInt8.lt_iff_toNat_lt] at *; omega)]; decide
   ·subst g1; rw [zaj h1]; decide
   ·rw [zak g1] at g; simp at g
  ·subst h1
   rcases zdv x z with g1 | g1 | g1
   ·rw [zaj g1]; decide
   ·subst g1; rw [xe] at *; exact zad a b c h g
   ·rw [zak g1] at g; simp at g
  ·rw [zak h1] at h; simp at h
theorem cb_app : ∀ (a b x y : Bs), a.length = b.length → cb (a ++ x) (b ++ y) = cor (cb a b) (cb x y)
 | [], [], _, _, _ => rfl
 | [], _ :: _, _, _, h => by simp at h
 | _ :: _, [], _, _, h => by simp at h
 | p :: a, q :: b, x, y, h => by
  rw [List.cons_append, List.cons_append]
  rcases zdv p q with e | e | e
  ·rw [zaj e, zaj e]; rfl
  ·subst e; rw [xe, xe]; exact cb_app a b x y (by simpa using h)
  ·rw [zak e, zak e]; rfl
theorem zmt (a : Bs) : (value a).length ≤ a.length := (List.dropWhile_sublist _).length_le
theorem zql {m n : Nat} (h : m < n) (hn : n ≤ 255) : UInt8.ofNat m < UInt8.ofNat n := by
 rw [UInt8.lt_iff_toNat_lt, UInt8.toNat_ofNat', UInt8.toNat_ofNat', Nat.mod_eq_of_lt (by omega), Nat.mod_eq_of_lt (by omega)]; exact h
theorem zdz (a b x y : Bs) (ha : a.length ≤ 255) (hb : b.length ≤ 255) : cb (nk a ++ x) (nk b ++ y) = cor (numbers a b) (cb x y) := by
 have h1 := zmt a
 have h2 := zmt b
 unfold nk numbers Lib.compareInt
 rw [List.cons_append, List.cons_append]
 rcases Nat.lt_trichotomy (value a).length (value b).length with h | h | h
 ·rw [zaj (zql h (by omega)), if_pos (by omega)]; rfl
 ·rw [h, xe, cb_app _ _ _ _ h, if_neg (by omega), if_neg (by omega), uy]
 ·rw [zak (zql h (by omega)), if_neg (by omega), if_pos (by omega)]; rfl
theorem _root_.Go.Proofs.YtbikeahmldobkaaGreatDoor.z0n {P : Prop} (h : P := by
 rw [UInt8.lt_iff_toNat_lt]
 rw [Ne, ← UInt8.toNat_inj] at this
 have h0 : (0 : UInt8).toNat = 0 := rfl
 omega) : P := h
theorem zt9 : ∀ (p q x y : Bs), (∀ c ∈ p, c ≠ 0) → (∀ c ∈ q, c ≠ 0) → cb (p ++ 0 :: x) (q ++ 0 :: y) = cor (cb p q) (cb x y)
 | [], [], x, y, _, _ => by rw [List.nil_append, List.nil_append, xe]; rfl
 | [], b :: q, x, y, _, h => by
  have hb : (0 : UInt8) < b := by
   have := h b (by simp)
   exact z0n
  rw [List.nil_append, List.cons_append, zaj hb]; rfl
 | b :: p, [], x, y, h, _ => by
  have hb : (0 : UInt8) < b := by
   have := h b (by simp)
   exact z0n
  rw [List.nil_append, List.cons_append, zak hb]; rfl
 | b :: p, c :: q, x, y, h, g => by
  rw [List.cons_append, List.cons_append]
  rcases zdv b c with e | e | e
  ·rw [zaj e, zaj e]; rfl
  ·subst e
   rw [xe, xe]
   exact zt9 p q x y (fun d hd => h d (by simp [hd])) (fun d hd => g d (by simp [hd]))
  ·rw [zak e, zak e]; rfl
def ze5 (p : Bs) : Bs := if digits p then 1 :: nk p else 2 :: (p ++ [0])
def yy (l : List Bs) : Bs := (l.map ze5).flatten
def zn5 (l : List Bs) : Bs := if l.isEmpty then [3] else yy l ++ [0]
def znd (x : List Bs × List Bs) : Bs := nk (x.1.getD 0 []) ++ (nk (x.1.getD 1 []) ++ (nk (x.1.getD 2 []) ++ zn5 x.2))
def Tame (p : Bs) : Prop := p.length ≤ 255 ∧ ∀ c ∈ p, c ≠ 0
theorem zun (p q x y : Bs) (hp : Tame p) (hq : Tame q) : cb (ze5 p ++ x) (ze5 q ++ y) = cor (kf p q) (cb x y) := by
 unfold ze5 kf
 rcases h1 : digits p with _ | _ <;> rcases h2 : digits q with _ | _
 ·simp only [Bool.false_eq_true, if_false, Bool.and_self]
  rw [List.cons_append, List.cons_append, xe, List.append_assoc, List.append_assoc]
  exact zt9 p q x y hp.2 hq.2
 ·simp only [Bool.false_eq_true, if_false, if_true, Bool.and_true]
  rw [List.cons_append, List.cons_append, zak (by decide)]; rfl
 ·simp only [Bool.false_eq_true, if_false, if_true, Bool.and_false]
  rw [List.cons_append, List.cons_append, zaj (by decide)]; rfl
 ·simp only [if_true, Bool.and_self]
  rw [List.cons_append, List.cons_append, xe]
  exact zdz p q x y hp.1 hq.1
theorem zda (p x : Bs) : ∃ c r, ze5 p ++ x = c :: r ∧ 0 < c ∧ c < 3 := by
 unfold ze5
 split
 ·exact ⟨_, _, rfl, by decide, by decide⟩
 ·exact ⟨_, _, rfl, by decide, by decide⟩
theorem zkt : ∀ p q : List Bs, (∀ x ∈ p, Tame x) → (∀ x ∈ q, Tame x) → cb (yy p ++ [0]) (yy q ++ [0]) = je kf p q
 | [], [], _, _ => rfl
 | [], b :: q, _, _ => by
  obtain ⟨c, r, h, hc, _⟩ := zda b (yy q ++ [0])
  show cb [0] ((ze5 b ++ yy q) ++ [0]) = -1
  rw [List.append_assoc, h, zaj hc]
 | b :: p, [], _, _ => by
  obtain ⟨c, r, h, hc, _⟩ := zda b (yy p ++ [0])
  show cb ((ze5 b ++ yy p) ++ [0]) [0] = 1
  rw [List.append_assoc, h, zak hc]
 | a :: p, b :: q, hp, hq => by
  show cb ((ze5 a ++ yy p) ++ [0]) ((ze5 b ++ yy q) ++ [0]) = cor (kf a b) (je kf p q)
  rw [List.append_assoc, List.append_assoc, zun a b _ _ (hp a (by simp)) (hq b (by simp)), zkt p q (fun x h => hp x (by simp [h])) (fun x h => hq x (by simp [h]))]
theorem zsh (p q : List Bs) (hp : ∀ x ∈ p, Tame x) (hq : ∀ x ∈ q, Tame x) : cb (zn5 p) (zn5 q) = zdk p q := by
 unfold zn5 zdk
 cases p with
 | nil =>
  cases q with
  | nil => rfl
  | cons b q =>
   obtain ⟨c, r, h, _, hc⟩ := zda b (yy q ++ [0])
   have e : yy (b :: q) ++ [0] = c :: r := by rw [← h]; simp [yy]
   simp only [List.isEmpty_nil, List.isEmpty_cons, if_true, if_false, Bool.false_eq_true, Bool.true_or]
   rw [e, zak hc]
   unfold Lib.compareInt
   rw [if_neg (by simp; try omega), if_pos (by simp; try omega)]
 | cons a p =>
  cases q with
  | nil =>
   obtain ⟨c, r, h, _, hc⟩ := zda a (yy p ++ [0])
   have e : yy (a :: p) ++ [0] = c :: r := by rw [← h]; simp [yy]
   simp only [List.isEmpty_nil, List.isEmpty_cons, if_true, if_false, Bool.false_eq_true, Bool.or_true]
   rw [e, zaj hc]
   unfold Lib.compareInt
   rw [if_pos (by simp; try omega)]
  | cons b q => simp only [List.isEmpty_cons, if_false, Bool.false_eq_true, Bool.or_self]; exact zkt _ _ hp hq
theorem zs3 (x y : List Bs × List Bs) (hx : ∀ k, (x.1.getD k []).length ≤ 255) (hy : ∀ k, (y.1.getD k []).length ≤ 255) (hp : ∀ z ∈ x.2, Tame z) (hq : ∀ z ∈ y.2, Tame z) :
  cb (znd x) (znd y) = jl x y := by
 unfold znd jl
 rw [zdz _ _ _ _ (hx 0) (hy 0), zdz _ _ _ _ (hx 1) (hy 1), zdz _ _ _ _ (hx 2) (hy 2), zsh _ _ hp hq]
 simp only [orI, zck, za0]
def wb (c : UInt8) : UInt8 := if c = 126 then 1 else if lett c then c else c ||| 128
def wts (s : Bs) : Bs := s.map wb ++ [2]
theorem zmu (c : UInt8) : wb c ≠ 2 := by
 have h : ∀ n : Fin 256, wb (UInt8.ofNat n.val) ≠ 2 := by decide +kernel
 have := h ⟨c.toNat, c.toNat_lt⟩
 rwa [show UInt8.ofNat c.toNat = c from UInt8.ofNat_toNat] at this
theorem ziw (c : UInt8) (s : Bs) : wt (c :: s) 0 = (wb c).toNat := by
 unfold wt wb
 simp only [List.length_cons, List.getD_cons_zero]
 rw [if_neg (by omega)]
 repeat' split
 all_goals rfl
theorem zt6 (c : UInt8) (s : Bs) (i : Nat) : wt (c :: s) (i + 1) = wt s i := by
 unfold wt
 simp only [List.length_cons, List.getD_cons_succ, Nat.add_le_add_iff_right]
theorem wt_nil (i : Nat) : wt [] i = 2 := by unfold wt; simp
theorem zuy (b c : UInt8) (p q : Bs) : wcmp (b :: p) (c :: q) = cor (Lib.compareInt (wb b).toNat (wb c).toNat) (wcmp p q) := by
 unfold wcmp
 rw [List.length_cons, List.length_cons, Nat.succ_max_succ, List.range_succ_eq_map, List.map_cons, orI, ziw, ziw, List.map_map]
 congr 2
 exact List.map_congr_left (fun i _ => by show Lib.compareInt (wt (b :: p) (i + 1)) (wt (c :: q) (i + 1)) = _; rw [zt6, zt6])
theorem zei {a b : Int} (h : a ≠ b) : Lib.compareInt a b ≠ 0 := by unfold Lib.compareInt; repeat' split <;> omega
theorem zk8 (c : UInt8) (q : Bs) : wcmp [] (c :: q) = Lib.compareInt 2 (wb c).toNat := by
 unfold wcmp
 rw [List.length_nil, List.length_cons, Nat.zero_max, List.range_succ_eq_map, List.map_cons, orI, ziw, wt_nil, ke]
 apply zei
 intro e
 apply zmu c
 rw [← UInt8.toNat_inj]
 have : (2 : UInt8).toNat = 2 := rfl
 omega
theorem zmn (c : UInt8) (q : Bs) : wcmp (c :: q) [] = Lib.compareInt (wb c).toNat 2 := by
 unfold wcmp
 rw [List.length_nil, List.length_cons, Nat.max_zero, List.range_succ_eq_map, List.map_cons, orI, ziw, wt_nil, ke]
 apply zei
 intro e
 apply zmu c
 rw [← UInt8.toNat_inj]
 have : (2 : UInt8).toNat = 2 := rfl
 omega
theorem wcmp_nil : wcmp [] [] = 0 := rfl
theorem zk3 (x y : UInt8) (a b : Bs) : cb (x :: a) (y :: b) = cor (Lib.compareInt x.toNat y.toNat) (cb a b) := by
 unfold Lib.compareInt
 rcases zdv x y with e | e | e
 ·rw [zaj e, if_pos (by rw [UInt8.lt_iff_toNat_lt] at e; omega)]; rfl
 ·subst e; rw [xe, if_neg (by omega), if_neg (by omega)]; rfl
 ·rw [zak e, if_neg (by rw [UInt8.lt_iff_toNat_lt] at e; omega), if_pos (by rw [UInt8.lt_iff_toNat_lt] at e; omega)]; rfl
theorem zg4 : ∀ (p q x y : Bs), cb (wts p ++ x) (wts q ++ y) = cor (wcmp p q) (cb x y)
 | [], [], x, y => by rw [wcmp_nil, uy]; exact xe 2 x y
 | [], c :: q, x, y => by
  rw [zk8]
  show cb (2 :: x) (wb c :: (wts q ++ y)) = _
  rw [zk3]
  have h : Lib.compareInt ((2 : UInt8).toNat : Int) (wb c).toNat ≠ 0 := zei (by
    intro e; apply zmu c; rw [← UInt8.toNat_inj]; omega)
  rw [ke h]
  exact (ke h _).symm
 | c :: p, [], x, y => by
  rw [zmn]
  show cb (wb c :: (wts p ++ x)) (2 :: y) = _
  rw [zk3]
  have h : Lib.compareInt (wb c).toNat ((2 : UInt8).toNat : Int) ≠ 0 := zei (by
    intro e; apply zmu c; rw [← UInt8.toNat_inj]; omega)
  rw [ke h]
  exact (ke h _).symm
 | b :: p, c :: q, x, y => by
  rw [zuy]
  show cb (wb b :: (wts p ++ x)) (wb c :: (wts q ++ y)) = _
  rw [zk3, zg4 p q x y, za0]
def zdt (s : Bs) : Bs := (qb (qb s false).2 true).2
def ze3 (s : Bs) : Bs := wts (qb s false).1 ++ nk (qb (qb s false).2 true).1
def zds : Nat → Bs → Bs
 | 0, _ => [2]
 | f + 1, s => if s.isEmpty then [2] else ze3 s ++ zds f (zdt s)
def zgc (s : Bs) : Bs := ze3 s ++ zds s.length (zdt s)
theorem zl3 (s : Bs) : (zdt s).length ≤ s.length := by
 have h1 := qn s false
 have h2 := qn (qb s false).2 true
 unfold zdt; omega
theorem zqa {s : Bs} (h : s ≠ []) : (zdt s).length < s.length := yi s h
theorem zmz {p : UInt8 → Bool} : ∀ {l : Bs} {c r}, l.dropWhile p = c :: r → p c = false
 | b :: l, c, r, h => by
  rw [List.dropWhile_cons] at h
  split at h
  ·exact zmz h
  ·rename_i hb
   simp at h; obtain ⟨rfl, _⟩ := h; exact Bool.eq_false_iff.2 hb
theorem zc0 {s : Bs} {c : UInt8} {r : Bs} (h : zdt s = c :: r) : dig c = false := by
 have := zmz (p := fun c => dig c == true) (show List.dropWhile _ _ = c :: r from h)
 simpa using this
theorem zaq (a b : Bs) : qk a b = cor (wcmp (qb a false).1 (qb b false).1)
      (cor (numbers (qb (qb a false).2 true).1 (qb (qb b false).2 true).1) (qk (zdt a) (zdt b))) := by
 by_cases h : (a.isEmpty && b.isEmpty) = true
 ·rw [Bool.and_eq_true, List.isEmpty_iff, List.isEmpty_iff] at h
  obtain ⟨rfl, rfl⟩ := h
  decide +kernel
 ·exact zed a b h
theorem zgy (s : Bs) : (qb s false).1.length ≤ s.length ∧ (qb (qb s false).2 true).1.length ≤ s.length := by
 have h1 := qn s false
 have h2 := qn (qb s false).2 true
 omega
theorem zm6 {c : UInt8} (r : Bs) (h : dig c = false) : ∃ q, (qb (c :: r) false).1 = c :: q := by
 unfold qb
 refine ⟨r.takeWhile fun c => dig c == false, ?_⟩
 simp [h]
theorem zm8 : ∀ (f g : Nat) (a b x y : Bs), a.length ≤ f → b.length ≤ g → a.length ≤ 255 → b.length ≤ 255 → (∀ c r, a = c :: r → dig c = false) → (∀ c r, b = c :: r → dig c = false) →
  cb (zds f a ++ x) (zds g b ++ y) = cor (qk a b) (cb x y)
 | f, g, [], [], x, y, _, _, _, _, _, _ => by
  have e1 : zds f [] = [2] := by cases f <;> rfl
  have e2 : zds g [] = [2] := by cases g <;> rfl
  rw [e1, e2, zrx, uy]; exact xe 2 x y
 | f, 0, _, _ :: _, _, _, _, h, _, _, _, _ => by simp at h
 | 0, g, _ :: _, _, _, _, h, _, _, _, _, _ => by simp at h
 | f, g + 1, [], c :: r, x, y, _, _, _, _, _, hb => by
  have e1 : zds f [] = wts [] := by cases f <;> rfl
  obtain ⟨q, hq⟩ := zm6 r (hb c r rfl)
  have e0 : (qb ([] : Bs) false).1 = [] := rfl
  have hw : wcmp [] (c :: q) ≠ 0 := by
   rw [zk8]; exact zei (by intro e; apply zmu c; rw [← UInt8.toNat_inj]; have : (2 : UInt8).toNat = 2 := rfl; omega)
  rw [zaq, hq, e0, ke hw, e1]
  show cb (wts [] ++ x) ((ze3 (c :: r) ++ zds g (zdt (c :: r))) ++ y) = _
  unfold ze3
  rw [hq, List.append_assoc, List.append_assoc, zg4, ke hw, ke hw]
 | f + 1, g, c :: r, [], x, y, _, _, _, _, ha, _ => by
  have e1 : zds g [] = wts [] := by cases g <;> rfl
  obtain ⟨q, hq⟩ := zm6 r (ha c r rfl)
  have e0 : (qb ([] : Bs) false).1 = [] := rfl
  have hw : wcmp (c :: q) [] ≠ 0 := by
   rw [zmn]; exact zei (by intro e; apply zmu c; rw [← UInt8.toNat_inj]; have : (2 : UInt8).toNat = 2 := rfl; omega)
  rw [zaq, hq, e0, ke hw, e1]
  show cb ((ze3 (c :: r) ++ zds f (zdt (c :: r))) ++ x) (wts [] ++ y) = _
  unfold ze3
  rw [hq, List.append_assoc, List.append_assoc, zg4, ke hw, ke hw]
 | f + 1, g + 1, c :: r, d :: t, x, y, hf, hg, h1, h2, ha, hb => by
  have l1 := zqa (s := c :: r) (by simp)
  have l2 := zqa (s := d :: t) (by simp)
  have s1 := zgy (c :: r)
  have s2 := zgy (d :: t)
  rw [zaq]
  show cb ((ze3 (c :: r) ++ zds f (zdt (c :: r))) ++ x) ((ze3 (d :: t) ++ zds g (zdt (d :: t))) ++ y) = _
  unfold ze3
  rw [List.append_assoc, List.append_assoc, List.append_assoc, List.append_assoc, zg4, zdz _ _ _ _ (by omega) (by omega),
    zm8 f g _ _ x y (by omega) (by omega) (by omega) (by omega) (fun _ _ h => zc0 h) (fun _ _ h => zc0 h), za0, za0]
theorem zho (a b x y : Bs) (ha : a.length ≤ 255) (hb : b.length ≤ 255) : cb (zgc a ++ x) (zgc b ++ y) = cor (qk a b) (cb x y) := by
 have l1 := zl3 a
 have l2 := zl3 b
 have s1 := zgy a
 have s2 := zgy b
 unfold zgc ze3
 rw [zaq, List.append_assoc, List.append_assoc, List.append_assoc, List.append_assoc, zg4, zdz _ _ _ _ (by omega) (by omega),
   zm8 _ _ _ _ x y (by omega) (by omega) (by omega) (by omega) (fun _ _ h => zc0 h) (fun _ _ h => zc0 h), za0, za0]
def zn6 (x : Bs × Bs × Bs) : Bs := nk x.1 ++ (zgc x.2.1 ++ zgc x.2.2)
theorem zs8 (x y : Bs × Bs × Bs) (h1 : x.1.length ≤ 255) (h2 : x.2.1.length ≤ 255) (h3 : x.2.2.length ≤ 255) (g1 : y.1.length ≤ 255) (g2 : y.2.1.length ≤ 255) (g3 : y.2.2.length ≤ 255) :
  cb (zn6 x) (zn6 y) = ul x y := by
 unfold zn6 ul
 rw [zdz _ _ _ _ h1 g1, zho _ _ _ _ h2 g2]
 have := zho x.2.2 y.2.2 [] [] h3 g3
 rw [List.append_nil, List.append_nil, show cb [] [] = 0 from rfl, zck] at this
 rw [this]
 simp only [orI, zck]
def zs9 (l : List Bs) : Bs := (l.map fun x => 1 :: nk x).flatten
def zrg (l : List Bs) : Bs := zs9 l ++ [0]
theorem zj1 : ∀ p q : List Bs, (∀ x ∈ p, x.length ≤ 255) → (∀ x ∈ q, x.length ≤ 255) → cb (zrg p) (zrg q) = je numbers p q
 | [], [], _, _ => rfl
 | [], b :: q, _, _ => rfl
 | b :: p, [], _, _ => rfl
 | a :: p, b :: q, hp, hq => by
  show cb (((1 :: nk a) ++ zs9 p) ++ [0]) (((1 :: nk b) ++ zs9 q) ++ [0]) = cor (numbers a b) (je numbers p q)
  rw [List.append_assoc, List.append_assoc, List.cons_append, List.cons_append, xe, zdz _ _ _ _ (hp a (by simp)) (hq b (by simp))]
  congr 1
  exact zj1 p q (fun x h => hp x (by simp [h])) (fun x h => hq x (by simp [h]))
def keyV (n : Int) (v : Bs) : Bs :=
 if n = 1 then (match zo v with | some x => znd x | none => [])
 else if n = 2 then (match zz v with | some x => zn6 x | none => [])
 else zrg (js v)
theorem zgh (c : UInt8) (l : Bs) : (cut1 c l).1.length ≤ l.length ∧ (cut1 c l).2.1.length ≤ l.length := by
 unfold cut1
 split
 ·exact ⟨(List.takeWhile_sublist _).length_le, by simp⟩
 ·simp
theorem _root_.Go.Proofs.YtbikeahmldobkaaGreatDoor.zxu {P : Prop} (h : P := by
 split at h
 ·rcases List.mem_cons.1 h with h | h
  ·simp [h]
  ·have := ih x h; simp; omega
 ·split at h
  ·simp at h; simp [h]
  ·rename_i y r he
   rw [he] at ih
   rcases List.mem_cons.1 h with h | h
   ·subst h; have := ih y (by simp); simp; omega
   ·have := ih x (by simp [h]); simp; omega) : P := h
theorem zcw (c : UInt8) : ∀ (l x : Bs), x ∈ zm c l → x.length ≤ l.length
 | [], x, h => by simp [zm] at h; simp [h]
 | b :: l, x, h => by
  have ih := zcw c l
  unfold zm at h
  exact zxu
theorem zku {e : Bool} {x : Bs} (h : kh e x = true) (hl : x.length ≤ 255) : Tame x := by
 refine ⟨hl, fun c hc e0 => ?_⟩
 subst e0
 unfold kh only at h
 rw [Bool.and_eq_true, Bool.and_eq_true, List.all_eq_true] at h
 have := h.1.1 0 hc
 revert this; decide +kernel
theorem uw {s : Bs} {l pre : List Bs} (h : zo s = some (l, pre)) : (∀ x ∈ l, x.length ≤ s.length) ∧ (∀ x ∈ pre, x.length ≤ s.length ∧ kh true x = true) := by
 unfold zo at h
 have h1 := zgh 43 s
 have h2 := zgh 45 (cut1 43 s).1
 split at h
 ·cases h
 ·rename_i hn
  split at h
  ·simp only [Option.some.injEq, Prod.mk.injEq] at h
   obtain ⟨rfl, h⟩ := h
   refine ⟨fun x hx => by have := zcw 46 _ x hx; omega, fun x hx => ?_⟩
   split at h
   ·rename_i hc
    subst h
    refine ⟨by have := zcw 46 _ x hx; omega, ?_⟩
    have hi : identifiers (cut1 45 (cut1 43 s).1).2.1 true = true := by
     rcases hb : identifiers (cut1 45 (cut1 43 s).1).2.1 true with _ | _
     ·rw [hb, hc] at hn; simp at hn
     ·rfl
    unfold identifiers at hi
    rw [List.all_eq_true] at hi
    exact hi x hx
   ·subst h; simp at hx
  ·cases h
theorem uu {s : Bs} {x : Bs × Bs × Bs} (h : zz s = some x) : x.1.length ≤ s.length ∧ x.2.1.length ≤ s.length ∧ x.2.2.length ≤ s.length := by
 have ht : ∀ {ep t : Bs}, ep.length ≤ s.length → t.length ≤ s.length → jg ep t = some x → x.1.length ≤ s.length ∧ x.2.1.length ≤ s.length ∧ x.2.2.length ≤ s.length := by
  intro ep t he hl h
  unfold jg at h
  repeat' split at h
  all_goals first | (cases h; done) | (simp only [Option.some.injEq] at h; subst h; simp only [List.length_take, List.length_drop, List.length_nil]; omega)
 have h1 := zgh 58 s
 unfold zz at h
 split at h
 ·split at h
  ·exact ht h1.1 h1.2 h
  ·cases h
 ·exact ht (by simp) (Nat.le_refl _) h
theorem zg1 {s x : Bs} (h : x ∈ js s) : x.length ≤ s.length := by
 unfold js qe at h
 rw [List.mem_reverse] at h
 exact zcw 46 s x (List.mem_reverse.1 ((List.dropWhile_sublist _).subset h))
theorem yg {n : Int} {v : Bs} (h : valid n v = true) : v.length ≤ 64 := by
 unfold valid at h; simp at h; omega
theorem zer {l : List Bs} {m : Nat} (h : ∀ x ∈ l, x.length ≤ m) (k : Nat) : (l.getD k []).length ≤ m := by
 rw [List.getD_eq_getElem?_getD]
 rcases hk : l[k]? with _ | x
 ·simp
 ·exact h x (List.mem_of_getElem? hk)
theorem wl {n : Int} (hn : scheme n = true) {a b : Bs} (ha : valid n a = true) (hb : valid n b = true) : cb (keyV n a) (keyV n b) = cmpV n a b := by
 have l1 := yg ha
 have l2 := yg hb
 have hs : n = 1 ∨ n = 2 ∨ n = 3 := by unfold scheme at hn; simpa [or_assoc] using hn
 rcases hs with rfl | rfl | rfl
 ·unfold keyV cmpV
  rw [if_pos rfl, if_pos rfl, if_pos rfl]
  obtain ⟨⟨la, pa⟩, e1⟩ := Option.isSome_iff_exists.1 (show (zo a).isSome = true by unfold valid yn at ha; simp at ha; exact ha.2)
  obtain ⟨⟨lb, pb⟩, e2⟩ := Option.isSome_iff_exists.1 (show (zo b).isSome = true by unfold valid yn at hb; simp at hb; exact hb.2)
  have f1 := uw e1
  have f2 := uw e2
  rw [e1, e2]
  exact zs3 _ _ (fun k => by have := zer f1.1 k; simp only; omega) (fun k => by have := zer f2.1 k; simp only; omega)
   (fun z hz => zku (f1.2 z hz).2 (by have := (f1.2 z hz).1; omega)) (fun z hz => zku (f2.2 z hz).2 (by have := (f2.2 z hz).1; omega))
 ·unfold keyV cmpV
  rw [if_neg (by decide), if_pos rfl, if_neg (by decide), if_pos rfl, if_neg (by decide), if_pos rfl]
  obtain ⟨x, e1⟩ := Option.isSome_iff_exists.1 (show (zz a).isSome = true by unfold valid yn at ha; simp at ha; exact ha.2)
  obtain ⟨y, e2⟩ := Option.isSome_iff_exists.1 (show (zz b).isSome = true by unfold valid yn at hb; simp at hb; exact hb.2)
  have f1 := uu e1
  have f2 := uu e2
  rw [e1, e2]
  exact zs8 _ _ (by omega) (by omega) (by omega) (by omega) (by omega) (by omega)
 ·unfold keyV cmpV
  rw [if_neg (by decide), if_neg (by decide), if_neg (by decide), if_neg (by decide), if_neg (by decide), if_neg (by decide)]
  exact zj1 _ _ (fun x hx => by have := zg1 hx; omega) (fun x hx => by have := zg1 hx; omega)
theorem zaz {n : Int} (hn : scheme n = true) {a b c : Bs} (ha : valid n a = true) (hb : valid n b = true) (hc : valid n c = true) :
  cmpV n a b = - cmpV n b a ∧ cmpV n a a = 0 ∧ ¬ (cmpV n a b ≤ 0 ∧ cmpV n b c ≤ 0 ∧ 0 < cmpV n a c) ∧ ¬ (0 ≤ cmpV n a b ∧ 0 ≤ cmpV n b c ∧ cmpV n a c < 0) ∧ (cmpV n a b = 0 → cmpV n b c = cmpV n a c) := by
 rw [← wl hn ha hb, ← wl hn hb ha, ← wl hn ha ha, ← wl hn hb hc, ← wl hn ha hc]
 refine ⟨kd _ _, vh _, fun h => ?_, fun h => ?_, fun h => ?_⟩
 ·have := zad _ _ _ h.1 h.2.1; omega
 ·have h1 := kd (keyV n a) (keyV n b)
  have h2 := kd (keyV n b) (keyV n c)
  have h3 := kd (keyV n a) (keyV n c)
  have := zad (keyV n c) (keyV n b) (keyV n a) (by omega) (by omega)
  omega
 ·rw [zka h]
end Go.Proofs.YtbikeahmldobkaaGreatDoor.V
