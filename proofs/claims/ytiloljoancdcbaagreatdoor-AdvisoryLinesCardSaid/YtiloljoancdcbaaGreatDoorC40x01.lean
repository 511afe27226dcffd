/-
  Lemmas for the law.
-/
import Derived.Lib.Split
import Derived.Lib.LastIndexLaws
import Derived.Lib.Small
import Derived.Lib.SlTrimSet
import Derived.Lib.LastIndexByte
set_option linter.all false
namespace Go.Proofs.YtiloljoancdcbaaGreatDoor.V
abbrev Bs := List UInt8
def digB (n : Int) : Bool := decide (48 ≤ n) && decide (n ≤ 57)
def letB (n : Int) : Bool := (decide (97 ≤ n) && decide (n ≤ 122)) || (decide (65 ≤ n) && decide (n ≤ 90))
def dig (c : UInt8) : Bool := digB c.toNat
def lett (c : UInt8) : Bool := letB c.toNat
def only (p : UInt8 → Bool) (l : Bs) : Bool := l.all p && !l.isEmpty
def digits (l : Bs) : Bool := only dig l
def numb (l : Bs) (exact : Bool) : Bool := digits l && !(exact && decide (1 < l.length) && l.getD 0 0 == 48)
def value (l : Bs) : Bs := l.dropWhile (· == 48)
def cor (x y : Int) : Int := if x = 0 then y else x
def numbers (a b : Bs) : Int := cor (Lib.compareInt (value a).length (value b).length) (Lib.compareBytes (value a) (value b))
def ki (a b : Bs) : Int := if digits a && digits b then numbers a b else if digits a then -1 else if digits b then 1 else Lib.compareBytes a b
def nk (s : Bs) : Bs := UInt8.ofNat (value s).length :: value s
theorem zcs {s : Bs} {p : UInt8 → Bool} {k : Nat} (h : k < s.length) : (s.take (k + 1)).all p = ((s.take k).all p && p s[k]) := by
 rw [List.take_succ_eq_append_getElem h, List.all_append]; simp
theorem zpv {s : Bs} {p : UInt8 → Bool} {k : Nat} (h : k < s.length) (hp : p s[k] = false) : only p s = false := by
 unfold only
 rw [Bool.and_eq_false_iff]; left
 rw [List.all_eq_false]
 exact ⟨s[k], List.getElem_mem h, by simp [hp]⟩
def zd (c : UInt8) : Bs → List Bs
 | [] => [[]]
 | b :: l => if b == c then [] :: zd c l else match zd c l with
  | [] => [[b]]
  | x :: r => (b :: x) :: r
theorem zby (c : UInt8) : ∀ l, zd c l ≠ []
 | [] => by simp [zd]
 | b :: l => by
  unfold zd
  split
  ·simp
  ·split <;> simp
def cut1 (c : UInt8) (l : Bs) : Bs × Bs × Bool :=
 if c ∈ l then (l.takeWhile (· != c), l.drop ((l.takeWhile (· != c)).length + 1), true) else (l, [], false)
theorem index_one (l : Bs) (c : UInt8) : Lib.index l [c] = if c ∈ l then ((l.takeWhile (· != c)).length : Int) else -1 := by
 induction l with
 | nil => simp [Lib.index]
 | cons b l ih =>
  unfold Lib.index
  by_cases h : b = c
  ·subst h; simp [List.isPrefixOf]
  ·have h1 : ([c] : Bs).isPrefixOf (b :: l) = false := by simp [List.isPrefixOf]; exact fun e => h e.symm
   rw [h1, ih]
   have h3 : (b != c) = true := by simpa using h
   have h5 : ¬ c = b := fun e => h e.symm
   by_cases hc : c ∈ l
   ·simp only [hc, if_true, List.mem_cons, or_true, List.takeWhile_cons, h3, List.length_cons]
    have : ((((l.takeWhile (· != c)).length : Nat) : Int) == -1) = false := by rw [beq_eq_false_iff_ne]; omega
    simp [this]
   ·simp [hc, h5]
theorem zji (l : Bs) (p : UInt8 → Bool) : l.take (l.takeWhile p).length = l.takeWhile p := by
 induction l with
 | nil => rfl
 | cons b l ih => by_cases hb : p b = true <;> simp [hb, ih]
theorem cut_one (l : Bs) (c : UInt8) : Lib.cut l [c] = cut1 c l := by
 unfold Lib.cut cut1
 rw [index_one]
 by_cases h : c ∈ l
 ·simp only [h, if_true]
  rw [if_pos (by omega)]
  simp only [Int.toNat_natCast, zji, List.length_singleton]
 ·simp only [h, if_false]
  rw [if_neg (by decide)]
theorem zsx {l : Bs} {c : UInt8} (h : c ∉ l) : Lib.count l [c] = 0 := Lib.count_miss (by rw [index_one, if_neg h])
theorem jy {c : UInt8} : ∀ {l : Bs}, c ∉ l → zd c l = [l]
 | [], _ => rfl
 | b :: l, h => by
  rw [List.mem_cons, not_or] at h
  have h1 : (b == c) = false := by simpa using fun e => h.1 e.symm
  simp [zd, h1, jy h.2]
theorem vr {c : UInt8} : ∀ {l : Bs}, c ∈ l → zd c l = l.takeWhile (· != c) :: zd c (l.drop ((l.takeWhile (· != c)).length + 1))
 | [], h => by simp at h
 | b :: l, h => by
  by_cases hb : b = c
  ·subst hb; simp [zd]
  ·have h3 : (b != c) = true := by simpa using hb
   have h4 : (b == c) = false := by simpa using hb
   have h2 : c ∈ l := by
    rw [List.mem_cons] at h
    rcases h with h | h
    ·exact absurd h.symm hb
    ·exact h
   rw [zd, h4, vr h2]
   simp [h3]
theorem tw_lt {l : Bs} {c : UInt8} (h : c ∈ l) : (l.takeWhile (· != c)).length < l.length := by
 induction l with
 | nil => simp at h
 | cons b l ih =>
  by_cases hb : (b != c) = true
  ·have h2 : c ∈ l := by
    rw [List.mem_cons] at h
    rcases h with h | h
    ·subst h; simp at hb
    ·exact h
   simpa [List.takeWhile_cons, hb] using ih h2
  ·simp [hb]
theorem zg3 (c : UInt8) : ∀ (n : Nat) (l : Bs), l.length ≤ n → Lib.split l [c] = zd c l
 | n, l, hn => by
  unfold Lib.split
  by_cases h : c ∈ l
  ·have hi : Lib.index l [c] = ((l.takeWhile (· != c)).length : Nat) := by rw [index_one, if_pos h]
   rw [Lib.count_hit (by simp) hi, Nat.add_comm, vr h]
   unfold Lib.splitK
   have hne : ¬ (Lib.index l [c] == -1) = true := by
    rw [hi, beq_iff_eq]; omega
   rw [if_neg hne, hi]
   have hlen := tw_lt h
   simp only [Int.toNat_natCast, List.length_singleton, Nat.add_zero, zji]
   congr 1
   cases n with
   | zero => omega
   | succ n => exact zg3 c n _ (by rw [List.length_drop]; omega)
  ·rw [zsx h, jy h]; rfl
theorem xx (l : Bs) (c : UInt8) : decide (0 ≤ Lib.indexByte l c) = decide (c ∈ l) := by
 induction l with
 | nil => simp [Lib.indexByte]
 | cons b l ih =>
  have ih' : (0 ≤ Lib.indexByte l c) ↔ c ∈ l := by simpa using ih
  have hge := Lib.indexByte_ge l c
  unfold Lib.indexByte
  by_cases h : b = c
  ·subst h; simp
  ·have h1 : (b == c) = false := by simpa using h
   have h5 : ¬ c = b := fun e => h e.symm
   rw [h1]
   by_cases hm : Lib.indexByte l c = -1
   ·have : c ∉ l := fun e => by have := ih'.2 e; omega
    simp [hm, this, h5]
   ·have hc : c ∈ l := ih'.1 (by omega)
    simp [hm, hc]; omega
def kind (other : Bs) (c : UInt8) : Bool := lett c || dig c || decide (c ∈ other)
theorem zsq {l : Bs} (h : l.getD 0 0 = 48) (h0 : 0 < l.length) : value l = value (l.drop 1) := by
 cases l with
 | nil => simp at h0
 | cons b l =>
  have : b = 48 := h
  subst this
  simp [value]
theorem zrp {l : Bs} (h : l.getD 0 0 ≠ 48) : value l = l := by
 cases l with
 | nil => rfl
 | cons b l =>
  have : (b == 48) = false := by simpa using h
  simp [value, this]
def sgn (n : Int) : Int := if n < 0 then -1 else if 0 < n then 1 else 0
def orI : List Int → Int
 | [] => 0
 | x :: l => cor x (orI l)
theorem zds : ∀ (xs : List Int) (k : Nat), (∀ j, j < k → xs.getD j 0 = 0) → orI xs = orI (xs.drop k)
 | _, 0, _ => rfl
 | [], k + 1, _ => by simp
 | x :: l, k + 1, h => by
  have h0 : x = 0 := h 0 (by omega)
  rw [List.drop_succ_cons, ← zds l k (fun j hj => h (j + 1) (by omega))]
  subst h0; rfl
end Go.Proofs.YtiloljoancdcbaaGreatDoor.V
namespace Go.Proofs.YtiloljoancdcbaaGreatDoor.V
def kj (exact : Bool) (x : Bs) : Bool := only (kind [45]) x && !(digits x && !numb x exact)
def identifiers (s : Bs) (exact : Bool) : Bool := (zd 46 s).all (kj exact)
def zfa (s : Bs) : Bool := (zd 46 s).all fun x => numb x false
def zo (v : Bs) : Option (List Bs × List Bs) :=
 if ((cut1 43 v).2.2 && !identifiers (cut1 43 v).2.1 false) || ((cut1 45 (cut1 43 v).1).2.2 && !identifiers (cut1 45 (cut1 43 v).1).2.1 true) || (zd 46 (cut1 45 (cut1 43 v).1).1).length != 3 then none
 else if (zd 46 (cut1 45 (cut1 43 v).1).1).all (fun x => numb x true) then
  some (zd 46 (cut1 45 (cut1 43 v).1).1, if (cut1 45 (cut1 43 v).1).2.2 then zd 46 (cut1 45 (cut1 43 v).1).2.1 else [])
 else none
end Go.Proofs.YtiloljoancdcbaaGreatDoor.V
namespace Go.Proofs.YtiloljoancdcbaaGreatDoor.V
theorem orI_hit (xs : List Int) (k : Nat) (h : ∀ j, j < k → xs.getD j 0 = 0) (hk : k < xs.length) (h0 : xs.getD k 0 ≠ 0) : orI xs = xs.getD k 0 := by
 rw [zds xs k h]
 have e : xs.drop k = xs.getD k 0 :: xs.drop (k + 1) := by
  rw [List.drop_eq_getElem_cons hk]; simp [List.getD, List.getElem?_eq_getElem hk]
 rw [e]; unfold orI cor; rw [if_neg h0]
theorem orI_zero (xs : List Int) (h : ∀ j, j < xs.length → xs.getD j 0 = 0) : orI xs = 0 := by
 rw [zds xs xs.length h]; simp [orI]
def ji {α : Type} (f : α → α → Int) : List α → List α → Int
 | [], [] => 0
 | [], _ :: _ => -1
 | _ :: _, [] => 1
 | a :: as, b :: bs => cor (f a b) (ji f as bs)
def zu (s : Bs) (d : Bool) : Bs × Bs := (s.takeWhile fun c => dig c == d, s.dropWhile fun c => dig c == d)
def wt (s : Bs) (i : Nat) : Int := if s.length ≤ i then 2 else if s.getD i 0 = 126 then 1 else if lett (s.getD i 0) then (s.getD i 0).toNat else ((s.getD i 0) ||| 128).toNat
def wcmp (x y : Bs) : Int := orI ((List.range (max x.length y.length)).map fun i => Lib.compareInt (wt x i) (wt y i))
def texts : Nat → Bs → Bs → Int
 | 0, _, _ => 0
 | f + 1, a, b => if a.isEmpty && b.isEmpty then 0 else
  cor (wcmp (zu a false).1 (zu b false).1)
   (cor (numbers (zu (zu a false).2 true).1 (zu (zu b false).2 true).1)
     (texts f (zu (zu a false).2 true).2 (zu (zu b false).2 true).2))
theorem span_len (p : UInt8 → Bool) (s : Bs) : (s.takeWhile p).length + (s.dropWhile p).length = s.length := by
 induction s with
 | nil => rfl
 | cons b l ih => by_cases h : p b = true <;> simp [h] <;> omega
theorem qn (s : Bs) (d : Bool) : (zu s d).1.length + (zu s d).2.length = s.length := span_len _ s
theorem yt (s : Bs) (h : s ≠ []) : (zu (zu s false).2 true).2.length < s.length := by
 have h1 := qn s false
 have h2 := qn (zu s false).2 true
 have h3 : 0 < (zu s false).1.length + (zu (zu s false).2 true).1.length := by
  cases s with
  | nil => exact absurd rfl h
  | cons b l =>
   by_cases hd : dig b = true
   ·simp [zu, hd]
   ·simp [zu, hd]; omega
 omega
theorem zl0 : ∀ (f g : Nat) (a b : Bs), a.length + b.length < f → a.length + b.length < g → texts f a b = texts g a b
 | 0, _, _, _, h, _ => by omega
 | _, 0, _, _, _, h => by omega
 | f + 1, g + 1, a, b, hf, hg => by
  unfold texts
  by_cases he : (a.isEmpty && b.isEmpty) = true
  ·simp [he]
  ·rw [if_neg he, if_neg he]
   congr 2
   have ha := qn a false
   have ha2 := qn (zu a false).2 true
   have hb := qn b false
   have hb2 := qn (zu b false).2 true
   have hne : a ≠ [] ∨ b ≠ [] := by
    rcases a with _ | ⟨x, a⟩
    ·rcases b with _ | ⟨y, b⟩
     ·simp at he
     ·exact .inr (by simp)
    ·exact .inl (by simp)
   have hlt : (zu (zu a false).2 true).2.length + (zu (zu b false).2 true).2.length < a.length + b.length := by
    rcases hne with h | h
    ·have := yt a h; omega
    ·have := yt b h; omega
   exact zl0 f g _ _ (by omega) (by omega)
def ql (a b : Bs) : Int := texts (a.length + b.length + 1) a b
theorem zr9 : ql [] [] = 0 := rfl
theorem zeb (a b : Bs) (h : ¬ (a.isEmpty && b.isEmpty) = true) : ql a b = cor (wcmp (zu a false).1 (zu b false).1)
      (cor (numbers (zu (zu a false).2 true).1 (zu (zu b false).2 true).1)
        (ql (zu (zu a false).2 true).2 (zu (zu b false).2 true).2)) := by
 unfold ql
 rw [texts, if_neg h]
 congr 2
 have hne : a ≠ [] ∨ b ≠ [] := by
  rcases a with _ | ⟨x, a⟩
  ·rcases b with _ | ⟨y, b⟩
   ·simp at h
   ·exact .inr (by simp)
  ·exact .inl (by simp)
 have ha := qn a false
 have ha2 := qn (zu a false).2 true
 have hb := qn b false
 have hb2 := qn (zu b false).2 true
 refine zl0 _ _ _ _ ?_ (by omega)
 rcases hne with h | h
 ·have := yt a h; omega
 ·have := yt b h; omega
theorem vv (y : Int) : cor 0 y = y := rfl
theorem kh {x : Int} (h : x ≠ 0) (y : Int) : cor x y = x := by unfold cor; rw [if_neg h]
theorem zti (s : Bs) (p : UInt8 → Bool) (k : Nat) (hk : k ≤ s.length) (h1 : (s.take k).all p = true) (h2 : k = s.length ∨ ∃ h : k < s.length, p s[k] = false) :
  s.take k = s.takeWhile p ∧ s.drop k = s.dropWhile p := by
 induction s generalizing k with
 | nil => simp
 | cons b l ih =>
  cases k with
  | zero =>
   rcases h2 with h2 | ⟨h, h2⟩
   ·simp at h2
   ·have h2 : p b = false := h2
    simp [h2]
  | succ k =>
   simp at h1
   have h3 := ih k (by simpa using hk) (by simpa using h1.2) (by
     rcases h2 with h2 | ⟨h, h2⟩
     · left; simpa using h2
     · right; exact ⟨by simpa using h, by simpa using h2⟩)
   simp [h1.1, h3.1, h3.2]
def allow : Bs := [46, 43, 126]
def jg (s : Bs) : Int := Lib.lastIndexByte ⟨s.toArray⟩ 45
def jo (ep s : Bs) : Option (Bs × Bs × Bs) :=
 if jg s < 0 then
  if only (kind [46, 43, 126, 45]) s && dig (s.getD 0 0) then some (ep, s, []) else none
 else if only (kind allow) (s.drop ((jg s).toNat + 1)) then
  if only (kind [46, 43, 126, 45]) (s.take (jg s).toNat) && dig ((s.take (jg s).toNat).getD 0 0) then some (ep, s.take (jg s).toNat, s.drop ((jg s).toNat + 1)) else none
 else none
def zr (v : Bs) : Option (Bs × Bs × Bs) :=
 if (cut1 58 v).2.2 then if numb (cut1 58 v).1 false then jo (cut1 58 v).1 (cut1 58 v).2.1 else none
 else jo [] v
def qd (l : List Bs) : List Bs := (l.reverse.dropWhile fun x => (value x).isEmpty).reverse
def ka (v : Bs) : List Bs := qd (zd 46 v)
def zbq (a b : Bs) : Int := ji numbers (ka a) (ka b)
def vk (x y : Bs × Bs × Bs) : Int := orI [numbers x.1 y.1, ql x.2.1 y.2.1, ql x.2.2 y.2.2]
theorem zma (l : List Bs) (x : Bs) (h : (value x).isEmpty = true) : qd (l ++ [x]) = qd l := by
 unfold qd; simp [h]
theorem zl6 (l : List Bs) (x : Bs) (h : (value x).isEmpty = false) : qd (l ++ [x]) = l ++ [x] := by
 unfold qd; simp [h]
def zdd (p q : List Bs) : Int := if p.isEmpty || q.isEmpty then Lib.compareInt q.length p.length else ji ki p q
def jq (x y : List Bs × List Bs) : Int :=
 cor (orI [numbers (x.1.getD 0 []) (y.1.getD 0 []), numbers (x.1.getD 1 []) (y.1.getD 1 []), numbers (x.1.getD 2 []) (y.1.getD 2 [])]) (zdd x.2 y.2)
def yz (n : Int) (v : Bs) : Bool := if n = 1 then (zo v).isSome else if n = 2 then (zr v).isSome else if n = 3 then zfa v else false
def cmpV (n : Int) (a b : Bs) : Int :=
 if n = 1 then (match zo a, zo b with | some x, some y => jq x y | _, _ => 0)
 else if n = 2 then (match zr a, zr b with | some x, some y => vk x y | _, _ => 0)
 else zbq a b
def valid (n : Int) (v : Bs) : Bool := decide (1 ≤ v.length) && decide (v.length ≤ 64) && yz n v
def scheme (n : Int) : Bool := n == 1 || n == 2 || n == 3
def qt (n : Int) (a b : Bs) : Int × Int := if !scheme n then (0, 14) else if valid n a && valid n b then (cmpV n a b, 0) else (0, 1)
end Go.Proofs.YtiloljoancdcbaaGreatDoor.V
namespace Go.Proofs.YtiloljoancdcbaaGreatDoor.V
abbrev cb := Lib.compareBytes
theorem zbe (a b c : Int) : cor (cor a b) c = cor a (cor b c) := by unfold cor; repeat' split <;> simp_all
theorem zet (a : Int) : cor a 0 = a := by unfold cor; split <;> simp_all
theorem ul : ∀ a, cb a a = 0
 | [] => rfl
 | x :: a => by simp [cb, Lib.compareBytes]; exact ul a
theorem xh (x : UInt8) (a b : Bs) : cb (x :: a) (x :: b) = cb a b := by simp [cb, Lib.compareBytes]
theorem zaw {x y : UInt8} (h : x < y) (a b : Bs) : cb (x :: a) (y :: b) = -1 := by simp [cb, Lib.compareBytes, h]
theorem zax {x y : UInt8} (h : y < x) (a b : Bs) : cb (x :: a) (y :: b) = 1 := by
 have h2 : ¬ x < y := fun g => by rw [UInt8.lt_iff_toNat_lt] at h g; omega
 simp [cb, Lib.compareBytes, h, h2]
theorem zdo (x y : UInt8) : x < y ∨ x = y ∨ y < x := by
 rw [UInt8.lt_iff_toNat_lt, UInt8.lt_iff_toNat_lt, ← UInt8.toNat_inj]; omega
theorem zi8 (x y : UInt8) (a b : Bs) : (x < y ∧ cb (x :: a) (y :: b) = -1) ∨ (x = y ∧ cb (x :: a) (y :: b) = cb a b) ∨ (y < x ∧ cb (x :: a) (y :: b) = 1) := by
 rcases zdo x y with h | h | h
 ·exact .inl ⟨h, zaw h a b⟩
 ·subst h; exact .inr (.inl ⟨rfl, xh x a b⟩)
 ·exact .inr (.inr ⟨h, zax h a b⟩)
theorem zlo : ∀ a b, cb a b = -1 ∨ cb a b = 0 ∨ cb a b = 1
 | [], [] => .inr (.inl rfl)
 | [], _ :: _ => .inl rfl
 | _ :: _, [] => .inr (.inr rfl)
 | x :: a, y :: b => by
  rcases zi8 x y a b with ⟨_, h⟩ | ⟨_, h⟩ | ⟨_, h⟩
  ·exact .inl h
  ·rw [h]; exact zlo a b
  ·exact .inr (.inr h)
theorem xg : ∀ a b, cb b a = - cb a b
 | [], [] => rfl
 | [], _ :: _ => rfl
 | _ :: _, [] => rfl
 | x :: a, y :: b => by
  rcases zdo x y with h | h | h
  ·rw [zaw h, zax h]; rfl
  ·subst h; rw [xh, xh]; exact xg a b
  ·rw [zaw h, zax h]
theorem zq3 : ∀ {a b}, cb a b = 0 → a = b
 | [], [], _ => rfl
 | [], _ :: _, h => by simp [cb, Lib.compareBytes] at h
 | _ :: _, [], h => by simp [cb, Lib.compareBytes] at h
 | x :: a, y :: b, h => by
  rcases zi8 x y a b with ⟨_, g⟩ | ⟨e, g⟩ | ⟨_, g⟩
  ·rw [g] at h; simp at h
  ·rw [g] at h; rw [e, zq3 h]
  ·rw [g] at h; simp at h
theorem zbu : ∀ a b c, cb a b ≤ 0 → cb b c ≤ 0 → cb a c ≤ 0
 | [], _, [], _, _ => by simp [cb, Lib.compareBytes]
 | [], _, _ :: _, _, _ => by simp [cb, Lib.compareBytes]
 | _ :: _, [], _, h, _ => by simp [cb, Lib.compareBytes] at h
 | _ :: _, _ :: _, [], _, h => by simp [cb, Lib.compareBytes] at h
 | x :: a, y :: b, z :: c, h, g => by
  rcases zdo x y with h1 | h1 | h1
  ·rcases zdo y z with g1 | g1 | g1
   ·rw [zaw (by rw [UInt8.lt_iff_toNat_lt] at *; omega)]; decide
   ·subst g1; rw [zaw h1]; decide
   ·rw [zax g1] at g; simp at g
  ·subst h1
   rcases zdo x z with g1 | g1 | g1
   ·rw [zaw g1]; decide
   ·subst g1; rw [xh] at *; exact zbu a b c h g
   ·rw [zax g1] at g; simp at g
  ·rw [zax h1] at h; simp at h
theorem cb_app : ∀ (a b x y : Bs), a.length = b.length → cb (a ++ x) (b ++ y) = cor (cb a b) (cb x y)
 | [], [], _, _, _ => rfl
 | [], _ :: _, _, _, h => by simp at h
 | _ :: _, [], _, _, h => by simp at h
 | p :: a, q :: b, x, y, h => by
  rw [List.cons_append, List.cons_append]
  rcases zdo p q with e | e | e
  ·rw [zaw e, zaw e]; rfl
  ·subst e; rw [xh, xh]; exact cb_app a b x y (by simpa using h)
  ·rw [zax e, zax e]; rfl
theorem znw (a : Bs) : (value a).length ≤ a.length := (List.dropWhile_sublist _).length_le
theorem zq9 {m n : Nat} (h : m < n) (hn : n ≤ 255) : UInt8.ofNat m < UInt8.ofNat n := by
 rw [UInt8.lt_iff_toNat_lt, UInt8.toNat_ofNat', UInt8.toNat_ofNat', Nat.mod_eq_of_lt (by omega), Nat.mod_eq_of_lt (by omega)]; exact h
theorem zdv (a b x y : Bs) (ha : a.length ≤ 255) (hb : b.length ≤ 255) : cb (nk a ++ x) (nk b ++ y) = cor (numbers a b) (cb x y) := by
 have h1 := znw a
 have h2 := znw b
 unfold nk numbers Lib.compareInt
 rw [List.cons_append, List.cons_append]
 rcases Nat.lt_trichotomy (value a).length (value b).length with h | h | h
 ·rw [zaw (zq9 h (by omega)), if_pos (by omega)]; rfl
 ·rw [h, xh, cb_app _ _ _ _ h, if_neg (by omega), if_neg (by omega), vv]
 ·rw [zax (zq9 h (by omega)), if_neg (by omega), if_pos (by omega)]; rfl
theorem _root_.Go.Proofs.YtiloljoancdcbaaGreatDoor.z1f {P : Prop} (h : P := by
 rw [UInt8.lt_iff_toNat_lt]
 rw [Ne, ← UInt8.toNat_inj] at this
 have h0 : (0 : UInt8).toNat = 0 := rfl
 omega) : P := h
theorem zt2 : ∀ (p q x y : Bs), (∀ c ∈ p, c ≠ 0) → (∀ c ∈ q, c ≠ 0) → cb (p ++ 0 :: x) (q ++ 0 :: y) = cor (cb p q) (cb x y)
 | [], [], x, y, _, _ => by rw [List.nil_append, List.nil_append, xh]; rfl
 | [], b :: q, x, y, _, h => by
  have hb : (0 : UInt8) < b := by
   have := h b (by simp)
   exact z1f
  rw [List.nil_append, List.cons_append, zaw hb]; rfl
 | b :: p, [], x, y, h, _ => by
  have hb : (0 : UInt8) < b := by
   have := h b (by simp)
   exact z1f
  rw [List.nil_append, List.cons_append, zax hb]; rfl
 | b :: p, c :: q, x, y, h, g => by
  rw [List.cons_append, List.cons_append]
  rcases zdo b c with e | e | e
  ·rw [zaw e, zaw e]; rfl
  ·subst e
   rw [xh, xh]
   exact zt2 p q x y (fun d hd => h d (by simp [hd])) (fun d hd => g d (by simp [hd]))
  ·rw [zax e, zax e]; rfl
def ze9 (p : Bs) : Bs := if digits p then 1 :: nk p else 2 :: (p ++ [0])
def um (l : List Bs) : Bs := (l.map ze9).flatten
def zo8 (l : List Bs) : Bs := if l.isEmpty then [3] else um l ++ [0]
def zog (x : List Bs × List Bs) : Bs := nk (x.1.getD 0 []) ++ (nk (x.1.getD 1 []) ++ (nk (x.1.getD 2 []) ++ zo8 x.2))
def Tame (p : Bs) : Prop := p.length ≤ 255 ∧ ∀ c ∈ p, c ≠ 0
theorem zuh (p q x y : Bs) (hp : Tame p) (hq : Tame q) : cb (ze9 p ++ x) (ze9 q ++ y) = cor (ki p q) (cb x y) := by
 unfold ze9 ki
 rcases h1 : digits p with _ | _ <;> rcases h2 : digits q with _ | _
 ·simp only [Bool.false_eq_true, if_false, Bool.and_self]
  rw [List.cons_append, List.cons_append, xh, List.append_assoc, List.append_assoc]
  exact zt2 p q x y hp.2 hq.2
 ·simp only [Bool.false_eq_true, if_false, if_true, Bool.and_true]
  rw [List.cons_append, List.cons_append, zax (by decide)]; rfl
 ·simp only [Bool.false_eq_true, if_false, if_true, Bool.and_false]
  rw [List.cons_append, List.cons_append, zaw (by decide)]; rfl
 ·simp only [if_true, Bool.and_self]
  rw [List.cons_append, List.cons_append, xh]
  exact zdv p q x y hp.1 hq.1
theorem zc7 (p x : Bs) : ∃ c r, ze9 p ++ x = c :: r ∧ 0 < c ∧ c < 3 := by
 unfold ze9
 split
 ·exact ⟨_, _, rfl, by decide, by decide⟩
 ·exact ⟨_, _, rfl, by decide, by decide⟩
theorem zls : ∀ p q : List Bs, (∀ x ∈ p, Tame x) → (∀ x ∈ q, Tame x) → cb (um p ++ [0]) (um q ++ [0]) = ji ki p q
 | [], [], _, _ => rfl
 | [], b :: q, _, _ => by
  obtain ⟨c, r, h, hc, _⟩ := zc7 b (um q ++ [0])
  show cb [0] ((ze9 b ++ um q) ++ [0]) = -1
  rw [List.append_assoc, h, zaw hc]
 | b :: p, [], _, _ => by
  obtain ⟨c, r, h, hc, _⟩ := zc7 b (um p ++ [0])
  show cb ((ze9 b ++ um p) ++ [0]) [0] = 1
  rw [List.append_assoc, h, zax hc]
 | a :: p, b :: q, hp, hq => by
  show cb ((ze9 a ++ um p) ++ [0]) ((ze9 b ++ um q) ++ [0]) = cor (ki a b) (ji ki p q)
  rw [List.append_assoc, List.append_assoc, zuh a b _ _ (hp a (by simp)) (hq b (by simp)), zls p q (fun x h => hp x (by simp [h])) (fun x h => hq x (by simp [h]))]
theorem zsk (p q : List Bs) (hp : ∀ x ∈ p, Tame x) (hq : ∀ x ∈ q, Tame x) : cb (zo8 p) (zo8 q) = zdd p q := by
 unfold zo8 zdd
 cases p with
 | nil =>
  cases q with
  | nil => rfl
  | cons b q =>
   obtain ⟨c, r, h, _, hc⟩ := zc7 b (um q ++ [0])
   have e : um (b :: q) ++ [0] = c :: r := by rw [← h]; simp [um]
   simp only [List.isEmpty_nil, List.isEmpty_cons, if_true, if_false, Bool.false_eq_true, Bool.true_or]
   rw [e, zax hc]
   unfold Lib.compareInt
   rw [if_neg (by simp; try omega), if_pos (by simp; try omega)]
 | cons a p =>
  cases q with
  | nil =>
   obtain ⟨c, r, h, _, hc⟩ := zc7 a (um p ++ [0])
   have e : um (a :: p) ++ [0] = c :: r := by rw [← h]; simp [um]
   simp only [List.isEmpty_nil, List.isEmpty_cons, if_true, if_false, Bool.false_eq_true, Bool.or_true]
   rw [e, zaw hc]
   unfold Lib.compareInt
   rw [if_pos (by simp; try omega)]
  | cons b q => simp only [List.isEmpty_cons, if_false, Bool.false_eq_true, Bool.or_self]; exact zls _ _ hp hq
theorem zs4 (x y : List Bs × List Bs) (hx : ∀ k, (x.1.getD k []).length ≤ 255) (hy : ∀ k, (y.1.getD k []).length ≤ 255) (hp : ∀ z ∈ x.2, Tame z) (hq : ∀ z ∈ y.2, Tame z) :
  cb (zog x) (zog y) = jq x y := by
 unfold zog jq
 rw [zdv _ _ _ _ (hx 0) (hy 0), zdv _ _ _ _ (hx 1) (hy 1), zdv _ _ _ _ (hx 2) (hy 2), zsk _ _ hp hq]
 simp only [orI, zet, zbe]
def wb (c : UInt8) : UInt8 := if c = 126 then 1 else if lett c then c else c ||| 128
def wts (s : Bs) : Bs := s.map wb ++ [2]
theorem znx (c : UInt8) : wb c ≠ 2 := by
 have h : ∀ n : Fin 256, wb (UInt8.ofNat n.val) ≠ 2 := by decide +kernel
 have := h ⟨c.toNat, c.toNat_lt⟩
 rwa [show UInt8.ofNat c.toNat = c from UInt8.ofNat_toNat] at this
theorem zje (c : UInt8) (s : Bs) : wt (c :: s) 0 = (wb c).toNat := by
 unfold wt wb
 simp only [List.length_cons, List.getD_cons_zero]
 rw [if_neg (by omega)]
 repeat' split
 all_goals rfl
theorem zt0 (c : UInt8) (s : Bs) (i : Nat) : wt (c :: s) (i + 1) = wt s i := by
 unfold wt
 simp only [List.length_cons, List.getD_cons_succ, Nat.add_le_add_iff_right]
theorem wt_nil (i : Nat) : wt [] i = 2 := by unfold wt; simp
theorem zuo (b c : UInt8) (p q : Bs) : wcmp (b :: p) (c :: q) = cor (Lib.compareInt (wb b).toNat (wb c).toNat) (wcmp p q) := by
 unfold wcmp
 rw [List.length_cons, List.length_cons, Nat.succ_max_succ, List.range_succ_eq_map, List.map_cons, orI, zje, zje, List.map_map]
 congr 2
 exact List.map_congr_left (fun i _ => by show Lib.compareInt (wt (b :: p) (i + 1)) (wt (c :: q) (i + 1)) = _; rw [zt0, zt0])
theorem zef {a b : Int} (h : a ≠ b) : Lib.compareInt a b ≠ 0 := by unfold Lib.compareInt; repeat' split <;> omega
theorem zl4 (c : UInt8) (q : Bs) : wcmp [] (c :: q) = Lib.compareInt 2 (wb c).toNat := by
 unfold wcmp
 rw [List.length_nil, List.length_cons, Nat.zero_max, List.range_succ_eq_map, List.map_cons, orI, zje, wt_nil, kh]
 apply zef
 intro e
 apply znx c
 rw [← UInt8.toNat_inj]
 have : (2 : UInt8).toNat = 2 := rfl
 omega
theorem zns (c : UInt8) (q : Bs) : wcmp (c :: q) [] = Lib.compareInt (wb c).toNat 2 := by
 unfold wcmp
 rw [List.length_nil, List.length_cons, Nat.max_zero, List.range_succ_eq_map, List.map_cons, orI, zje, wt_nil, kh]
 apply zef
 intro e
 apply znx c
 rw [← UInt8.toNat_inj]
 have : (2 : UInt8).toNat = 2 := rfl
 omega
theorem wcmp_nil : wcmp [] [] = 0 := rfl
theorem zly (x y : UInt8) (a b : Bs) : cb (x :: a) (y :: b) = cor (Lib.compareInt x.toNat y.toNat) (cb a b) := by
 unfold Lib.compareInt
 rcases zdo x y with e | e | e
 ·rw [zaw e, if_pos (by rw [UInt8.lt_iff_toNat_lt] at e; omega)]; rfl
 ·subst e; rw [xh, if_neg (by omega), if_neg (by omega)]; rfl
 ·rw [zax e, if_neg (by rw [UInt8.lt_iff_toNat_lt] at e; omega), if_pos (by rw [UInt8.lt_iff_toNat_lt] at e; omega)]; rfl
theorem zgz : ∀ (p q x y : Bs), cb (wts p ++ x) (wts q ++ y) = cor (wcmp p q) (cb x y)
 | [], [], x, y => by rw [wcmp_nil, vv]; exact xh 2 x y
 | [], c :: q, x, y => by
  rw [zl4]
  show cb (2 :: x) (wb c :: (wts q ++ y)) = _
  rw [zly]
  have h : Lib.compareInt ((2 : UInt8).toNat : Int) (wb c).toNat ≠ 0 := zef (by
    intro e; apply znx c; rw [← UInt8.toNat_inj]; omega)
  rw [kh h]
  exact (kh h _).symm
 | c :: p, [], x, y => by
  rw [zns]
  show cb (wb c :: (wts p ++ x)) (2 :: y) = _
  rw [zly]
  have h : Lib.compareInt (wb c).toNat ((2 : UInt8).toNat : Int) ≠ 0 := zef (by
    intro e; apply znx c; rw [← UInt8.toNat_inj]; omega)
  rw [kh h]
  exact (kh h _).symm
 | b :: p, c :: q, x, y => by
  rw [zuo]
  show cb (wb b :: (wts p ++ x)) (wb c :: (wts q ++ y)) = _
  rw [zly, zgz p q x y, zbe]
def zdk (s : Bs) : Bs := (zu (zu s false).2 true).2
def ze6 (s : Bs) : Bs := wts (zu s false).1 ++ nk (zu (zu s false).2 true).1
def zdj : Nat → Bs → Bs
 | 0, _ => [2]
 | f + 1, s => if s.isEmpty then [2] else ze6 s ++ zdj f (zdk s)
def zgh (s : Bs) : Bs := ze6 s ++ zdj s.length (zdk s)
theorem zm6 (s : Bs) : (zdk s).length ≤ s.length := by
 have h1 := qn s false
 have h2 := qn (zu s false).2 true
 unfold zdk; omega
theorem zqz {s : Bs} (h : s ≠ []) : (zdk s).length < s.length := yt s h
theorem zn3 {p : UInt8 → Bool} : ∀ {l : Bs} {c r}, l.dropWhile p = c :: r → p c = false
 | b :: l, c, r, h => by
  rw [List.dropWhile_cons] at h
  split at h
  ·exact zn3 h
  ·rename_i hb
   simp at h; obtain ⟨rfl, _⟩ := h; exact Bool.eq_false_iff.2 hb
theorem zc0 {s : Bs} {c : UInt8} {r : Bs} (h : zdk s = c :: r) : dig c = false := by
 have := zn3 (p := fun c => dig c == true) (show List.dropWhile _ _ = c :: r from h)
 simpa using this
theorem za3 (a b : Bs) : ql a b = cor (wcmp (zu a false).1 (zu b false).1)
      (cor (numbers (zu (zu a false).2 true).1 (zu (zu b false).2 true).1) (ql (zdk a) (zdk b))) := by
 by_cases h : (a.isEmpty && b.isEmpty) = true
 ·rw [Bool.and_eq_true, List.isEmpty_iff, List.isEmpty_iff] at h
  obtain ⟨rfl, rfl⟩ := h
  decide +kernel
 ·exact zeb a b h
theorem zgu (s : Bs) : (zu s false).1.length ≤ s.length ∧ (zu (zu s false).2 true).1.length ≤ s.length := by
 have h1 := qn s false
 have h2 := qn (zu s false).2 true
 omega
theorem zn7 {c : UInt8} (r : Bs) (h : dig c = false) : ∃ q, (zu (c :: r) false).1 = c :: q := by
 unfold zu
 refine ⟨r.takeWhile fun c => dig c == false, ?_⟩
 simp [h]
theorem zn8 : ∀ (f g : Nat) (a b x y : Bs), a.length ≤ f → b.length ≤ g → a.length ≤ 255 → b.length ≤ 255 → (∀ c r, a = c :: r → dig c = false) → (∀ c r, b = c :: r → dig c = false) →
  cb (zdj f a ++ x) (zdj g b ++ y) = cor (ql a b) (cb x y)
 | f, g, [], [], x, y, _, _, _, _, _, _ => by
  have e1 : zdj f [] = [2] := by cases f <;> rfl
  have e2 : zdj g [] = [2] := by cases g <;> rfl
  rw [e1, e2, zr9, vv]; exact xh 2 x y
 | f, 0, _, _ :: _, _, _, _, h, _, _, _, _ => by simp at h
 | 0, g, _ :: _, _, _, _, h, _, _, _, _, _ => by simp at h
 | f, g + 1, [], c :: r, x, y, _, _, _, _, _, hb => by
  have e1 : zdj f [] = wts [] := by cases f <;> rfl
  obtain ⟨q, hq⟩ := zn7 r (hb c r rfl)
  have e0 : (zu ([] : Bs) false).1 = [] := rfl
  have hw : wcmp [] (c :: q) ≠ 0 := by
   rw [zl4]; exact zef (by intro e; apply znx c; rw [← UInt8.toNat_inj]; have : (2 : UInt8).toNat = 2 := rfl; omega)
  rw [za3, hq, e0, kh hw, e1]
  show cb (wts [] ++ x) ((ze6 (c :: r) ++ zdj g (zdk (c :: r))) ++ y) = _
  unfold ze6
  rw [hq, List.append_assoc, List.append_assoc, zgz, kh hw, kh hw]
 | f + 1, g, c :: r, [], x, y, _, _, _, _, ha, _ => by
  have e1 : zdj g [] = wts [] := by cases g <;> rfl
  obtain ⟨q, hq⟩ := zn7 r (ha c r rfl)
  have e0 : (zu ([] : Bs) false).1 = [] := rfl
  have hw : wcmp (c :: q) [] ≠ 0 := by
   rw [zns]; exact zef (by intro e; apply znx c; rw [← UInt8.toNat_inj]; have : (2 : UInt8).toNat = 2 := rfl; omega)
  rw [za3, hq, e0, kh hw, e1]
  show cb ((ze6 (c :: r) ++ zdj f (zdk (c :: r))) ++ x) (wts [] ++ y) = _
  unfold ze6
  rw [hq, List.append_assoc, List.append_assoc, zgz, kh hw, kh hw]
 | f + 1, g + 1, c :: r, d :: t, x, y, hf, hg, h1, h2, ha, hb => by
  have l1 := zqz (s := c :: r) (by simp)
  have l2 := zqz (s := d :: t) (by simp)
  have s1 := zgu (c :: r)
  have s2 := zgu (d :: t)
  rw [za3]
  show cb ((ze6 (c :: r) ++ zdj f (zdk (c :: r))) ++ x) ((ze6 (d :: t) ++ zdj g (zdk (d :: t))) ++ y) = _
  unfold ze6
  rw [List.append_assoc, List.append_assoc, List.append_assoc, List.append_assoc, zgz, zdv _ _ _ _ (by omega) (by omega),
    zn8 f g _ _ x y (by omega) (by omega) (by omega) (by omega) (fun _ _ h => zc0 h) (fun _ _ h => zc0 h), zbe, zbe]
theorem zh1 (a b x y : Bs) (ha : a.length ≤ 255) (hb : b.length ≤ 255) : cb (zgh a ++ x) (zgh b ++ y) = cor (ql a b) (cb x y) := by
 have l1 := zm6 a
 have l2 := zm6 b
 have s1 := zgu a
 have s2 := zgu b
 unfold zgh ze6
 rw [za3, List.append_assoc, List.append_assoc, List.append_assoc, List.append_assoc, zgz, zdv _ _ _ _ (by omega) (by omega),
   zn8 _ _ _ _ x y (by omega) (by omega) (by omega) (by omega) (fun _ _ h => zc0 h) (fun _ _ h => zc0 h), zbe, zbe]
def zo9 (x : Bs × Bs × Bs) : Bs := nk x.1 ++ (zgh x.2.1 ++ zgh x.2.2)
theorem zs6 (x y : Bs × Bs × Bs) (h1 : x.1.length ≤ 255) (h2 : x.2.1.length ≤ 255) (h3 : x.2.2.length ≤ 255) (g1 : y.1.length ≤ 255) (g2 : y.2.1.length ≤ 255) (g3 : y.2.2.length ≤ 255) :
  cb (zo9 x) (zo9 y) = vk x y := by
 unfold zo9 vk
 rw [zdv _ _ _ _ h1 g1, zh1 _ _ _ _ h2 g2]
 have := zh1 x.2.2 y.2.2 [] [] h3 g3
 rw [List.append_nil, List.append_nil, show cb [] [] = 0 from rfl, zet] at this
 rw [this]
 simp only [orI, zet]
def zs7 (l : List Bs) : Bs := (l.map fun x => 1 :: nk x).flatten
def zrx (l : List Bs) : Bs := zs7 l ++ [0]
theorem zk1 : ∀ p q : List Bs, (∀ x ∈ p, x.length ≤ 255) → (∀ x ∈ q, x.length ≤ 255) → cb (zrx p) (zrx q) = ji numbers p q
 | [], [], _, _ => rfl
 | [], b :: q, _, _ => rfl
 | b :: p, [], _, _ => rfl
 | a :: p, b :: q, hp, hq => by
  show cb (((1 :: nk a) ++ zs7 p) ++ [0]) (((1 :: nk b) ++ zs7 q) ++ [0]) = cor (numbers a b) (ji numbers p q)
  rw [List.append_assoc, List.append_assoc, List.cons_append, List.cons_append, xh, zdv _ _ _ _ (hp a (by simp)) (hq b (by simp))]
  congr 1
  exact zk1 p q (fun x h => hp x (by simp [h])) (fun x h => hq x (by simp [h]))
def keyV (n : Int) (v : Bs) : Bs :=
 if n = 1 then (match zo v with | some x => zog x | none => [])
 else if n = 2 then (match zr v with | some x => zo9 x | none => [])
 else zrx (ka v)
theorem zgl (c : UInt8) (l : Bs) : (cut1 c l).1.length ≤ l.length ∧ (cut1 c l).2.1.length ≤ l.length := by
 unfold cut1
 split
 ·exact ⟨(List.takeWhile_sublist _).length_le, by simp⟩
 ·simp
theorem _root_.Go.Proofs.YtiloljoancdcbaaGreatDoor.zyg {P : Prop} (h : P := by
 split at h
 ·rcases List.mem_cons.1 h with h | h
  ·simp [h]
  ·have := ih x h; simp; omega
 ·split at h
  ·simp at h; simp [h]
  ·rename_i y r he
   rw [he] at ih
   rcases List.mem_cons.1 h with h | h
   ·subst h; have := ih y (by simp); simp; omega
   ·have := ih x (by simp [h]); simp; omega) : P := h
theorem zcy (c : UInt8) : ∀ (l x : Bs), x ∈ zd c l → x.length ≤ l.length
 | [], x, h => by simp [zd] at h; simp [h]
 | b :: l, x, h => by
  have ih := zcy c l
  unfold zd at h
  exact zyg
theorem zlt {e : Bool} {x : Bs} (h : kj e x = true) (hl : x.length ≤ 255) : Tame x := by
 refine ⟨hl, fun c hc e0 => ?_⟩
 subst e0
 unfold kj only at h
 rw [Bool.and_eq_true, Bool.and_eq_true, List.all_eq_true] at h
 have := h.1.1 0 hc
 revert this; decide +kernel
theorem vt {s : Bs} {l pre : List Bs} (h : zo s = some (l, pre)) : (∀ x ∈ l, x.length ≤ s.length) ∧ (∀ x ∈ pre, x.length ≤ s.length ∧ kj true x = true) := by
 unfold zo at h
 have h1 := zgl 43 s
 have h2 := zgl 45 (cut1 43 s).1
 split at h
 ·cases h
 ·rename_i hn
  split at h
  ·simp only [Option.some.injEq, Prod.mk.injEq] at h
   obtain ⟨rfl, h⟩ := h
   refine ⟨fun x hx => by have := zcy 46 _ x hx; omega, fun x hx => ?_⟩
   split at h
   ·rename_i hc
    subst h
    refine ⟨by have := zcy 46 _ x hx; omega, ?_⟩
    have hi : identifiers (cut1 45 (cut1 43 s).1).2.1 true = true := by
     rcases hb : identifiers (cut1 45 (cut1 43 s).1).2.1 true with _ | _
     ·rw [hb, hc] at hn; simp at hn
     ·rfl
    unfold identifiers at hi
    rw [List.all_eq_true] at hi
    exact hi x hx
   ·subst h; simp at hx
  ·cases h
theorem vs {s : Bs} {x : Bs × Bs × Bs} (h : zr s = some x) : x.1.length ≤ s.length ∧ x.2.1.length ≤ s.length ∧ x.2.2.length ≤ s.length := by
 have ht : ∀ {ep t : Bs}, ep.length ≤ s.length → t.length ≤ s.length → jo ep t = some x → x.1.length ≤ s.length ∧ x.2.1.length ≤ s.length ∧ x.2.2.length ≤ s.length := by
  intro ep t he hl h
  unfold jo at h
  repeat' split at h
  all_goals first | (cases h; done) | (simp only [Option.some.injEq] at h; subst h; simp only [List.length_take, List.length_drop, List.length_nil]; omega)
 have h1 := zgl 58 s
 unfold zr at h
 split at h
 ·split at h
  ·exact ht h1.1 h1.2 h
  ·cases h
 ·exact ht (by simp) (Nat.le_refl _) h
theorem zgy {s x : Bs} (h : x ∈ ka s) : x.length ≤ s.length := by
 unfold ka qd at h
 rw [List.mem_reverse] at h
 exact zcy 46 s x (List.mem_reverse.1 ((List.dropWhile_sublist _).subset h))
theorem vg {n : Int} {v : Bs} (h : valid n v = true) : v.length ≤ 64 := by
 unfold valid at h; simp at h; omega
theorem zeo {l : List Bs} {m : Nat} (h : ∀ x ∈ l, x.length ≤ m) (k : Nat) : (l.getD k []).length ≤ m := by
 rw [List.getD_eq_getElem?_getD]
 rcases hk : l[k]? with _ | x
 ·simp
 ·exact h x (List.mem_of_getElem? hk)
theorem zeu {n : Int} (hn : scheme n = true) {a b : Bs} (ha : valid n a = true) (hb : valid n b = true) : cb (keyV n a) (keyV n b) = cmpV n a b := by
 have l1 := vg ha
 have l2 := vg hb
 have hs : n = 1 ∨ n = 2 ∨ n = 3 := by unfold scheme at hn; simpa [or_assoc] using hn
 rcases hs with rfl | rfl | rfl
 ·unfold keyV cmpV
  rw [if_pos rfl, if_pos rfl, if_pos rfl]
  obtain ⟨⟨la, pa⟩, e1⟩ := Option.isSome_iff_exists.1 (show (zo a).isSome = true by unfold valid yz at ha; simp at ha; exact ha.2)
  obtain ⟨⟨lb, pb⟩, e2⟩ := Option.isSome_iff_exists.1 (show (zo b).isSome = true by unfold valid yz at hb; simp at hb; exact hb.2)
  have f1 := vt e1
  have f2 := vt e2
  rw [e1, e2]
  exact zs4 _ _ (fun k => by have := zeo f1.1 k; simp only; omega) (fun k => by have := zeo f2.1 k; simp only; omega)
   (fun z hz => zlt (f1.2 z hz).2 (by have := (f1.2 z hz).1; omega)) (fun z hz => zlt (f2.2 z hz).2 (by have := (f2.2 z hz).1; omega))
 ·unfold keyV cmpV
  rw [if_neg (by decide), if_pos rfl, if_neg (by decide), if_pos rfl, if_neg (by decide), if_pos rfl]
  obtain ⟨x, e1⟩ := Option.isSome_iff_exists.1 (show (zr a).isSome = true by unfold valid yz at ha; simp at ha; exact ha.2)
  obtain ⟨y, e2⟩ := Option.isSome_iff_exists.1 (show (zr b).isSome = true by unfold valid yz at hb; simp at hb; exact hb.2)
  have f1 := vs e1
  have f2 := vs e2
  rw [e1, e2]
  exact zs6 _ _ (by omega) (by omega) (by omega) (by omega) (by omega) (by omega)
 ·unfold keyV cmpV
  rw [if_neg (by decide), if_neg (by decide), if_neg (by decide), if_neg (by decide), if_neg (by decide), if_neg (by decide)]
  exact zk1 _ _ (fun x hx => by have := zgy hx; omega) (fun x hx => by have := zgy hx; omega)
theorem zur {n : Int} (hn : scheme n = true) {a b c : Bs} (ha : valid n a = true) (hb : valid n b = true) (hc : valid n c = true) :
  cmpV n a b = - cmpV n b a ∧ cmpV n a a = 0 ∧ ¬ (cmpV n a b ≤ 0 ∧ cmpV n b c ≤ 0 ∧ 0 < cmpV n a c) ∧ ¬ (0 ≤ cmpV n a b ∧ 0 ≤ cmpV n b c ∧ cmpV n a c < 0) ∧ (cmpV n a b = 0 → cmpV n b c = cmpV n a c) := by
 rw [← zeu hn ha hb, ← zeu hn hb ha, ← zeu hn ha ha, ← zeu hn hb hc, ← zeu hn ha hc]
 refine ⟨xg _ _, ul _, fun h => ?_, fun h => ?_, fun h => ?_⟩
 ·have := zbu _ _ _ h.1 h.2.1; omega
 ·have h1 := xg (keyV n a) (keyV n b)
  have h2 := xg (keyV n b) (keyV n c)
  have h3 := xg (keyV n a) (keyV n c)
  have := zbu (keyV n c) (keyV n b) (keyV n a) (by omega) (by omega)
  omega
 ·rw [zq3 h]
end Go.Proofs.YtiloljoancdcbaaGreatDoor.V
