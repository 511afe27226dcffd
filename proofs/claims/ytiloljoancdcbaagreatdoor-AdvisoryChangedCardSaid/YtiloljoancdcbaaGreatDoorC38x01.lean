/-
  Lemmas for the law.
-/
import Derived.Lib.Split
import Derived.Lib.LastIndexLaws
import Derived.Lib.Small
import Derived.Lib.SlTrimSet
import Derived.Lib.LastIndexByte
set_option linter.all false
namespace Go.Proofs.YtiloljoancdcbaaGreatDoor.V
abbrev Bs := List UInt8
def digB (n : Int) : Bool := decide (48 ≤ n) && decide (n ≤ 57)
def letB (n : Int) : Bool := (decide (97 ≤ n) && decide (n ≤ 122)) || (decide (65 ≤ n) && decide (n ≤ 90))
def dig (c : UInt8) : Bool := digB c.toNat
def lett (c : UInt8) : Bool := letB c.toNat
def only (p : UInt8 → Bool) (l : Bs) : Bool := l.all p && !l.isEmpty
def digits (l : Bs) : Bool := only dig l
def numb (l : Bs) (exact : Bool) : Bool := digits l && !(exact && decide (1 < l.length) && l.getD 0 0 == 48)
def value (l : Bs) : Bs := l.dropWhile (· == 48)
def cor (x y : Int) : Int := if x = 0 then y else x
def numbers (a b : Bs) : Int := cor (Lib.compareInt (value a).length (value b).length) (Lib.compareBytes (value a) (value b))
def kh (a b : Bs) : Int := if digits a && digits b then numbers a b else if digits a then -1 else if digits b then 1 else Lib.compareBytes a b
def nk (s : Bs) : Bs := UInt8.ofNat (value s).length :: value s
theorem zco {s : Bs} {p : UInt8 → Bool} {k : Nat} (h : k < s.length) : (s.take (k + 1)).all p = ((s.take k).all p && p s[k]) := by
 rw [List.take_succ_eq_append_getElem h, List.all_append]; simp
theorem zpf {s : Bs} {p : UInt8 → Bool} {k : Nat} (h : k < s.length) (hp : p s[k] = false) : only p s = false := by
 unfold only
 rw [Bool.and_eq_false_iff]; left
 rw [List.all_eq_false]
 exact ⟨s[k], List.getElem_mem h, by simp [hp]⟩
def ze (c : UInt8) : Bs → List Bs
 | [] => [[]]
 | b :: l => if b == c then [] :: ze c l else match ze c l with
  | [] => [[b]]
  | x :: r => (b :: x) :: r
theorem zda (c : UInt8) : ∀ l, ze c l ≠ []
 | [] => by simp [ze]
 | b :: l => by
  unfold ze
  split
  ·simp
  ·split <;> simp
def cut1 (c : UInt8) (l : Bs) : Bs × Bs × Bool :=
 if c ∈ l then (l.takeWhile (· != c), l.drop ((l.takeWhile (· != c)).length + 1), true) else (l, [], false)
theorem index_one (l : Bs) (c : UInt8) : Lib.index l [c] = if c ∈ l then ((l.takeWhile (· != c)).length : Int) else -1 := by
 induction l with
 | nil => simp [Lib.index]
 | cons b l ih =>
  unfold Lib.index
  by_cases h : b = c
  ·subst h; simp [List.isPrefixOf]
  ·have h1 : ([c] : Bs).isPrefixOf (b :: l) = false := by simp [List.isPrefixOf]; exact fun e => h e.symm
   rw [h1, ih]
   have h3 : (b != c) = true := by simpa using h
   have h5 : ¬ c = b := fun e => h e.symm
   by_cases hc : c ∈ l
   ·simp only [hc, if_true, List.mem_cons, or_true, List.takeWhile_cons, h3, List.length_cons]
    have : ((((l.takeWhile (· != c)).length : Nat) : Int) == -1) = false := by rw [beq_eq_false_iff_ne]; omega
    simp [this]
   ·simp [hc, h5]
theorem ziz (l : Bs) (p : UInt8 → Bool) : l.take (l.takeWhile p).length = l.takeWhile p := by
 induction l with
 | nil => rfl
 | cons b l ih => by_cases hb : p b = true <;> simp [hb, ih]
theorem cut_one (l : Bs) (c : UInt8) : Lib.cut l [c] = cut1 c l := by
 unfold Lib.cut cut1
 rw [index_one]
 by_cases h : c ∈ l
 ·simp only [h, if_true]
  rw [if_pos (by omega)]
  simp only [Int.toNat_natCast, ziz, List.length_singleton]
 ·simp only [h, if_false]
  rw [if_neg (by decide)]
theorem zss {l : Bs} {c : UInt8} (h : c ∉ l) : Lib.count l [c] = 0 := Lib.count_miss (by rw [index_one, if_neg h])
theorem ju {c : UInt8} : ∀ {l : Bs}, c ∉ l → ze c l = [l]
 | [], _ => rfl
 | b :: l, h => by
  rw [List.mem_cons, not_or] at h
  have h1 : (b == c) = false := by simpa using fun e => h.1 e.symm
  simp [ze, h1, ju h.2]
theorem vx {c : UInt8} : ∀ {l : Bs}, c ∈ l → ze c l = l.takeWhile (· != c) :: ze c (l.drop ((l.takeWhile (· != c)).length + 1))
 | [], h => by simp at h
 | b :: l, h => by
  by_cases hb : b = c
  ·subst hb; simp [ze]
  ·have h3 : (b != c) = true := by simpa using hb
   have h4 : (b == c) = false := by simpa using hb
   have h2 : c ∈ l := by
    rw [List.mem_cons] at h
    rcases h with h | h
    ·exact absurd h.symm hb
    ·exact h
   rw [ze, h4, vx h2]
   simp [h3]
theorem tw_lt {l : Bs} {c : UInt8} (h : c ∈ l) : (l.takeWhile (· != c)).length < l.length := by
 induction l with
 | nil => simp at h
 | cons b l ih =>
  by_cases hb : (b != c) = true
  ·have h2 : c ∈ l := by
    rw [List.mem_cons] at h
    rcases h with h | h
    ·subst h; simp at hb
    ·exact h
   simpa [List.takeWhile_cons, hb] using ih h2
  ·simp [hb]
theorem zma (c : UInt8) : ∀ (n : Nat) (l : Bs), l.length ≤ n → Lib.split l [c] = ze c l
 | n, l, hn => by
  unfold Lib.split
  by_cases h : c ∈ l
  ·have hi : Lib.index l [c] = ((l.takeWhile (· != c)).length : Nat) := by rw [index_one, if_pos h]
   rw [Lib.count_hit (by simp) hi, Nat.add_comm, vx h]
   unfold Lib.splitK
   have hne : ¬ (Lib.index l [c] == -1) = true := by
    rw [hi, beq_iff_eq]; omega
   rw [if_neg hne, hi]
   have hlen := tw_lt h
   simp only [Int.toNat_natCast, List.length_singleton, Nat.add_zero, ziz]
   congr 1
   cases n with
   | zero => omega
   | succ n => exact zma c n _ (by rw [List.length_drop]; omega)
  ·rw [zss h, ju h]; rfl
theorem xz (l : Bs) (c : UInt8) : decide (0 ≤ Lib.indexByte l c) = decide (c ∈ l) := by
 induction l with
 | nil => simp [Lib.indexByte]
 | cons b l ih =>
  have ih' : (0 ≤ Lib.indexByte l c) ↔ c ∈ l := by simpa using ih
  have hge := Lib.indexByte_ge l c
  unfold Lib.indexByte
  by_cases h : b = c
  ·subst h; simp
  ·have h1 : (b == c) = false := by simpa using h
   have h5 : ¬ c = b := fun e => h e.symm
   rw [h1]
   by_cases hm : Lib.indexByte l c = -1
   ·have : c ∉ l := fun e => by have := ih'.2 e; omega
    simp [hm, this, h5]
   ·have hc : c ∈ l := ih'.1 (by omega)
    simp [hm, hc]; omega
def kind (other : Bs) (c : UInt8) : Bool := lett c || dig c || decide (c ∈ other)
theorem zsk {l : Bs} (h : l.getD 0 0 = 48) (h0 : 0 < l.length) : value l = value (l.drop 1) := by
 cases l with
 | nil => simp at h0
 | cons b l =>
  have : b = 48 := h
  subst this
  simp [value]
theorem zre {l : Bs} (h : l.getD 0 0 ≠ 48) : value l = l := by
 cases l with
 | nil => rfl
 | cons b l =>
  have : (b == 48) = false := by simpa using h
  simp [value, this]
def sgn (n : Int) : Int := if n < 0 then -1 else if 0 < n then 1 else 0
def orI : List Int → Int
 | [] => 0
 | x :: l => cor x (orI l)
theorem zdn : ∀ (xs : List Int) (k : Nat), (∀ j, j < k → xs.getD j 0 = 0) → orI xs = orI (xs.drop k)
 | _, 0, _ => rfl
 | [], k + 1, _ => by simp
 | x :: l, k + 1, h => by
  have h0 : x = 0 := h 0 (by omega)
  rw [List.drop_succ_cons, ← zdn l k (fun j hj => h (j + 1) (by omega))]
  subst h0; rfl
end Go.Proofs.YtiloljoancdcbaaGreatDoor.V
namespace Go.Proofs.YtiloljoancdcbaaGreatDoor.V
def ki (exact : Bool) (x : Bs) : Bool := only (kind [45]) x && !(digits x && !numb x exact)
def identifiers (s : Bs) (exact : Bool) : Bool := (ze 46 s).all (ki exact)
def ze4 (s : Bs) : Bool := (ze 46 s).all fun x => numb x false
def zo (v : Bs) : Option (List Bs × List Bs) :=
 if ((cut1 43 v).2.2 && !identifiers (cut1 43 v).2.1 false) || ((cut1 45 (cut1 43 v).1).2.2 && !identifiers (cut1 45 (cut1 43 v).1).2.1 true) || (ze 46 (cut1 45 (cut1 43 v).1).1).length != 3 then none
 else if (ze 46 (cut1 45 (cut1 43 v).1).1).all (fun x => numb x true) then
  some (ze 46 (cut1 45 (cut1 43 v).1).1, if (cut1 45 (cut1 43 v).1).2.2 then ze 46 (cut1 45 (cut1 43 v).1).2.1 else [])
 else none
end Go.Proofs.YtiloljoancdcbaaGreatDoor.V
namespace Go.Proofs.YtiloljoancdcbaaGreatDoor.V
theorem orI_hit (xs : List Int) (k : Nat) (h : ∀ j, j < k → xs.getD j 0 = 0) (hk : k < xs.length) (h0 : xs.getD k 0 ≠ 0) : orI xs = xs.getD k 0 := by
 rw [zdn xs k h]
 have e : xs.drop k = xs.getD k 0 :: xs.drop (k + 1) := by
  rw [List.drop_eq_getElem_cons hk]; simp [List.getD, List.getElem?_eq_getElem hk]
 rw [e]; unfold orI cor; rw [if_neg h0]
theorem orI_zero (xs : List Int) (h : ∀ j, j < xs.length → xs.getD j 0 = 0) : orI xs = 0 := by
 rw [zdn xs xs.length h]; simp [orI]
def jc {α : Type} (f : α → α → Int) : List α → List α → Int
 | [], [] => 0
 | [], _ :: _ => -1
 | _ :: _, [] => 1
 | a :: as, b :: bs => cor (f a b) (jc f as bs)
def zu (s : Bs) (d : Bool) : Bs × Bs := (s.takeWhile fun c => dig c == d, s.dropWhile fun c => dig c == d)
def wt (s : Bs) (i : Nat) : Int := if s.length ≤ i then 2 else if s.getD i 0 = 126 then 1 else if lett (s.getD i 0) then (s.getD i 0).toNat else ((s.getD i 0) ||| 128).toNat
def wcmp (x y : Bs) : Int := orI ((List.range (max x.length y.length)).map fun i => Lib.compareInt (wt x i) (wt y i))
def texts : Nat → Bs → Bs → Int
 | 0, _, _ => 0
 | f + 1, a, b => if a.isEmpty && b.isEmpty then 0 else
  cor (wcmp (zu a false).1 (zu b false).1)
   (cor (numbers (zu (zu a false).2 true).1 (zu (zu b false).2 true).1)
     (texts f (zu (zu a false).2 true).2 (zu (zu b false).2 true).2))
theorem span_len (p : UInt8 → Bool) (s : Bs) : (s.takeWhile p).length + (s.dropWhile p).length = s.length := by
 induction s with
 | nil => rfl
 | cons b l ih => by_cases h : p b = true <;> simp [h] <;> omega
theorem qj (s : Bs) (d : Bool) : (zu s d).1.length + (zu s d).2.length = s.length := span_len _ s
theorem yt (s : Bs) (h : s ≠ []) : (zu (zu s false).2 true).2.length < s.length := by
 have h1 := qj s false
 have h2 := qj (zu s false).2 true
 have h3 : 0 < (zu s false).1.length + (zu (zu s false).2 true).1.length := by
  cases s with
  | nil => exact absurd rfl h
  | cons b l =>
   by_cases hd : dig b = true
   ·simp [zu, hd]
   ·simp [zu, hd]; omega
 omega
theorem zli : ∀ (f g : Nat) (a b : Bs), a.length + b.length < f → a.length + b.length < g → texts f a b = texts g a b
 | 0, _, _, _, h, _ => by omega
 | _, 0, _, _, _, h => by omega
 | f + 1, g + 1, a, b, hf, hg => by
  unfold texts
  by_cases he : (a.isEmpty && b.isEmpty) = true
  ·simp [he]
  ·rw [if_neg he, if_neg he]
   congr 2
   have ha := qj a false
   have ha2 := qj (zu a false).2 true
   have hb := qj b false
   have hb2 := qj (zu b false).2 true
   have hne : a ≠ [] ∨ b ≠ [] := by
    rcases a with _ | ⟨x, a⟩
    ·rcases b with _ | ⟨y, b⟩
     ·simp at he
     ·exact .inr (by simp)
    ·exact .inl (by simp)
   have hlt : (zu (zu a false).2 true).2.length + (zu (zu b false).2 true).2.length < a.length + b.length := by
    rcases hne with h | h
    ·have := yt a h; omega
    ·have := yt b h; omega
   exact zli f g _ _ (by omega) (by omega)
def qh (a b : Bs) : Int := texts (a.length + b.length + 1) a b
theorem zr3 : qh [] [] = 0 := rfl
theorem zd9 (a b : Bs) (h : ¬ (a.isEmpty && b.isEmpty) = true) : qh a b = cor (wcmp (zu a false).1 (zu b false).1)
      (cor (numbers (zu (zu a false).2 true).1 (zu (zu b false).2 true).1)
        (qh (zu (zu a false).2 true).2 (zu (zu b false).2 true).2)) := by
 unfold qh
 rw [texts, if_neg h]
 congr 2
 have hne : a ≠ [] ∨ b ≠ [] := by
  rcases a with _ | ⟨x, a⟩
  ·rcases b with _ | ⟨y, b⟩
   ·simp at h
   ·exact .inr (by simp)
  ·exact .inl (by simp)
 have ha := qj a false
 have ha2 := qj (zu a false).2 true
 have hb := qj b false
 have hb2 := qj (zu b false).2 true
 refine zli _ _ _ _ ?_ (by omega)
 rcases hne with h | h
 ·have := yt a h; omega
 ·have := yt b h; omega
theorem wi (y : Int) : cor 0 y = y := rfl
theorem kg {x : Int} (h : x ≠ 0) (y : Int) : cor x y = x := by unfold cor; rw [if_neg h]
theorem ztd (s : Bs) (p : UInt8 → Bool) (k : Nat) (hk : k ≤ s.length) (h1 : (s.take k).all p = true) (h2 : k = s.length ∨ ∃ h : k < s.length, p s[k] = false) :
  s.take k = s.takeWhile p ∧ s.drop k = s.dropWhile p := by
 induction s generalizing k with
 | nil => simp
 | cons b l ih =>
  cases k with
  | zero =>
   rcases h2 with h2 | ⟨h, h2⟩
   ·simp at h2
   ·have h2 : p b = false := h2
    simp [h2]
  | succ k =>
   simp at h1
   have h3 := ih k (by simpa using hk) (by simpa using h1.2) (by
     rcases h2 with h2 | ⟨h, h2⟩
     · left; simpa using h2
     · right; exact ⟨by simpa using h, by simpa using h2⟩)
   simp [h1.1, h3.1, h3.2]
def allow : Bs := [46, 43, 126]
def qz (s : Bs) : Int := Lib.lastIndexByte ⟨s.toArray⟩ 45
def ji (ep s : Bs) : Option (Bs × Bs × Bs) :=
 if qz s < 0 then
  if only (kind [46, 43, 126, 45]) s && dig (s.getD 0 0) then some (ep, s, []) else none
 else if only (kind allow) (s.drop ((qz s).toNat + 1)) then
  if only (kind [46, 43, 126, 45]) (s.take (qz s).toNat) && dig ((s.take (qz s).toNat).getD 0 0) then some (ep, s.take (qz s).toNat, s.drop ((qz s).toNat + 1)) else none
 else none
def zr (v : Bs) : Option (Bs × Bs × Bs) :=
 if (cut1 58 v).2.2 then if numb (cut1 58 v).1 false then ji (cut1 58 v).1 (cut1 58 v).2.1 else none
 else ji [] v
def qa (l : List Bs) : List Bs := (l.reverse.dropWhile fun x => (value x).isEmpty).reverse
def jx (v : Bs) : List Bs := qa (ze 46 v)
def zbr (a b : Bs) : Int := jc numbers (jx a) (jx b)
def vt (x y : Bs × Bs × Bs) : Int := orI [numbers x.1 y.1, qh x.2.1 y.2.1, qh x.2.2 y.2.2]
theorem zlt (l : List Bs) (x : Bs) (h : (value x).isEmpty = true) : qa (l ++ [x]) = qa l := by
 unfold qa; simp [h]
theorem zlo (l : List Bs) (x : Bs) (h : (value x).isEmpty = false) : qa (l ++ [x]) = l ++ [x] := by
 unfold qa; simp [h]
def zdb (p q : List Bs) : Int := if p.isEmpty || q.isEmpty then Lib.compareInt q.length p.length else jc kh p q
def jl (x y : List Bs × List Bs) : Int :=
 cor (orI [numbers (x.1.getD 0 []) (y.1.getD 0 []), numbers (x.1.getD 1 []) (y.1.getD 1 []), numbers (x.1.getD 2 []) (y.1.getD 2 [])]) (zdb x.2 y.2)
def yy (n : Int) (v : Bs) : Bool := if n = 1 then (zo v).isSome else if n = 2 then (zr v).isSome else if n = 3 then ze4 v else false
def cmpV (n : Int) (a b : Bs) : Int :=
 if n = 1 then (match zo a, zo b with | some x, some y => jl x y | _, _ => 0)
 else if n = 2 then (match zr a, zr b with | some x, some y => vt x y | _, _ => 0)
 else zbr a b
def valid (n : Int) (v : Bs) : Bool := decide (1 ≤ v.length) && decide (v.length ≤ 64) && yy n v
def scheme (n : Int) : Bool := n == 1 || n == 2 || n == 3
def qo (n : Int) (a b : Bs) : Int × Int := if !scheme n then (0, 14) else if valid n a && valid n b then (cmpV n a b, 0) else (0, 1)
end Go.Proofs.YtiloljoancdcbaaGreatDoor.V
namespace Go.Proofs.YtiloljoancdcbaaGreatDoor.V
abbrev cb := Lib.compareBytes
theorem zbg (a b c : Int) : cor (cor a b) c = cor a (cor b c) := by unfold cor; repeat' split <;> simp_all
theorem zcm (a : Int) : cor a 0 = a := by unfold cor; split <;> simp_all
theorem um : ∀ a, cb a a = 0
 | [] => rfl
 | x :: a => by simp [cb, Lib.compareBytes]; exact um a
theorem xf (x : UInt8) (a b : Bs) : cb (x :: a) (x :: b) = cb a b := by simp [cb, Lib.compareBytes]
theorem zax {x y : UInt8} (h : x < y) (a b : Bs) : cb (x :: a) (y :: b) = -1 := by simp [cb, Lib.compareBytes, h]
theorem zay {x y : UInt8} (h : y < x) (a b : Bs) : cb (x :: a) (y :: b) = 1 := by
 have h2 : ¬ x < y := fun g => by rw [UInt8.lt_iff_toNat_lt] at h g; omega
 simp [cb, Lib.compareBytes, h, h2]
theorem zdk (x y : UInt8) : x < y ∨ x = y ∨ y < x := by
 rw [UInt8.lt_iff_toNat_lt, UInt8.lt_iff_toNat_lt, ← UInt8.toNat_inj]; omega
theorem zin (x y : UInt8) (a b : Bs) : (x < y ∧ cb (x :: a) (y :: b) = -1) ∨ (x = y ∧ cb (x :: a) (y :: b) = cb a b) ∨ (y < x ∧ cb (x :: a) (y :: b) = 1) := by
 rcases zdk x y with h | h | h
 ·exact .inl ⟨h, zax h a b⟩
 ·subst h; exact .inr (.inl ⟨rfl, xf x a b⟩)
 ·exact .inr (.inr ⟨h, zay h a b⟩)
theorem zk2 : ∀ a b, cb a b = -1 ∨ cb a b = 0 ∨ cb a b = 1
 | [], [] => .inr (.inl rfl)
 | [], _ :: _ => .inl rfl
 | _ :: _, [] => .inr (.inr rfl)
 | x :: a, y :: b => by
  rcases zin x y a b with ⟨_, h⟩ | ⟨_, h⟩ | ⟨_, h⟩
  ·exact .inl h
  ·rw [h]; exact zk2 a b
  ·exact .inr (.inr h)
theorem ko : ∀ a b, cb b a = - cb a b
 | [], [] => rfl
 | [], _ :: _ => rfl
 | _ :: _, [] => rfl
 | x :: a, y :: b => by
  rcases zdk x y with h | h | h
  ·rw [zax h, zay h]; rfl
  ·subst h; rw [xf, xf]; exact ko a b
  ·rw [zax h, zay h]
theorem zkl : ∀ {a b}, cb a b = 0 → a = b
 | [], [], _ => rfl
 | [], _ :: _, h => by simp [cb, Lib.compareBytes] at h
 | _ :: _, [], h => by simp [cb, Lib.compareBytes] at h
 | x :: a, y :: b, h => by
  rcases zin x y a b with ⟨_, g⟩ | ⟨e, g⟩ | ⟨_, g⟩
  ·rw [g] at h; simp at h
  ·rw [g] at h; rw [e, zkl h]
  ·rw [g] at h; simp at h
theorem zau : ∀ a b c, cb a b ≤ 0 → cb b c ≤ 0 → cb a c ≤ 0
 | [], _, [], _, _ => by simp [cb, Lib.compareBytes]
 | [], _, _ :: _, _, _ => by simp [cb, Lib.compareBytes]
 | _ :: _, [], _, h, _ => by simp [cb, Lib.compareBytes] at h
 | _ :: _, _ :: _, [], _, h => by simp [cb, Lib.compareBytes] at h
 | x :: a, y :: b, z :: c, h, g => by
  rcases zdk x y with h1 | h1 | h1
  ·rcases zdk y z with g1 | g1 | g1
   ·rw [zax (by rw [UInt8.lt_iff_toNat_lt] at *; omega)]; decide
   ·subst g1; rw [zax h1]; decide
   ·rw [zay g1] at g; simp at g
  ·subst h1
   rcases zdk x z with g1 | g1 | g1
   ·rw [zax g1]; decide
   ·subst g1; rw [xf] at *; exact zau a b c h g
   ·rw [zay g1] at g; simp at g
  ·rw [zay h1] at h; simp at h
theorem cb_app : ∀ (a b x y : Bs), a.length = b.length → cb (a ++ x) (b ++ y) = cor (cb a b) (cb x y)
 | [], [], _, _, _ => rfl
 | [], _ :: _, _, _, h => by simp at h
 | _ :: _, [], _, _, h => by simp at h
 | p :: a, q :: b, x, y, h => by
  rw [List.cons_append, List.cons_append]
  rcases zdk p q with e | e | e
  ·rw [zax e, zax e]; rfl
  ·subst e; rw [xf, xf]; exact cb_app a b x y (by simpa using h)
  ·rw [zay e, zay e]; rfl
theorem znc (a : Bs) : (value a).length ≤ a.length := (List.dropWhile_sublist _).length_le
theorem zq1 {m n : Nat} (h : m < n) (hn : n ≤ 255) : UInt8.ofNat m < UInt8.ofNat n := by
 rw [UInt8.lt_iff_toNat_lt, UInt8.toNat_ofNat', UInt8.toNat_ofNat', Nat.mod_eq_of_lt (by omega), Nat.mod_eq_of_lt (by omega)]; exact h
theorem zds (a b x y : Bs) (ha : a.length ≤ 255) (hb : b.length ≤ 255) : cb (nk a ++ x) (nk b ++ y) = cor (numbers a b) (cb x y) := by
 have h1 := znc a
 have h2 := znc b
 unfold nk numbers Lib.compareInt
 rw [List.cons_append, List.cons_append]
 rcases Nat.lt_trichotomy (value a).length (value b).length with h | h | h
 ·rw [zax (zq1 h (by omega)), if_pos (by omega)]; rfl
 ·rw [h, xf, cb_app _ _ _ _ h, if_neg (by omega), if_neg (by omega), wi]
 ·rw [zay (zq1 h (by omega)), if_neg (by omega), if_pos (by omega)]; rfl
theorem _root_.Go.Proofs.YtiloljoancdcbaaGreatDoor.z0i {P : Prop} (h : P := by
 rw [UInt8.lt_iff_toNat_lt]
 rw [Ne, ← UInt8.toNat_inj] at this
 have h0 : (0 : UInt8).toNat = 0 := rfl
 omega) : P := h
theorem ztw : ∀ (p q x y : Bs), (∀ c ∈ p, c ≠ 0) → (∀ c ∈ q, c ≠ 0) → cb (p ++ 0 :: x) (q ++ 0 :: y) = cor (cb p q) (cb x y)
 | [], [], x, y, _, _ => by rw [List.nil_append, List.nil_append, xf]; rfl
 | [], b :: q, x, y, _, h => by
  have hb : (0 : UInt8) < b := by
   have := h b (by simp)
   exact z0i
  rw [List.nil_append, List.cons_append, zax hb]; rfl
 | b :: p, [], x, y, h, _ => by
  have hb : (0 : UInt8) < b := by
   have := h b (by simp)
   exact z0i
  rw [List.nil_append, List.cons_append, zay hb]; rfl
 | b :: p, c :: q, x, y, h, g => by
  rw [List.cons_append, List.cons_append]
  rcases zdk b c with e | e | e
  ·rw [zax e, zax e]; rfl
  ·subst e
   rw [xf, xf]
   exact ztw p q x y (fun d hd => h d (by simp [hd])) (fun d hd => g d (by simp [hd]))
  ·rw [zay e, zay e]; rfl
def ze3 (p : Bs) : Bs := if digits p then 1 :: nk p else 2 :: (p ++ [0])
def uo (l : List Bs) : Bs := (l.map ze3).flatten
def zos (l : List Bs) : Bs := if l.isEmpty then [3] else uo l ++ [0]
def zny (x : List Bs × List Bs) : Bs := nk (x.1.getD 0 []) ++ (nk (x.1.getD 1 []) ++ (nk (x.1.getD 2 []) ++ zos x.2))
def Tame (p : Bs) : Prop := p.length ≤ 255 ∧ ∀ c ∈ p, c ≠ 0
theorem zuc (p q x y : Bs) (hp : Tame p) (hq : Tame q) : cb (ze3 p ++ x) (ze3 q ++ y) = cor (kh p q) (cb x y) := by
 unfold ze3 kh
 rcases h1 : digits p with _ | _ <;> rcases h2 : digits q with _ | _
 ·simp only [Bool.false_eq_true, if_false, Bool.and_self]
  rw [List.cons_append, List.cons_append, xf, List.append_assoc, List.append_assoc]
  exact ztw p q x y hp.2 hq.2
 ·simp only [Bool.false_eq_true, if_false, if_true, Bool.and_true]
  rw [List.cons_append, List.cons_append, zay (by decide)]; rfl
 ·simp only [Bool.false_eq_true, if_false, if_true, Bool.and_false]
  rw [List.cons_append, List.cons_append, zax (by decide)]; rfl
 ·simp only [if_true, Bool.and_self]
  rw [List.cons_append, List.cons_append, xf]
  exact zds p q x y hp.1 hq.1
theorem zc5 (p x : Bs) : ∃ c r, ze3 p ++ x = c :: r ∧ 0 < c ∧ c < 3 := by
 unfold ze3
 split
 ·exact ⟨_, _, rfl, by decide, by decide⟩
 ·exact ⟨_, _, rfl, by decide, by decide⟩
theorem zk7 : ∀ p q : List Bs, (∀ x ∈ p, Tame x) → (∀ x ∈ q, Tame x) → cb (uo p ++ [0]) (uo q ++ [0]) = jc kh p q
 | [], [], _, _ => rfl
 | [], b :: q, _, _ => by
  obtain ⟨c, r, h, hc, _⟩ := zc5 b (uo q ++ [0])
  show cb [0] ((ze3 b ++ uo q) ++ [0]) = -1
  rw [List.append_assoc, h, zax hc]
 | b :: p, [], _, _ => by
  obtain ⟨c, r, h, hc, _⟩ := zc5 b (uo p ++ [0])
  show cb ((ze3 b ++ uo p) ++ [0]) [0] = 1
  rw [List.append_assoc, h, zay hc]
 | a :: p, b :: q, hp, hq => by
  show cb ((ze3 a ++ uo p) ++ [0]) ((ze3 b ++ uo q) ++ [0]) = cor (kh a b) (jc kh p q)
  rw [List.append_assoc, List.append_assoc, zuc a b _ _ (hp a (by simp)) (hq b (by simp)), zk7 p q (fun x h => hp x (by simp [h])) (fun x h => hq x (by simp [h]))]
theorem zse (p q : List Bs) (hp : ∀ x ∈ p, Tame x) (hq : ∀ x ∈ q, Tame x) : cb (zos p) (zos q) = zdb p q := by
 unfold zos zdb
 cases p with
 | nil =>
  cases q with
  | nil => rfl
  | cons b q =>
   obtain ⟨c, r, h, _, hc⟩ := zc5 b (uo q ++ [0])
   have e : uo (b :: q) ++ [0] = c :: r := by rw [← h]; simp [uo]
   simp only [List.isEmpty_nil, List.isEmpty_cons, if_true, if_false, Bool.false_eq_true, Bool.true_or]
   rw [e, zay hc]
   unfold Lib.compareInt
   rw [if_neg (by simp; try omega), if_pos (by simp; try omega)]
 | cons a p =>
  cases q with
  | nil =>
   obtain ⟨c, r, h, _, hc⟩ := zc5 a (uo p ++ [0])
   have e : uo (a :: p) ++ [0] = c :: r := by rw [← h]; simp [uo]
   simp only [List.isEmpty_nil, List.isEmpty_cons, if_true, if_false, Bool.false_eq_true, Bool.or_true]
   rw [e, zax hc]
   unfold Lib.compareInt
   rw [if_pos (by simp; try omega)]
  | cons b q => simp only [List.isEmpty_cons, if_false, Bool.false_eq_true, Bool.or_self]; exact zk7 _ _ hp hq
theorem zsz (x y : List Bs × List Bs) (hx : ∀ k, (x.1.getD k []).length ≤ 255) (hy : ∀ k, (y.1.getD k []).length ≤ 255) (hp : ∀ z ∈ x.2, Tame z) (hq : ∀ z ∈ y.2, Tame z) :
  cb (zny x) (zny y) = jl x y := by
 unfold zny jl
 rw [zds _ _ _ _ (hx 0) (hy 0), zds _ _ _ _ (hx 1) (hy 1), zds _ _ _ _ (hx 2) (hy 2), zse _ _ hp hq]
 simp only [orI, zcm, zbg]
def wb (c : UInt8) : UInt8 := if c = 126 then 1 else if lett c then c else c ||| 128
def wts (s : Bs) : Bs := s.map wb ++ [2]
theorem znd (c : UInt8) : wb c ≠ 2 := by
 have h : ∀ n : Fin 256, wb (UInt8.ofNat n.val) ≠ 2 := by decide +kernel
 have := h ⟨c.toNat, c.toNat_lt⟩
 rwa [show UInt8.ofNat c.toNat = c from UInt8.ofNat_toNat] at this
theorem ziu (c : UInt8) (s : Bs) : wt (c :: s) 0 = (wb c).toNat := by
 unfold wt wb
 simp only [List.length_cons, List.getD_cons_zero]
 rw [if_neg (by omega)]
 repeat' split
 all_goals rfl
theorem ztu (c : UInt8) (s : Bs) (i : Nat) : wt (c :: s) (i + 1) = wt s i := by
 unfold wt
 simp only [List.length_cons, List.getD_cons_succ, Nat.add_le_add_iff_right]
theorem wt_nil (i : Nat) : wt [] i = 2 := by unfold wt; simp
theorem zuk (b c : UInt8) (p q : Bs) : wcmp (b :: p) (c :: q) = cor (Lib.compareInt (wb b).toNat (wb c).toNat) (wcmp p q) := by
 unfold wcmp
 rw [List.length_cons, List.length_cons, Nat.succ_max_succ, List.range_succ_eq_map, List.map_cons, orI, ziu, ziu, List.map_map]
 congr 2
 exact List.map_congr_left (fun i _ => by show Lib.compareInt (wt (b :: p) (i + 1)) (wt (c :: q) (i + 1)) = _; rw [ztu, ztu])
theorem zed {a b : Int} (h : a ≠ b) : Lib.compareInt a b ≠ 0 := by unfold Lib.compareInt; repeat' split <;> omega
theorem zlm (c : UInt8) (q : Bs) : wcmp [] (c :: q) = Lib.compareInt 2 (wb c).toNat := by
 unfold wcmp
 rw [List.length_nil, List.length_cons, Nat.zero_max, List.range_succ_eq_map, List.map_cons, orI, ziu, wt_nil, kg]
 apply zed
 intro e
 apply znd c
 rw [← UInt8.toNat_inj]
 have : (2 : UInt8).toNat = 2 := rfl
 omega
theorem zm6 (c : UInt8) (q : Bs) : wcmp (c :: q) [] = Lib.compareInt (wb c).toNat 2 := by
 unfold wcmp
 rw [List.length_nil, List.length_cons, Nat.max_zero, List.range_succ_eq_map, List.map_cons, orI, ziu, wt_nil, kg]
 apply zed
 intro e
 apply znd c
 rw [← UInt8.toNat_inj]
 have : (2 : UInt8).toNat = 2 := rfl
 omega
theorem wcmp_nil : wcmp [] [] = 0 := rfl
theorem zlf (x y : UInt8) (a b : Bs) : cb (x :: a) (y :: b) = cor (Lib.compareInt x.toNat y.toNat) (cb a b) := by
 unfold Lib.compareInt
 rcases zdk x y with e | e | e
 ·rw [zax e, if_pos (by rw [UInt8.lt_iff_toNat_lt] at e; omega)]; rfl
 ·subst e; rw [xf, if_neg (by omega), if_neg (by omega)]; rfl
 ·rw [zay e, if_neg (by rw [UInt8.lt_iff_toNat_lt] at e; omega), if_pos (by rw [UInt8.lt_iff_toNat_lt] at e; omega)]; rfl
theorem zgo : ∀ (p q x y : Bs), cb (wts p ++ x) (wts q ++ y) = cor (wcmp p q) (cb x y)
 | [], [], x, y => by rw [wcmp_nil, wi]; exact xf 2 x y
 | [], c :: q, x, y => by
  rw [zlm]
  show cb (2 :: x) (wb c :: (wts q ++ y)) = _
  rw [zlf]
  have h : Lib.compareInt ((2 : UInt8).toNat : Int) (wb c).toNat ≠ 0 := zed (by
    intro e; apply znd c; rw [← UInt8.toNat_inj]; omega)
  rw [kg h]
  exact (kg h _).symm
 | c :: p, [], x, y => by
  rw [zm6]
  show cb (wb c :: (wts p ++ x)) (2 :: y) = _
  rw [zlf]
  have h : Lib.compareInt (wb c).toNat ((2 : UInt8).toNat : Int) ≠ 0 := zed (by
    intro e; apply znd c; rw [← UInt8.toNat_inj]; omega)
  rw [kg h]
  exact (kg h _).symm
 | b :: p, c :: q, x, y => by
  rw [zuk]
  show cb (wb b :: (wts p ++ x)) (wb c :: (wts q ++ y)) = _
  rw [zlf, zgo p q x y, zbg]
def zdh (s : Bs) : Bs := (zu (zu s false).2 true).2
def ze0 (s : Bs) : Bs := wts (zu s false).1 ++ nk (zu (zu s false).2 true).1
def zdg : Nat → Bs → Bs
 | 0, _ => [2]
 | f + 1, s => if s.isEmpty then [2] else ze0 s ++ zdg f (zdh s)
def zf7 (s : Bs) : Bs := ze0 s ++ zdg s.length (zdh s)
theorem zmm (s : Bs) : (zdh s).length ≤ s.length := by
 have h1 := qj s false
 have h2 := qj (zu s false).2 true
 unfold zdh; omega
theorem zqo {s : Bs} (h : s ≠ []) : (zdh s).length < s.length := yt s h
theorem zni {p : UInt8 → Bool} : ∀ {l : Bs} {c r}, l.dropWhile p = c :: r → p c = false
 | b :: l, c, r, h => by
  rw [List.dropWhile_cons] at h
  split at h
  ·exact zni h
  ·rename_i hb
   simp at h; obtain ⟨rfl, _⟩ := h; exact Bool.eq_false_iff.2 hb
theorem zcy {s : Bs} {c : UInt8} {r : Bs} (h : zdh s = c :: r) : dig c = false := by
 have := zni (p := fun c => dig c == true) (show List.dropWhile _ _ = c :: r from h)
 simpa using this
theorem za5 (a b : Bs) : qh a b = cor (wcmp (zu a false).1 (zu b false).1)
      (cor (numbers (zu (zu a false).2 true).1 (zu (zu b false).2 true).1) (qh (zdh a) (zdh b))) := by
 by_cases h : (a.isEmpty && b.isEmpty) = true
 ·rw [Bool.and_eq_true, List.isEmpty_iff, List.isEmpty_iff] at h
  obtain ⟨rfl, rfl⟩ := h
  decide +kernel
 ·exact zd9 a b h
theorem zgj (s : Bs) : (zu s false).1.length ≤ s.length ∧ (zu (zu s false).2 true).1.length ≤ s.length := by
 have h1 := qj s false
 have h2 := qj (zu s false).2 true
 omega
theorem zno {c : UInt8} (r : Bs) (h : dig c = false) : ∃ q, (zu (c :: r) false).1 = c :: q := by
 unfold zu
 refine ⟨r.takeWhile fun c => dig c == false, ?_⟩
 simp [h]
theorem znp : ∀ (f g : Nat) (a b x y : Bs), a.length ≤ f → b.length ≤ g → a.length ≤ 255 → b.length ≤ 255 → (∀ c r, a = c :: r → dig c = false) → (∀ c r, b = c :: r → dig c = false) →
  cb (zdg f a ++ x) (zdg g b ++ y) = cor (qh a b) (cb x y)
 | f, g, [], [], x, y, _, _, _, _, _, _ => by
  have e1 : zdg f [] = [2] := by cases f <;> rfl
  have e2 : zdg g [] = [2] := by cases g <;> rfl
  rw [e1, e2, zr3, wi]; exact xf 2 x y
 | f, 0, _, _ :: _, _, _, _, h, _, _, _, _ => by simp at h
 | 0, g, _ :: _, _, _, _, h, _, _, _, _, _ => by simp at h
 | f, g + 1, [], c :: r, x, y, _, _, _, _, _, hb => by
  have e1 : zdg f [] = wts [] := by cases f <;> rfl
  obtain ⟨q, hq⟩ := zno r (hb c r rfl)
  have e0 : (zu ([] : Bs) false).1 = [] := rfl
  have hw : wcmp [] (c :: q) ≠ 0 := by
   rw [zlm]; exact zed (by intro e; apply znd c; rw [← UInt8.toNat_inj]; have : (2 : UInt8).toNat = 2 := rfl; omega)
  rw [za5, hq, e0, kg hw, e1]
  show cb (wts [] ++ x) ((ze0 (c :: r) ++ zdg g (zdh (c :: r))) ++ y) = _
  unfold ze0
  rw [hq, List.append_assoc, List.append_assoc, zgo, kg hw, kg hw]
 | f + 1, g, c :: r, [], x, y, _, _, _, _, ha, _ => by
  have e1 : zdg g [] = wts [] := by cases g <;> rfl
  obtain ⟨q, hq⟩ := zno r (ha c r rfl)
  have e0 : (zu ([] : Bs) false).1 = [] := rfl
  have hw : wcmp (c :: q) [] ≠ 0 := by
   rw [zm6]; exact zed (by intro e; apply znd c; rw [← UInt8.toNat_inj]; have : (2 : UInt8).toNat = 2 := rfl; omega)
  rw [za5, hq, e0, kg hw, e1]
  show cb ((ze0 (c :: r) ++ zdg f (zdh (c :: r))) ++ x) (wts [] ++ y) = _
  unfold ze0
  rw [hq, List.append_assoc, List.append_assoc, zgo, kg hw, kg hw]
 | f + 1, g + 1, c :: r, d :: t, x, y, hf, hg, h1, h2, ha, hb => by
  have l1 := zqo (s := c :: r) (by simp)
  have l2 := zqo (s := d :: t) (by simp)
  have s1 := zgj (c :: r)
  have s2 := zgj (d :: t)
  rw [za5]
  show cb ((ze0 (c :: r) ++ zdg f (zdh (c :: r))) ++ x) ((ze0 (d :: t) ++ zdg g (zdh (d :: t))) ++ y) = _
  unfold ze0
  rw [List.append_assoc, List.append_assoc, List.append_assoc, List.append_assoc, zgo, zds _ _ _ _ (by omega) (by omega),
    znp f g _ _ x y (by omega) (by omega) (by omega) (by omega) (fun _ _ h => zcy h) (fun _ _ h => zcy h), zbg, zbg]
theorem zhi (a b x y : Bs) (ha : a.length ≤ 255) (hb : b.length ≤ 255) : cb (zf7 a ++ x) (zf7 b ++ y) = cor (qh a b) (cb x y) := by
 have l1 := zmm a
 have l2 := zmm b
 have s1 := zgj a
 have s2 := zgj b
 unfold zf7 ze0
 rw [za5, List.append_assoc, List.append_assoc, List.append_assoc, List.append_assoc, zgo, zds _ _ _ _ (by omega) (by omega),
   znp _ _ _ _ x y (by omega) (by omega) (by omega) (by omega) (fun _ _ h => zcy h) (fun _ _ h => zcy h), zbg, zbg]
def zot (x : Bs × Bs × Bs) : Bs := nk x.1 ++ (zf7 x.2.1 ++ zf7 x.2.2)
theorem zs1 (x y : Bs × Bs × Bs) (h1 : x.1.length ≤ 255) (h2 : x.2.1.length ≤ 255) (h3 : x.2.2.length ≤ 255) (g1 : y.1.length ≤ 255) (g2 : y.2.1.length ≤ 255) (g3 : y.2.2.length ≤ 255) :
  cb (zot x) (zot y) = vt x y := by
 unfold zot vt
 rw [zds _ _ _ _ h1 g1, zhi _ _ _ _ h2 g2]
 have := zhi x.2.2 y.2.2 [] [] h3 g3
 rw [List.append_nil, List.append_nil, show cb [] [] = 0 from rfl, zcm] at this
 rw [this]
 simp only [orI, zcm]
def zs2 (l : List Bs) : Bs := (l.map fun x => 1 :: nk x).flatten
def zrp (l : List Bs) : Bs := zs2 l ++ [0]
theorem zkc : ∀ p q : List Bs, (∀ x ∈ p, x.length ≤ 255) → (∀ x ∈ q, x.length ≤ 255) → cb (zrp p) (zrp q) = jc numbers p q
 | [], [], _, _ => rfl
 | [], b :: q, _, _ => rfl
 | b :: p, [], _, _ => rfl
 | a :: p, b :: q, hp, hq => by
  show cb (((1 :: nk a) ++ zs2 p) ++ [0]) (((1 :: nk b) ++ zs2 q) ++ [0]) = cor (numbers a b) (jc numbers p q)
  rw [List.append_assoc, List.append_assoc, List.cons_append, List.cons_append, xf, zds _ _ _ _ (hp a (by simp)) (hq b (by simp))]
  congr 1
  exact zkc p q (fun x h => hp x (by simp [h])) (fun x h => hq x (by simp [h]))
def keyV (n : Int) (v : Bs) : Bs :=
 if n = 1 then (match zo v with | some x => zny x | none => [])
 else if n = 2 then (match zr v with | some x => zot x | none => [])
 else zrp (jx v)
theorem zgc (c : UInt8) (l : Bs) : (cut1 c l).1.length ≤ l.length ∧ (cut1 c l).2.1.length ≤ l.length := by
 unfold cut1
 split
 ·exact ⟨(List.takeWhile_sublist _).length_le, by simp⟩
 ·simp
theorem _root_.Go.Proofs.YtiloljoancdcbaaGreatDoor.zxm {P : Prop} (h : P := by
 split at h
 ·rcases List.mem_cons.1 h with h | h
  ·simp [h]
  ·have := ih x h; simp; omega
 ·split at h
  ·simp at h; simp [h]
  ·rename_i y r he
   rw [he] at ih
   rcases List.mem_cons.1 h with h | h
   ·subst h; have := ih y (by simp); simp; omega
   ·have := ih x (by simp [h]); simp; omega) : P := h
theorem zcv (c : UInt8) : ∀ (l x : Bs), x ∈ ze c l → x.length ≤ l.length
 | [], x, h => by simp [ze] at h; simp [h]
 | b :: l, x, h => by
  have ih := zcv c l
  unfold ze at h
  exact zxm
theorem zk9 {e : Bool} {x : Bs} (h : ki e x = true) (hl : x.length ≤ 255) : Tame x := by
 refine ⟨hl, fun c hc e0 => ?_⟩
 subst e0
 unfold ki only at h
 rw [Bool.and_eq_true, Bool.and_eq_true, List.all_eq_true] at h
 have := h.1.1 0 hc
 revert this; decide +kernel
theorem wg {s : Bs} {l pre : List Bs} (h : zo s = some (l, pre)) : (∀ x ∈ l, x.length ≤ s.length) ∧ (∀ x ∈ pre, x.length ≤ s.length ∧ ki true x = true) := by
 unfold zo at h
 have h1 := zgc 43 s
 have h2 := zgc 45 (cut1 43 s).1
 split at h
 ·cases h
 ·rename_i hn
  split at h
  ·simp only [Option.some.injEq, Prod.mk.injEq] at h
   obtain ⟨rfl, h⟩ := h
   refine ⟨fun x hx => by have := zcv 46 _ x hx; omega, fun x hx => ?_⟩
   split at h
   ·rename_i hc
    subst h
    refine ⟨by have := zcv 46 _ x hx; omega, ?_⟩
    have hi : identifiers (cut1 45 (cut1 43 s).1).2.1 true = true := by
     rcases hb : identifiers (cut1 45 (cut1 43 s).1).2.1 true with _ | _
     ·rw [hb, hc] at hn; simp at hn
     ·rfl
    unfold identifiers at hi
    rw [List.all_eq_true] at hi
    exact hi x hx
   ·subst h; simp at hx
  ·cases h
theorem vy {s : Bs} {x : Bs × Bs × Bs} (h : zr s = some x) : x.1.length ≤ s.length ∧ x.2.1.length ≤ s.length ∧ x.2.2.length ≤ s.length := by
 have ht : ∀ {ep t : Bs}, ep.length ≤ s.length → t.length ≤ s.length → ji ep t = some x → x.1.length ≤ s.length ∧ x.2.1.length ≤ s.length ∧ x.2.2.length ≤ s.length := by
  intro ep t he hl h
  unfold ji at h
  repeat' split at h
  all_goals first | (cases h; done) | (simp only [Option.some.injEq] at h; subst h; simp only [List.length_take, List.length_drop, List.length_nil]; omega)
 have h1 := zgc 58 s
 unfold zr at h
 split at h
 ·split at h
  ·exact ht h1.1 h1.2 h
  ·cases h
 ·exact ht (by simp) (Nat.le_refl _) h
theorem zgn {s x : Bs} (h : x ∈ jx s) : x.length ≤ s.length := by
 unfold jx qa at h
 rw [List.mem_reverse] at h
 exact zcv 46 s x (List.mem_reverse.1 ((List.dropWhile_sublist _).subset h))
theorem vm {n : Int} {v : Bs} (h : valid n v = true) : v.length ≤ 64 := by
 unfold valid at h; simp at h; omega
theorem zek {l : List Bs} {m : Nat} (h : ∀ x ∈ l, x.length ≤ m) (k : Nat) : (l.getD k []).length ≤ m := by
 rw [List.getD_eq_getElem?_getD]
 rcases hk : l[k]? with _ | x
 ·simp
 ·exact h x (List.mem_of_getElem? hk)
theorem zep {n : Int} (hn : scheme n = true) {a b : Bs} (ha : valid n a = true) (hb : valid n b = true) : cb (keyV n a) (keyV n b) = cmpV n a b := by
 have l1 := vm ha
 have l2 := vm hb
 have hs : n = 1 ∨ n = 2 ∨ n = 3 := by unfold scheme at hn; simpa [or_assoc] using hn
 rcases hs with rfl | rfl | rfl
 ·unfold keyV cmpV
  rw [if_pos rfl, if_pos rfl, if_pos rfl]
  obtain ⟨⟨la, pa⟩, e1⟩ := Option.isSome_iff_exists.1 (show (zo a).isSome = true by unfold valid yy at ha; simp at ha; exact ha.2)
  obtain ⟨⟨lb, pb⟩, e2⟩ := Option.isSome_iff_exists.1 (show (zo b).isSome = true by unfold valid yy at hb; simp at hb; exact hb.2)
  have f1 := wg e1
  have f2 := wg e2
  rw [e1, e2]
  exact zsz _ _ (fun k => by have := zek f1.1 k; simp only; omega) (fun k => by have := zek f2.1 k; simp only; omega)
   (fun z hz => zk9 (f1.2 z hz).2 (by have := (f1.2 z hz).1; omega)) (fun z hz => zk9 (f2.2 z hz).2 (by have := (f2.2 z hz).1; omega))
 ·unfold keyV cmpV
  rw [if_neg (by decide), if_pos rfl, if_neg (by decide), if_pos rfl, if_neg (by decide), if_pos rfl]
  obtain ⟨x, e1⟩ := Option.isSome_iff_exists.1 (show (zr a).isSome = true by unfold valid yy at ha; simp at ha; exact ha.2)
  obtain ⟨y, e2⟩ := Option.isSome_iff_exists.1 (show (zr b).isSome = true by unfold valid yy at hb; simp at hb; exact hb.2)
  have f1 := vy e1
  have f2 := vy e2
  rw [e1, e2]
  exact zs1 _ _ (by omega) (by omega) (by omega) (by omega) (by omega) (by omega)
 ·unfold keyV cmpV
  rw [if_neg (by decide), if_neg (by decide), if_neg (by decide), if_neg (by decide), if_neg (by decide), if_neg (by decide)]
  exact zkc _ _ (fun x hx => by have := zgn hx; omega) (fun x hx => by have := zgn hx; omega)
theorem zun {n : Int} (hn : scheme n = true) {a b c : Bs} (ha : valid n a = true) (hb : valid n b = true) (hc : valid n c = true) :
  cmpV n a b = - cmpV n b a ∧ cmpV n a a = 0 ∧ ¬ (cmpV n a b ≤ 0 ∧ cmpV n b c ≤ 0 ∧ 0 < cmpV n a c) ∧ ¬ (0 ≤ cmpV n a b ∧ 0 ≤ cmpV n b c ∧ cmpV n a c < 0) ∧ (cmpV n a b = 0 → cmpV n b c = cmpV n a c) := by
 rw [← zep hn ha hb, ← zep hn hb ha, ← zep hn ha ha, ← zep hn hb hc, ← zep hn ha hc]
 refine ⟨ko _ _, um _, fun h => ?_, fun h => ?_, fun h => ?_⟩
 ·have := zau _ _ _ h.1 h.2.1; omega
 ·have h1 := ko (keyV n a) (keyV n b)
  have h2 := ko (keyV n b) (keyV n c)
  have h3 := ko (keyV n a) (keyV n c)
  have := zau (keyV n c) (keyV n b) (keyV n a) (by omega) (by omega)
  omega
 ·rw [zkl h]
end Go.Proofs.YtiloljoancdcbaaGreatDoor.V
