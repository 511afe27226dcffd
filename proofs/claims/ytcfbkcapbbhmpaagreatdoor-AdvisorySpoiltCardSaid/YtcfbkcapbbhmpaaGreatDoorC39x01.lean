import Derived.Lib.Split
import Derived.Lib.LastIndexLaws
import Derived.Lib.Small
import Derived.Lib.SlTrimSet
import Derived.Lib.LastIndexByte
set_option linter.all false
namespace Go.Proofs.YtcfbkcapbbhmpaaGreatDoor.V
abbrev Bs := List UInt8
def digB (n : Int) : Bool := decide (48 ≤ n) && decide (n ≤ 57)
def letB (n : Int) : Bool := (decide (97 ≤ n) && decide (n ≤ 122)) || (decide (65 ≤ n) && decide (n ≤ 90))
def dig (c : UInt8) : Bool := digB c.toNat
def lett (c : UInt8) : Bool := letB c.toNat
def only (p : UInt8 → Bool) (l : Bs) : Bool := l.all p && !l.isEmpty
def digits (l : Bs) : Bool := only dig l
def numb (l : Bs) (exact : Bool) : Bool := digits l && !(exact && decide (1 < l.length) && l.getD 0 0 == 48)
def value (l : Bs) : Bs := l.dropWhile (· == 48)
def cor (x y : Int) : Int := if x = 0 then y else x
def numbers (a b : Bs) : Int := cor (Lib.compareInt (value a).length (value b).length) (Lib.compareBytes (value a) (value b))
def kl (a b : Bs) : Int := if digits a && digits b then numbers a b else if digits a then -1 else if digits b then 1 else Lib.compareBytes a b
def nk (s : Bs) : Bs := UInt8.ofNat (value s).length :: value s
theorem zc1 {s : Bs} {p : UInt8 → Bool} {k : Nat} (h : k < s.length) : (s.take (k + 1)).all p = ((s.take k).all p && p s[k]) := by
 rw [List.take_succ_eq_append_getElem h, List.all_append]; simp
theorem zqj {s : Bs} {p : UInt8 → Bool} {k : Nat} (h : k < s.length) (hp : p s[k] = false) : only p s = false := by
 unfold only
 rw [Bool.and_eq_false_iff]; left
 rw [List.all_eq_false]
 exact ⟨s[k], List.getElem_mem h, by simp [hp]⟩
def zd (c : UInt8) : Bs → List Bs
 | [] => [[]]
 | b :: l => if b == c then [] :: zd c l else match zd c l with
  | [] => [[b]]
  | x :: r => (b :: x) :: r
theorem zb5 (c : UInt8) : ∀ l, zd c l ≠ []
 | [] => by simp [zd]
 | b :: l => by
  unfold zd
  split
  ·simp
  ·split <;> simp
def cut1 (c : UInt8) (l : Bs) : Bs × Bs × Bool :=
 if c ∈ l then (l.takeWhile (· != c), l.drop ((l.takeWhile (· != c)).length + 1), true) else (l, [], false)
theorem index_one (l : Bs) (c : UInt8) : Lib.index l [c] = if c ∈ l then ((l.takeWhile (· != c)).length : Int) else -1 := by
 induction l with
 | nil => simp [Lib.index]
 | cons b l ih =>
  unfold Lib.index
  by_cases h : b = c
  ·subst h; simp [List.isPrefixOf]
  ·have h1 : ([c] : Bs).isPrefixOf (b :: l) = false := by simp [List.isPrefixOf]; exact fun e => h e.symm
   rw [h1, ih]
   have h3 : (b != c) = true := by simpa using h
   have h5 : ¬ c = b := fun e => h e.symm
   by_cases hc : c ∈ l
   ·simp only [hc, if_true, List.mem_cons, or_true, List.takeWhile_cons, h3, List.length_cons]
    have : ((((l.takeWhile (· != c)).length : Nat) : Int) == -1) = false := by rw [beq_eq_false_iff_ne]; omega
    simp [this]
   ·simp [hc, h5]
theorem zjy (l : Bs) (p : UInt8 → Bool) : l.take (l.takeWhile p).length = l.takeWhile p := by
 induction l with
 | nil => rfl
 | cons b l ih => by_cases hb : p b = true <;> simp [hb, ih]
theorem cut_one (l : Bs) (c : UInt8) : Lib.cut l [c] = cut1 c l := by
 unfold Lib.cut cut1
 rw [index_one]
 by_cases h : c ∈ l
 ·simp only [h, if_true]
  rw [if_pos (by omega)]
  simp only [Int.toNat_natCast, zjy, List.length_singleton]
 ·simp only [h, if_false]
  rw [if_neg (by decide)]
theorem ztp {l : Bs} {c : UInt8} (h : c ∉ l) : Lib.count l [c] = 0 := Lib.count_miss (by rw [index_one, if_neg h])
theorem ka {c : UInt8} : ∀ {l : Bs}, c ∉ l → zd c l = [l]
 | [], _ => rfl
 | b :: l, h => by
  rw [List.mem_cons, not_or] at h
  have h1 : (b == c) = false := by simpa using fun e => h.1 e.symm
  simp [zd, h1, ka h.2]
theorem vz {c : UInt8} : ∀ {l : Bs}, c ∈ l → zd c l = l.takeWhile (· != c) :: zd c (l.drop ((l.takeWhile (· != c)).length + 1))
 | [], h => by simp at h
 | b :: l, h => by
  by_cases hb : b = c
  ·subst hb; simp [zd]
  ·have h3 : (b != c) = true := by simpa using hb
   have h4 : (b == c) = false := by simpa using hb
   have h2 : c ∈ l := by
    rw [List.mem_cons] at h
    rcases h with h | h
    ·exact absurd h.symm hb
    ·exact h
   rw [zd, h4, vz h2]
   simp [h3]
theorem tw_lt {l : Bs} {c : UInt8} (h : c ∈ l) : (l.takeWhile (· != c)).length < l.length := by
 induction l with
 | nil => simp at h
 | cons b l ih =>
  by_cases hb : (b != c) = true
  ·have h2 : c ∈ l := by
    rw [List.mem_cons] at h
    rcases h with h | h
    ·subst h; simp at hb
    ·exact h
   simpa [List.takeWhile_cons, hb] using ih h2
  ·simp [hb]
theorem zhi (c : UInt8) : ∀ (n : Nat) (l : Bs), l.length ≤ n → Lib.split l [c] = zd c l
 | n, l, hn => by
  unfold Lib.split
  by_cases h : c ∈ l
  ·have hi : Lib.index l [c] = ((l.takeWhile (· != c)).length : Nat) := by rw [index_one, if_pos h]
   rw [Lib.count_hit (by simp) hi, Nat.add_comm, vz h]
   unfold Lib.splitK
   have hne : ¬ (Lib.index l [c] == -1) = true := by
    rw [hi, beq_iff_eq]; omega
   rw [if_neg hne, hi]
   have hlen := tw_lt h
   simp only [Int.toNat_natCast, List.length_singleton, Nat.add_zero, zjy]
   congr 1
   cases n with
   | zero => omega
   | succ n => exact zhi c n _ (by rw [List.length_drop]; omega)
  ·rw [ztp h, ka h]; rfl
theorem yg (l : Bs) (c : UInt8) : decide (0 ≤ Lib.indexByte l c) = decide (c ∈ l) := by
 induction l with
 | nil => simp [Lib.indexByte]
 | cons b l ih =>
  have ih' : (0 ≤ Lib.indexByte l c) ↔ c ∈ l := by simpa using ih
  have hge := Lib.indexByte_ge l c
  unfold Lib.indexByte
  by_cases h : b = c
  ·subst h; simp
  ·have h1 : (b == c) = false := by simpa using h
   have h5 : ¬ c = b := fun e => h e.symm
   rw [h1]
   by_cases hm : Lib.indexByte l c = -1
   ·have : c ∉ l := fun e => by have := ih'.2 e; omega
    simp [hm, this, h5]
   ·have hc : c ∈ l := ih'.1 (by omega)
    simp [hm, hc]; omega
def kind (other : Bs) (c : UInt8) : Bool := lett c || dig c || decide (c ∈ other)
theorem zti {l : Bs} (h : l.getD 0 0 = 48) (h0 : 0 < l.length) : value l = value (l.drop 1) := by
 cases l with
 | nil => simp at h0
 | cons b l =>
  have : b = 48 := h
  subst this
  simp [value]
theorem zsh {l : Bs} (h : l.getD 0 0 ≠ 48) : value l = l := by
 cases l with
 | nil => rfl
 | cons b l =>
  have : (b == 48) = false := by simpa using h
  simp [value, this]
def sgn (n : Int) : Int := if n < 0 then -1 else if 0 < n then 1 else 0
def orI : List Int → Int
 | [] => 0
 | x :: l => cor x (orI l)
theorem zd2 : ∀ (xs : List Int) (k : Nat), (∀ j, j < k → xs.getD j 0 = 0) → orI xs = orI (xs.drop k)
 | _, 0, _ => rfl
 | [], k + 1, _ => by simp
 | x :: l, k + 1, h => by
  have h0 : x = 0 := h 0 (by omega)
  rw [List.drop_succ_cons, ← zd2 l k (fun j hj => h (j + 1) (by omega))]
  subst h0; rfl
end Go.Proofs.YtcfbkcapbbhmpaaGreatDoor.V
namespace Go.Proofs.YtcfbkcapbbhmpaaGreatDoor.V
def km (exact : Bool) (x : Bs) : Bool := only (kind [45]) x && !(digits x && !numb x exact)
def identifiers (s : Bs) (exact : Bool) : Bool := (zd 46 s).all (km exact)
def zfl (s : Bs) : Bool := (zd 46 s).all fun x => numb x false
def zq (v : Bs) : Option (List Bs × List Bs) :=
 if ((cut1 43 v).2.2 && !identifiers (cut1 43 v).2.1 false) || ((cut1 45 (cut1 43 v).1).2.2 && !identifiers (cut1 45 (cut1 43 v).1).2.1 true) || (zd 46 (cut1 45 (cut1 43 v).1).1).length != 3 then none
 else if (zd 46 (cut1 45 (cut1 43 v).1).1).all (fun x => numb x true) then
  some (zd 46 (cut1 45 (cut1 43 v).1).1, if (cut1 45 (cut1 43 v).1).2.2 then zd 46 (cut1 45 (cut1 43 v).1).2.1 else [])
 else none
end Go.Proofs.YtcfbkcapbbhmpaaGreatDoor.V
namespace Go.Proofs.YtcfbkcapbbhmpaaGreatDoor.V
theorem orI_hit (xs : List Int) (k : Nat) (h : ∀ j, j < k → xs.getD j 0 = 0) (hk : k < xs.length) (h0 : xs.getD k 0 ≠ 0) : orI xs = xs.getD k 0 := by
 rw [zd2 xs k h]
 have e : xs.drop k = xs.getD k 0 :: xs.drop (k + 1) := by
  rw [List.drop_eq_getElem_cons hk]; simp [List.getD, List.getElem?_eq_getElem hk]
 rw [e]; unfold orI cor; rw [if_neg h0]
theorem orI_zero (xs : List Int) (h : ∀ j, j < xs.length → xs.getD j 0 = 0) : orI xs = 0 := by
 rw [zd2 xs xs.length h]; simp [orI]
def ji {α : Type} (f : α → α → Int) : List α → List α → Int
 | [], [] => 0
 | [], _ :: _ => -1
 | _ :: _, [] => 1
 | a :: as, b :: bs => cor (f a b) (ji f as bs)
def zv (s : Bs) (d : Bool) : Bs × Bs := (s.takeWhile fun c => dig c == d, s.dropWhile fun c => dig c == d)
def wt (s : Bs) (i : Nat) : Int := if s.length ≤ i then 2 else if s.getD i 0 = 126 then 1 else if lett (s.getD i 0) then (s.getD i 0).toNat else ((s.getD i 0) ||| 128).toNat
def wcmp (x y : Bs) : Int := orI ((List.range (max x.length y.length)).map fun i => Lib.compareInt (wt x i) (wt y i))
def texts : Nat → Bs → Bs → Int
 | 0, _, _ => 0
 | f + 1, a, b => if a.isEmpty && b.isEmpty then 0 else
  cor (wcmp (zv a false).1 (zv b false).1)
   (cor (numbers (zv (zv a false).2 true).1 (zv (zv b false).2 true).1)
     (texts f (zv (zv a false).2 true).2 (zv (zv b false).2 true).2))
theorem span_len (p : UInt8 → Bool) (s : Bs) : (s.takeWhile p).length + (s.dropWhile p).length = s.length := by
 induction s with
 | nil => rfl
 | cons b l ih => by_cases h : p b = true <;> simp [h] <;> omega
theorem qn (s : Bs) (d : Bool) : (zv s d).1.length + (zv s d).2.length = s.length := span_len _ s
theorem ud (s : Bs) (h : s ≠ []) : (zv (zv s false).2 true).2.length < s.length := by
 have h1 := qn s false
 have h2 := qn (zv s false).2 true
 have h3 : 0 < (zv s false).1.length + (zv (zv s false).2 true).1.length := by
  cases s with
  | nil => exact absurd rfl h
  | cons b l =>
   by_cases hd : dig b = true
   ·simp [zv, hd]
   ·simp [zv, hd]; omega
 omega
theorem zmj : ∀ (f g : Nat) (a b : Bs), a.length + b.length < f → a.length + b.length < g → texts f a b = texts g a b
 | 0, _, _, _, h, _ => by omega
 | _, 0, _, _, _, h => by omega
 | f + 1, g + 1, a, b, hf, hg => by
  unfold texts
  by_cases he : (a.isEmpty && b.isEmpty) = true
  ·simp [he]
  ·rw [if_neg he, if_neg he]
   congr 2
   have ha := qn a false
   have ha2 := qn (zv a false).2 true
   have hb := qn b false
   have hb2 := qn (zv b false).2 true
   have hne : a ≠ [] ∨ b ≠ [] := by
    rcases a with _ | ⟨x, a⟩
    ·rcases b with _ | ⟨y, b⟩
     ·simp at he
     ·exact .inr (by simp)
    ·exact .inl (by simp)
   have hlt : (zv (zv a false).2 true).2.length + (zv (zv b false).2 true).2.length < a.length + b.length := by
    rcases hne with h | h
    ·have := ud a h; omega
    ·have := ud b h; omega
   exact zmj f g _ _ (by omega) (by omega)
def ql (a b : Bs) : Int := texts (a.length + b.length + 1) a b
theorem zs1 : ql [] [] = 0 := rfl
theorem zep (a b : Bs) (h : ¬ (a.isEmpty && b.isEmpty) = true) : ql a b = cor (wcmp (zv a false).1 (zv b false).1)
      (cor (numbers (zv (zv a false).2 true).1 (zv (zv b false).2 true).1)
        (ql (zv (zv a false).2 true).2 (zv (zv b false).2 true).2)) := by
 unfold ql
 rw [texts, if_neg h]
 congr 2
 have hne : a ≠ [] ∨ b ≠ [] := by
  rcases a with _ | ⟨x, a⟩
  ·rcases b with _ | ⟨y, b⟩
   ·simp at h
   ·exact .inr (by simp)
  ·exact .inl (by simp)
 have ha := qn a false
 have ha2 := qn (zv a false).2 true
 have hb := qn b false
 have hb2 := qn (zv b false).2 true
 refine zmj _ _ _ _ ?_ (by omega)
 rcases hne with h | h
 ·have := ud a h; omega
 ·have := ud b h; omega
theorem wj (y : Int) : cor 0 y = y := rfl
theorem kk {x : Int} (h : x ≠ 0) (y : Int) : cor x y = x := by unfold cor; rw [if_neg h]
theorem zt9 (s : Bs) (p : UInt8 → Bool) (k : Nat) (hk : k ≤ s.length) (h1 : (s.take k).all p = true) (h2 : k = s.length ∨ ∃ h : k < s.length, p s[k] = false) :
  s.take k = s.takeWhile p ∧ s.drop k = s.dropWhile p := by
 induction s generalizing k with
 | nil => simp
 | cons b l ih =>
  cases k with
  | zero =>
   rcases h2 with h2 | ⟨h, h2⟩
   ·simp at h2
   ·have h2 : p b = false := h2
    simp [h2]
  | succ k =>
   simp at h1
   have h3 := ih k (by simpa using hk) (by simpa using h1.2) (by
     rcases h2 with h2 | ⟨h, h2⟩
     · left; simpa using h2
     · right; exact ⟨by simpa using h, by simpa using h2⟩)
   simp [h1.1, h3.1, h3.2]
def allow : Bs := [46, 43, 126]
def jg (s : Bs) : Int := Lib.lastIndexByte ⟨s.toArray⟩ 45
def jq (ep s : Bs) : Option (Bs × Bs × Bs) :=
 if jg s < 0 then
  if only (kind [46, 43, 126, 45]) s && dig (s.getD 0 0) then some (ep, s, []) else none
 else if only (kind allow) (s.drop ((jg s).toNat + 1)) then
  if only (kind [46, 43, 126, 45]) (s.take (jg s).toNat) && dig ((s.take (jg s).toNat).getD 0 0) then some (ep, s.take (jg s).toNat, s.drop ((jg s).toNat + 1)) else none
 else none
def zu (v : Bs) : Option (Bs × Bs × Bs) :=
 if (cut1 58 v).2.2 then if numb (cut1 58 v).1 false then jq (cut1 58 v).1 (cut1 58 v).2.1 else none
 else jq [] v
def qd (l : List Bs) : List Bs := (l.reverse.dropWhile fun x => (value x).isEmpty).reverse
def kc (v : Bs) : List Bs := qd (zd 46 v)
def zbz (a b : Bs) : Int := ji numbers (kc a) (kc b)
def vv (x y : Bs × Bs × Bs) : Int := orI [numbers x.1 y.1, ql x.2.1 y.2.1, ql x.2.2 y.2.2]
theorem zmt (l : List Bs) (x : Bs) (h : (value x).isEmpty = true) : qd (l ++ [x]) = qd l := by
 unfold qd; simp [h]
theorem zmp (l : List Bs) (x : Bs) (h : (value x).isEmpty = false) : qd (l ++ [x]) = l ++ [x] := by
 unfold qd; simp [h]
def zdo (p q : List Bs) : Int := if p.isEmpty || q.isEmpty then Lib.compareInt q.length p.length else ji kl p q
def js (x y : List Bs × List Bs) : Int :=
 cor (orI [numbers (x.1.getD 0 []) (y.1.getD 0 []), numbers (x.1.getD 1 []) (y.1.getD 1 []), numbers (x.1.getD 2 []) (y.1.getD 2 [])]) (zdo x.2 y.2)
def uh (n : Int) (v : Bs) : Bool := if n = 1 then (zq v).isSome else if n = 2 then (zu v).isSome else if n = 3 then zfl v else false
def cmpV (n : Int) (a b : Bs) : Int :=
 if n = 1 then (match zq a, zq b with | some x, some y => js x y | _, _ => 0)
 else if n = 2 then (match zu a, zu b with | some x, some y => vv x y | _, _ => 0)
 else zbz a b
def valid (n : Int) (v : Bs) : Bool := decide (1 ≤ v.length) && decide (v.length ≤ 64) && uh n v
def scheme (n : Int) : Bool := n == 1 || n == 2 || n == 3
def qt (n : Int) (a b : Bs) : Int × Int := if !scheme n then (0, 14) else if valid n a && valid n b then (cmpV n a b, 0) else (0, 1)
end Go.Proofs.YtcfbkcapbbhmpaaGreatDoor.V
namespace Go.Proofs.YtcfbkcapbbhmpaaGreatDoor.V
abbrev cb := Lib.compareBytes
theorem zbo (a b c : Int) : cor (cor a b) c = cor a (cor b c) := by unfold cor; repeat' split <;> simp_all
theorem zcz (a : Int) : cor a 0 = a := by unfold cor; split <;> simp_all
theorem uy : ∀ a, cb a a = 0
 | [] => rfl
 | x :: a => by simp [cb, Lib.compareBytes]; exact uy a
theorem xj (x : UInt8) (a b : Bs) : cb (x :: a) (x :: b) = cb a b := by simp [cb, Lib.compareBytes]
theorem za3 {x y : UInt8} (h : x < y) (a b : Bs) : cb (x :: a) (y :: b) = -1 := by simp [cb, Lib.compareBytes, h]
theorem za4 {x y : UInt8} (h : y < x) (a b : Bs) : cb (x :: a) (y :: b) = 1 := by
 have h2 : ¬ x < y := fun g => by rw [UInt8.lt_iff_toNat_lt] at h g; omega
 simp [cb, Lib.compareBytes, h, h2]
theorem zdz (x y : UInt8) : x < y ∨ x = y ∨ y < x := by
 rw [UInt8.lt_iff_toNat_lt, UInt8.lt_iff_toNat_lt, ← UInt8.toNat_inj]; omega
theorem zjn (x y : UInt8) (a b : Bs) : (x < y ∧ cb (x :: a) (y :: b) = -1) ∨ (x = y ∧ cb (x :: a) (y :: b) = cb a b) ∨ (y < x ∧ cb (x :: a) (y :: b) = 1) := by
 rcases zdz x y with h | h | h
 ·exact .inl ⟨h, za3 h a b⟩
 ·subst h; exact .inr (.inl ⟨rfl, xj x a b⟩)
 ·exact .inr (.inr ⟨h, za4 h a b⟩)
theorem zl7 : ∀ a b, cb a b = -1 ∨ cb a b = 0 ∨ cb a b = 1
 | [], [] => .inr (.inl rfl)
 | [], _ :: _ => .inl rfl
 | _ :: _, [] => .inr (.inr rfl)
 | x :: a, y :: b => by
  rcases zjn x y a b with ⟨_, h⟩ | ⟨_, h⟩ | ⟨_, h⟩
  ·exact .inl h
  ·rw [h]; exact zl7 a b
  ·exact .inr (.inr h)
theorem kt : ∀ a b, cb b a = - cb a b
 | [], [] => rfl
 | [], _ :: _ => rfl
 | _ :: _, [] => rfl
 | x :: a, y :: b => by
  rcases zdz x y with h | h | h
  ·rw [za3 h, za4 h]; rfl
  ·subst h; rw [xj, xj]; exact kt a b
  ·rw [za3 h, za4 h]
theorem zlr : ∀ {a b}, cb a b = 0 → a = b
 | [], [], _ => rfl
 | [], _ :: _, h => by simp [cb, Lib.compareBytes] at h
 | _ :: _, [], h => by simp [cb, Lib.compareBytes] at h
 | x :: a, y :: b, h => by
  rcases zjn x y a b with ⟨_, g⟩ | ⟨e, g⟩ | ⟨_, g⟩
  ·rw [g] at h; simp at h
  ·rw [g] at h; rw [e, zlr h]
  ·rw [g] at h; simp at h
theorem za0 : ∀ a b c, cb a b ≤ 0 → cb b c ≤ 0 → cb a c ≤ 0
 | [], _, [], _, _ => by simp [cb, Lib.compareBytes]
 | [], _, _ :: _, _, _ => by simp [cb, Lib.compareBytes]
 | _ :: _, [], _, h, _ => by simp [cb, Lib.compareBytes] at h
 | _ :: _, _ :: _, [], _, h => by simp [cb, Lib.compareBytes] at h
 | x :: a, y :: b, z :: c, h, g => by
  rcases zdz x y with h1 | h1 | h1
  ·rcases zdz y z with g1 | g1 | g1
   ·rw [za3 (by rw [UInt8.lt_iff_toNat_lt] at *; omega)]; decide
   ·subst g1; rw [za3 h1]; decide
   ·rw [za4 g1] at g; simp at g
  ·subst h1
   rcases zdz x z with g1 | g1 | g1
   ·rw [za3 g1]; decide
   ·subst g1; rw [xj] at *; exact za0 a b c h g
   ·rw [za4 g1] at g; simp at g
  ·rw [za4 h1] at h; simp at h
theorem cb_app : ∀ (a b x y : Bs), a.length = b.length → cb (a ++ x) (b ++ y) = cor (cb a b) (cb x y)
 | [], [], _, _, _ => rfl
 | [], _ :: _, _, _, h => by simp at h
 | _ :: _, [], _, _, h => by simp at h
 | p :: a, q :: b, x, y, h => by
  rw [List.cons_append, List.cons_append]
  rcases zdz p q with e | e | e
  ·rw [za3 e, za3 e]; rfl
  ·subst e; rw [xj, xj]; exact cb_app a b x y (by simpa using h)
  ·rw [za4 e, za4 e]; rfl
theorem zog (a : Bs) : (value a).length ≤ a.length := (List.dropWhile_sublist _).length_le
theorem zrz {m n : Nat} (h : m < n) (hn : n ≤ 255) : UInt8.ofNat m < UInt8.ofNat n := by
 rw [UInt8.lt_iff_toNat_lt, UInt8.toNat_ofNat', UInt8.toNat_ofNat', Nat.mod_eq_of_lt (by omega), Nat.mod_eq_of_lt (by omega)]; exact h
theorem zd7 (a b x y : Bs) (ha : a.length ≤ 255) (hb : b.length ≤ 255) : cb (nk a ++ x) (nk b ++ y) = cor (numbers a b) (cb x y) := by
 have h1 := zog a
 have h2 := zog b
 unfold nk numbers Lib.compareInt
 rw [List.cons_append, List.cons_append]
 rcases Nat.lt_trichotomy (value a).length (value b).length with h | h | h
 ·rw [za3 (zrz h (by omega)), if_pos (by omega)]; rfl
 ·rw [h, xj, cb_app _ _ _ _ h, if_neg (by omega), if_neg (by omega), wj]
 ·rw [za4 (zrz h (by omega)), if_neg (by omega), if_pos (by omega)]; rfl
theorem _root_.Go.Proofs.YtcfbkcapbbhmpaaGreatDoor.z1y {P : Prop} (h : P := by
 rw [UInt8.lt_iff_toNat_lt]
 rw [Ne, ← UInt8.toNat_inj] at this
 have h0 : (0 : UInt8).toNat = 0 := rfl
 omega) : P := h
theorem zur : ∀ (p q x y : Bs), (∀ c ∈ p, c ≠ 0) → (∀ c ∈ q, c ≠ 0) → cb (p ++ 0 :: x) (q ++ 0 :: y) = cor (cb p q) (cb x y)
 | [], [], x, y, _, _ => by rw [List.nil_append, List.nil_append, xj]; rfl
 | [], b :: q, x, y, _, h => by
  have hb : (0 : UInt8) < b := by
   have := h b (by simp)
   exact z1y
  rw [List.nil_append, List.cons_append, za3 hb]; rfl
 | b :: p, [], x, y, h, _ => by
  have hb : (0 : UInt8) < b := by
   have := h b (by simp)
   exact z1y
  rw [List.nil_append, List.cons_append, za4 hb]; rfl
 | b :: p, c :: q, x, y, h, g => by
  rw [List.cons_append, List.cons_append]
  rcases zdz b c with e | e | e
  ·rw [za3 e, za3 e]; rfl
  ·subst e
   rw [xj, xj]
   exact zur p q x y (fun d hd => h d (by simp [hd])) (fun d hd => g d (by simp [hd]))
  ·rw [za4 e, za4 e]; rfl
def zfk (p : Bs) : Bs := if digits p then 1 :: nk p else 2 :: (p ++ [0])
def uz (l : List Bs) : Bs := (l.map zfk).flatten
def zpw (l : List Bs) : Bs := if l.isEmpty then [3] else uz l ++ [0]
def zo1 (x : List Bs × List Bs) : Bs := nk (x.1.getD 0 []) ++ (nk (x.1.getD 1 []) ++ (nk (x.1.getD 2 []) ++ zpw x.2))
def Tame (p : Bs) : Prop := p.length ≤ 255 ∧ ∀ c ∈ p, c ≠ 0
theorem zu6 (p q x y : Bs) (hp : Tame p) (hq : Tame q) : cb (zfk p ++ x) (zfk q ++ y) = cor (kl p q) (cb x y) := by
 unfold zfk kl
 rcases h1 : digits p with _ | _ <;> rcases h2 : digits q with _ | _
 ·simp only [Bool.false_eq_true, if_false, Bool.and_self]
  rw [List.cons_append, List.cons_append, xj, List.append_assoc, List.append_assoc]
  exact zur p q x y hp.2 hq.2
 ·simp only [Bool.false_eq_true, if_false, if_true, Bool.and_true]
  rw [List.cons_append, List.cons_append, za4 (by decide)]; rfl
 ·simp only [Bool.false_eq_true, if_false, if_true, Bool.and_false]
  rw [List.cons_append, List.cons_append, za3 (by decide)]; rfl
 ·simp only [if_true, Bool.and_self]
  rw [List.cons_append, List.cons_append, xj]
  exact zd7 p q x y hp.1 hq.1
theorem zdi (p x : Bs) : ∃ c r, zfk p ++ x = c :: r ∧ 0 < c ∧ c < 3 := by
 unfold zfk
 split
 ·exact ⟨_, _, rfl, by decide, by decide⟩
 ·exact ⟨_, _, rfl, by decide, by decide⟩
theorem zmb : ∀ p q : List Bs, (∀ x ∈ p, Tame x) → (∀ x ∈ q, Tame x) → cb (uz p ++ [0]) (uz q ++ [0]) = ji kl p q
 | [], [], _, _ => rfl
 | [], b :: q, _, _ => by
  obtain ⟨c, r, h, hc, _⟩ := zdi b (uz q ++ [0])
  show cb [0] ((zfk b ++ uz q) ++ [0]) = -1
  rw [List.append_assoc, h, za3 hc]
 | b :: p, [], _, _ => by
  obtain ⟨c, r, h, hc, _⟩ := zdi b (uz p ++ [0])
  show cb ((zfk b ++ uz p) ++ [0]) [0] = 1
  rw [List.append_assoc, h, za4 hc]
 | a :: p, b :: q, hp, hq => by
  show cb ((zfk a ++ uz p) ++ [0]) ((zfk b ++ uz q) ++ [0]) = cor (kl a b) (ji kl p q)
  rw [List.append_assoc, List.append_assoc, zu6 a b _ _ (hp a (by simp)) (hq b (by simp)), zmb p q (fun x h => hp x (by simp [h])) (fun x h => hq x (by simp [h]))]
theorem ztd (p q : List Bs) (hp : ∀ x ∈ p, Tame x) (hq : ∀ x ∈ q, Tame x) : cb (zpw p) (zpw q) = zdo p q := by
 unfold zpw zdo
 cases p with
 | nil =>
  cases q with
  | nil => rfl
  | cons b q =>
   obtain ⟨c, r, h, _, hc⟩ := zdi b (uz q ++ [0])
   have e : uz (b :: q) ++ [0] = c :: r := by rw [← h]; simp [uz]
   simp only [List.isEmpty_nil, List.isEmpty_cons, if_true, if_false, Bool.false_eq_true, Bool.true_or]
   rw [e, za4 hc]
   unfold Lib.compareInt
   rw [if_neg (by simp; try omega), if_pos (by simp; try omega)]
 | cons a p =>
  cases q with
  | nil =>
   obtain ⟨c, r, h, _, hc⟩ := zdi a (uz p ++ [0])
   have e : uz (a :: p) ++ [0] = c :: r := by rw [← h]; simp [uz]
   simp only [List.isEmpty_nil, List.isEmpty_cons, if_true, if_false, Bool.false_eq_true, Bool.or_true]
   rw [e, za3 hc]
   unfold Lib.compareInt
   rw [if_pos (by simp; try omega)]
  | cons b q => simp only [List.isEmpty_cons, if_false, Bool.false_eq_true, Bool.or_self]; exact zmb _ _ hp hq
theorem ztv (x y : List Bs × List Bs) (hx : ∀ k, (x.1.getD k []).length ≤ 255) (hy : ∀ k, (y.1.getD k []).length ≤ 255) (hp : ∀ z ∈ x.2, Tame z) (hq : ∀ z ∈ y.2, Tame z) :
  cb (zo1 x) (zo1 y) = js x y := by
 unfold zo1 js
 rw [zd7 _ _ _ _ (hx 0) (hy 0), zd7 _ _ _ _ (hx 1) (hy 1), zd7 _ _ _ _ (hx 2) (hy 2), ztd _ _ hp hq]
 simp only [orI, zcz, zbo]
def wb (c : UInt8) : UInt8 := if c = 126 then 1 else if lett c then c else c ||| 128
def wts (s : Bs) : Bs := s.map wb ++ [2]
theorem zoh (c : UInt8) : wb c ≠ 2 := by
 have h : ∀ n : Fin 256, wb (UInt8.ofNat n.val) ≠ 2 := by decide +kernel
 have := h ⟨c.toNat, c.toNat_lt⟩
 rwa [show UInt8.ofNat c.toNat = c from UInt8.ofNat_toNat] at this
theorem zjt (c : UInt8) (s : Bs) : wt (c :: s) 0 = (wb c).toNat := by
 unfold wt wb
 simp only [List.length_cons, List.getD_cons_zero]
 rw [if_neg (by omega)]
 repeat' split
 all_goals rfl
theorem zup (c : UInt8) (s : Bs) (i : Nat) : wt (c :: s) (i + 1) = wt s i := by
 unfold wt
 simp only [List.length_cons, List.getD_cons_succ, Nat.add_le_add_iff_right]
theorem wt_nil (i : Nat) : wt [] i = 2 := by unfold wt; simp
theorem zve (b c : UInt8) (p q : Bs) : wcmp (b :: p) (c :: q) = cor (Lib.compareInt (wb b).toNat (wb c).toNat) (wcmp p q) := by
 unfold wcmp
 rw [List.length_cons, List.length_cons, Nat.succ_max_succ, List.range_succ_eq_map, List.map_cons, orI, zjt, zjt, List.map_map]
 congr 2
 exact List.map_congr_left (fun i _ => by show Lib.compareInt (wt (b :: p) (i + 1)) (wt (c :: q) (i + 1)) = _; rw [zup, zup])
theorem zet {a b : Int} (h : a ≠ b) : Lib.compareInt a b ≠ 0 := by unfold Lib.compareInt; repeat' split <;> omega
theorem zmn (c : UInt8) (q : Bs) : wcmp [] (c :: q) = Lib.compareInt 2 (wb c).toNat := by
 unfold wcmp
 rw [List.length_nil, List.length_cons, Nat.zero_max, List.range_succ_eq_map, List.map_cons, orI, zjt, wt_nil, kk]
 apply zet
 intro e
 apply zoh c
 rw [← UInt8.toNat_inj]
 have : (2 : UInt8).toNat = 2 := rfl
 omega
theorem zob (c : UInt8) (q : Bs) : wcmp (c :: q) [] = Lib.compareInt (wb c).toNat 2 := by
 unfold wcmp
 rw [List.length_nil, List.length_cons, Nat.max_zero, List.range_succ_eq_map, List.map_cons, orI, zjt, wt_nil, kk]
 apply zet
 intro e
 apply zoh c
 rw [← UInt8.toNat_inj]
 have : (2 : UInt8).toNat = 2 := rfl
 omega
theorem wcmp_nil : wcmp [] [] = 0 := rfl
theorem zmh (x y : UInt8) (a b : Bs) : cb (x :: a) (y :: b) = cor (Lib.compareInt x.toNat y.toNat) (cb a b) := by
 unfold Lib.compareInt
 rcases zdz x y with e | e | e
 ·rw [za3 e, if_pos (by rw [UInt8.lt_iff_toNat_lt] at e; omega)]; rfl
 ·subst e; rw [xj, if_neg (by omega), if_neg (by omega)]; rfl
 ·rw [za4 e, if_neg (by rw [UInt8.lt_iff_toNat_lt] at e; omega), if_pos (by rw [UInt8.lt_iff_toNat_lt] at e; omega)]; rfl
theorem zhe : ∀ (p q x y : Bs), cb (wts p ++ x) (wts q ++ y) = cor (wcmp p q) (cb x y)
 | [], [], x, y => by rw [wcmp_nil, wj]; exact xj 2 x y
 | [], c :: q, x, y => by
  rw [zmn]
  show cb (2 :: x) (wb c :: (wts q ++ y)) = _
  rw [zmh]
  have h : Lib.compareInt ((2 : UInt8).toNat : Int) (wb c).toNat ≠ 0 := zet (by
    intro e; apply zoh c; rw [← UInt8.toNat_inj]; omega)
  rw [kk h]
  exact (kk h _).symm
 | c :: p, [], x, y => by
  rw [zob]
  show cb (wb c :: (wts p ++ x)) (2 :: y) = _
  rw [zmh]
  have h : Lib.compareInt (wb c).toNat ((2 : UInt8).toNat : Int) ≠ 0 := zet (by
    intro e; apply zoh c; rw [← UInt8.toNat_inj]; omega)
  rw [kk h]
  exact (kk h _).symm
 | b :: p, c :: q, x, y => by
  rw [zve]
  show cb (wb b :: (wts p ++ x)) (wb c :: (wts q ++ y)) = _
  rw [zmh, zhe p q x y, zbo]
def zdw (s : Bs) : Bs := (zv (zv s false).2 true).2
def zfh (s : Bs) : Bs := wts (zv s false).1 ++ nk (zv (zv s false).2 true).1
def zdv : Nat → Bs → Bs
 | 0, _ => [2]
 | f + 1, s => if s.isEmpty then [2] else zfh s ++ zdv f (zdw s)
def zgs (s : Bs) : Bs := zfh s ++ zdv s.length (zdw s)
theorem znp (s : Bs) : (zdw s).length ≤ s.length := by
 have h1 := qn s false
 have h2 := qn (zv s false).2 true
 unfold zdw; omega
theorem zrq {s : Bs} (h : s ≠ []) : (zdw s).length < s.length := ud s h
theorem zon {p : UInt8 → Bool} : ∀ {l : Bs} {c r}, l.dropWhile p = c :: r → p c = false
 | b :: l, c, r, h => by
  rw [List.dropWhile_cons] at h
  split at h
  ·exact zon h
  ·rename_i hb
   simp at h; obtain ⟨rfl, _⟩ := h; exact Bool.eq_false_iff.2 hb
theorem zdb {s : Bs} {c : UInt8} {r : Bs} (h : zdw s = c :: r) : dig c = false := by
 have := zon (p := fun c => dig c == true) (show List.dropWhile _ _ = c :: r from h)
 simpa using this
theorem zbb (a b : Bs) : ql a b = cor (wcmp (zv a false).1 (zv b false).1)
      (cor (numbers (zv (zv a false).2 true).1 (zv (zv b false).2 true).1) (ql (zdw a) (zdw b))) := by
 by_cases h : (a.isEmpty && b.isEmpty) = true
 ·rw [Bool.and_eq_true, List.isEmpty_iff, List.isEmpty_iff] at h
  obtain ⟨rfl, rfl⟩ := h
  decide +kernel
 ·exact zep a b h
theorem zg9 (s : Bs) : (zv s false).1.length ≤ s.length ∧ (zv (zv s false).2 true).1.length ≤ s.length := by
 have h1 := qn s false
 have h2 := qn (zv s false).2 true
 omega
theorem zos {c : UInt8} (r : Bs) (h : dig c = false) : ∃ q, (zv (c :: r) false).1 = c :: q := by
 unfold zv
 refine ⟨r.takeWhile fun c => dig c == false, ?_⟩
 simp [h]
theorem zot : ∀ (f g : Nat) (a b x y : Bs), a.length ≤ f → b.length ≤ g → a.length ≤ 255 → b.length ≤ 255 → (∀ c r, a = c :: r → dig c = false) → (∀ c r, b = c :: r → dig c = false) →
  cb (zdv f a ++ x) (zdv g b ++ y) = cor (ql a b) (cb x y)
 | f, g, [], [], x, y, _, _, _, _, _, _ => by
  have e1 : zdv f [] = [2] := by cases f <;> rfl
  have e2 : zdv g [] = [2] := by cases g <;> rfl
  rw [e1, e2, zs1, wj]; exact xj 2 x y
 | f, 0, _, _ :: _, _, _, _, h, _, _, _, _ => by simp at h
 | 0, g, _ :: _, _, _, _, h, _, _, _, _, _ => by simp at h
 | f, g + 1, [], c :: r, x, y, _, _, _, _, _, hb => by
  have e1 : zdv f [] = wts [] := by cases f <;> rfl
  obtain ⟨q, hq⟩ := zos r (hb c r rfl)
  have e0 : (zv ([] : Bs) false).1 = [] := rfl
  have hw : wcmp [] (c :: q) ≠ 0 := by
   rw [zmn]; exact zet (by intro e; apply zoh c; rw [← UInt8.toNat_inj]; have : (2 : UInt8).toNat = 2 := rfl; omega)
  rw [zbb, hq, e0, kk hw, e1]
  show cb (wts [] ++ x) ((zfh (c :: r) ++ zdv g (zdw (c :: r))) ++ y) = _
  unfold zfh
  rw [hq, List.append_assoc, List.append_assoc, zhe, kk hw, kk hw]
 | f + 1, g, c :: r, [], x, y, _, _, _, _, ha, _ => by
  have e1 : zdv g [] = wts [] := by cases g <;> rfl
  obtain ⟨q, hq⟩ := zos r (ha c r rfl)
  have e0 : (zv ([] : Bs) false).1 = [] := rfl
  have hw : wcmp (c :: q) [] ≠ 0 := by
   rw [zob]; exact zet (by intro e; apply zoh c; rw [← UInt8.toNat_inj]; have : (2 : UInt8).toNat = 2 := rfl; omega)
  rw [zbb, hq, e0, kk hw, e1]
  show cb ((zfh (c :: r) ++ zdv f (zdw (c :: r))) ++ x) (wts [] ++ y) = _
  unfold zfh
  rw [hq, List.append_assoc, List.append_assoc, zhe, kk hw, kk hw]
 | f + 1, g + 1, c :: r, d :: t, x, y, hf, hg, h1, h2, ha, hb => by
  have l1 := zrq (s := c :: r) (by simp)
  have l2 := zrq (s := d :: t) (by simp)
  have s1 := zg9 (c :: r)
  have s2 := zg9 (d :: t)
  rw [zbb]
  show cb ((zfh (c :: r) ++ zdv f (zdw (c :: r))) ++ x) ((zfh (d :: t) ++ zdv g (zdw (d :: t))) ++ y) = _
  unfold zfh
  rw [List.append_assoc, List.append_assoc, List.append_assoc, List.append_assoc, zhe, zd7 _ _ _ _ (by omega) (by omega),
    zot f g _ _ x y (by omega) (by omega) (by omega) (by omega) (fun _ _ h => zdb h) (fun _ _ h => zdb h), zbo, zbo]
theorem zie (a b x y : Bs) (ha : a.length ≤ 255) (hb : b.length ≤ 255) : cb (zgs a ++ x) (zgs b ++ y) = cor (ql a b) (cb x y) := by
 have l1 := znp a
 have l2 := znp b
 have s1 := zg9 a
 have s2 := zg9 b
 unfold zgs zfh
 rw [zbb, List.append_assoc, List.append_assoc, List.append_assoc, List.append_assoc, zhe, zd7 _ _ _ _ (by omega) (by omega),
   zot _ _ _ _ x y (by omega) (by omega) (by omega) (by omega) (fun _ _ h => zdb h) (fun _ _ h => zdb h), zbo, zbo]
def zpx (x : Bs × Bs × Bs) : Bs := nk x.1 ++ (zgs x.2.1 ++ zgs x.2.2)
theorem ztx (x y : Bs × Bs × Bs) (h1 : x.1.length ≤ 255) (h2 : x.2.1.length ≤ 255) (h3 : x.2.2.length ≤ 255) (g1 : y.1.length ≤ 255) (g2 : y.2.1.length ≤ 255) (g3 : y.2.2.length ≤ 255) :
  cb (zpx x) (zpx y) = vv x y := by
 unfold zpx vv
 rw [zd7 _ _ _ _ h1 g1, zie _ _ _ _ h2 g2]
 have := zie x.2.2 y.2.2 [] [] h3 g3
 rw [List.append_nil, List.append_nil, show cb [] [] = 0 from rfl, zcz] at this
 rw [this]
 simp only [orI, zcz]
def zty (l : List Bs) : Bs := (l.map fun x => 1 :: nk x).flatten
def zsq (l : List Bs) : Bs := zty l ++ [0]
theorem zlj : ∀ p q : List Bs, (∀ x ∈ p, x.length ≤ 255) → (∀ x ∈ q, x.length ≤ 255) → cb (zsq p) (zsq q) = ji numbers p q
 | [], [], _, _ => rfl
 | [], b :: q, _, _ => rfl
 | b :: p, [], _, _ => rfl
 | a :: p, b :: q, hp, hq => by
  show cb (((1 :: nk a) ++ zty p) ++ [0]) (((1 :: nk b) ++ zty q) ++ [0]) = cor (numbers a b) (ji numbers p q)
  rw [List.append_assoc, List.append_assoc, List.cons_append, List.cons_append, xj, zd7 _ _ _ _ (hp a (by simp)) (hq b (by simp))]
  congr 1
  exact zlj p q (fun x h => hp x (by simp [h])) (fun x h => hq x (by simp [h]))
def keyV (n : Int) (v : Bs) : Bs :=
 if n = 1 then (match zq v with | some x => zo1 x | none => [])
 else if n = 2 then (match zu v with | some x => zpx x | none => [])
 else zsq (kc v)
theorem zgx (c : UInt8) (l : Bs) : (cut1 c l).1.length ≤ l.length ∧ (cut1 c l).2.1.length ≤ l.length := by
 unfold cut1
 split
 ·exact ⟨(List.takeWhile_sublist _).length_le, by simp⟩
 ·simp
theorem _root_.Go.Proofs.YtcfbkcapbbhmpaaGreatDoor.zyx {P : Prop} (h : P := by
 split at h
 ·rcases List.mem_cons.1 h with h | h
  ·simp [h]
  ·have := ih x h; simp; omega
 ·split at h
  ·simp at h; simp [h]
  ·rename_i y r he
   rw [he] at ih
   rcases List.mem_cons.1 h with h | h
   ·subst h; have := ih y (by simp); simp; omega
   ·have := ih x (by simp [h]); simp; omega) : P := h
theorem zc8 (c : UInt8) : ∀ (l x : Bs), x ∈ zd c l → x.length ≤ l.length
 | [], x, h => by simp [zd] at h; simp [h]
 | b :: l, x, h => by
  have ih := zc8 c l
  unfold zd at h
  exact zyx
theorem zmc {e : Bool} {x : Bs} (h : km e x = true) (hl : x.length ≤ 255) : Tame x := by
 refine ⟨hl, fun c hc e0 => ?_⟩
 subst e0
 unfold km only at h
 rw [Bool.and_eq_true, Bool.and_eq_true, List.all_eq_true] at h
 have := h.1.1 0 hc
 revert this; decide +kernel
theorem wh {s : Bs} {l pre : List Bs} (h : zq s = some (l, pre)) : (∀ x ∈ l, x.length ≤ s.length) ∧ (∀ x ∈ pre, x.length ≤ s.length ∧ km true x = true) := by
 unfold zq at h
 have h1 := zgx 43 s
 have h2 := zgx 45 (cut1 43 s).1
 split at h
 ·cases h
 ·rename_i hn
  split at h
  ·simp only [Option.some.injEq, Prod.mk.injEq] at h
   obtain ⟨rfl, h⟩ := h
   refine ⟨fun x hx => by have := zc8 46 _ x hx; omega, fun x hx => ?_⟩
   split at h
   ·rename_i hc
    subst h
    refine ⟨by have := zc8 46 _ x hx; omega, ?_⟩
    have hi : identifiers (cut1 45 (cut1 43 s).1).2.1 true = true := by
     rcases hb : identifiers (cut1 45 (cut1 43 s).1).2.1 true with _ | _
     ·rw [hb, hc] at hn; simp at hn
     ·rfl
    unfold identifiers at hi
    rw [List.all_eq_true] at hi
    exact hi x hx
   ·subst h; simp at hx
  ·cases h
theorem wg {s : Bs} {x : Bs × Bs × Bs} (h : zu s = some x) : x.1.length ≤ s.length ∧ x.2.1.length ≤ s.length ∧ x.2.2.length ≤ s.length := by
 have ht : ∀ {ep t : Bs}, ep.length ≤ s.length → t.length ≤ s.length → jq ep t = some x → x.1.length ≤ s.length ∧ x.2.1.length ≤ s.length ∧ x.2.2.length ≤ s.length := by
  intro ep t he hl h
  unfold jq at h
  repeat' split at h
  all_goals first | (cases h; done) | (simp only [Option.some.injEq] at h; subst h; simp only [List.length_take, List.length_drop, List.length_nil]; omega)
 have h1 := zgx 58 s
 unfold zu at h
 split at h
 ·split at h
  ·exact ht h1.1 h1.2 h
  ·cases h
 ·exact ht (by simp) (Nat.le_refl _) h
theorem zhd {s x : Bs} (h : x ∈ kc s) : x.length ≤ s.length := by
 unfold kc qd at h
 rw [List.mem_reverse] at h
 exact zc8 46 s x (List.mem_reverse.1 ((List.dropWhile_sublist _).subset h))
theorem vr {n : Int} {v : Bs} (h : valid n v = true) : v.length ≤ 64 := by
 unfold valid at h; simp at h; omega
theorem ze1 {l : List Bs} {m : Nat} (h : ∀ x ∈ l, x.length ≤ m) (k : Nat) : (l.getD k []).length ≤ m := by
 rw [List.getD_eq_getElem?_getD]
 rcases hk : l[k]? with _ | x
 ·simp
 ·exact h x (List.mem_of_getElem? hk)
theorem ze6 {n : Int} (hn : scheme n = true) {a b : Bs} (ha : valid n a = true) (hb : valid n b = true) : cb (keyV n a) (keyV n b) = cmpV n a b := by
 have l1 := vr ha
 have l2 := vr hb
 have hs : n = 1 ∨ n = 2 ∨ n = 3 := by unfold scheme at hn; simpa [or_assoc] using hn
 rcases hs with rfl | rfl | rfl
 ·unfold keyV cmpV
  rw [if_pos rfl, if_pos rfl, if_pos rfl]
  obtain ⟨⟨la, pa⟩, e1⟩ := Option.isSome_iff_exists.1 (show (zq a).isSome = true by unfold valid uh at ha; simp at ha; exact ha.2)
  obtain ⟨⟨lb, pb⟩, e2⟩ := Option.isSome_iff_exists.1 (show (zq b).isSome = true by unfold valid uh at hb; simp at hb; exact hb.2)
  have f1 := wh e1
  have f2 := wh e2
  rw [e1, e2]
  exact ztv _ _ (fun k => by have := ze1 f1.1 k; simp only; omega) (fun k => by have := ze1 f2.1 k; simp only; omega)
   (fun z hz => zmc (f1.2 z hz).2 (by have := (f1.2 z hz).1; omega)) (fun z hz => zmc (f2.2 z hz).2 (by have := (f2.2 z hz).1; omega))
 ·unfold keyV cmpV
  rw [if_neg (by decide), if_pos rfl, if_neg (by decide), if_pos rfl, if_neg (by decide), if_pos rfl]
  obtain ⟨x, e1⟩ := Option.isSome_iff_exists.1 (show (zu a).isSome = true by unfold valid uh at ha; simp at ha; exact ha.2)
  obtain ⟨y, e2⟩ := Option.isSome_iff_exists.1 (show (zu b).isSome = true by unfold valid uh at hb; simp at hb; exact hb.2)
  have f1 := wg e1
  have f2 := wg e2
  rw [e1, e2]
  exact ztx _ _ (by omega) (by omega) (by omega) (by omega) (by omega) (by omega)
 ·unfold keyV cmpV
  rw [if_neg (by decide), if_neg (by decide), if_neg (by decide), if_neg (by decide), if_neg (by decide), if_neg (by decide)]
  exact zlj _ _ (fun x hx => by have := zhd hx; omega) (fun x hx => by have := zhd hx; omega)
theorem zvh {n : Int} (hn : scheme n = true) {a b c : Bs} (ha : valid n a = true) (hb : valid n b = true) (hc : valid n c = true) :
  cmpV n a b = - cmpV n b a ∧ cmpV n a a = 0 ∧ ¬ (cmpV n a b ≤ 0 ∧ cmpV n b c ≤ 0 ∧ 0 < cmpV n a c) ∧ ¬ (0 ≤ cmpV n a b ∧ 0 ≤ cmpV n b c ∧ cmpV n a c < 0) ∧ (cmpV n a b = 0 → cmpV n b c = cmpV n a c) := by
 rw [← ze6 hn ha hb, ← ze6 hn hb ha, ← ze6 hn ha ha, ← ze6 hn hb hc, ← ze6 hn ha hc]
 refine ⟨kt _ _, uy _, fun h => ?_, fun h => ?_, fun h => ?_⟩
 ·have := za0 _ _ _ h.1 h.2.1; omega
 ·have h1 := kt (keyV n a) (keyV n b)
  have h2 := kt (keyV n b) (keyV n c)
  have h3 := kt (keyV n a) (keyV n c)
  have := za0 (keyV n c) (keyV n b) (keyV n a) (by omega) (by omega)
  omega
 ·rw [zlr h]
end Go.Proofs.YtcfbkcapbbhmpaaGreatDoor.V
namespace Go.Proofs.YtcfbkcapbbhmpaaGreatDoor.V
def rwt (s : Bs) (i : Nat) : Int := if s.length ≤ i then 1 else if s.getD i 0 = 126 then 0 else if lett (s.getD i 0) then 2 + (s.getD i 0).toNat else 300 + (s.getD i 0).toNat
def phi (n : Int) : Int := if n ≤ 2 then n - 1 else if n < 128 then n + 2 else n + 172
def Ascii (s : Bs) : Prop := ∀ c ∈ s, c.toNat < 128
theorem or_128 {c : UInt8} (h : c.toNat < 128) : (c ||| 128).toNat = c.toNat + 128 := by
 have h2 : ∀ n : Fin 128, ((UInt8.ofNat n.val) ||| 128).toNat = n.val + 128 := by decide +kernel
 have := h2 ⟨c.toNat, h⟩
 rwa [show UInt8.ofNat c.toNat = c from UInt8.ofNat_toNat] at this
theorem zmi {c : UInt8} (h : lett c = true) : 65 ≤ c.toNat ∧ c.toNat ≤ 122 := by
 unfold lett letB at h; simp at h; omega
theorem wt_ge (s : Bs) (i : Nat) (h : Ascii s) : 1 ≤ wt s i := by
 unfold wt
 split
 ·omega
 ·split
  ·omega
  ·split
   ·rename_i hl; have := zmi hl; omega
   ·rename_i hk _ _
    have hm : s.getD i 0 ∈ s := by
     rw [List.getD_eq_getElem?_getD, List.getElem?_eq_getElem (by omega)]; exact List.getElem_mem _
    have := or_128 (h _ hm); omega
theorem zu2 (s : Bs) (i : Nat) (h : Ascii s) : rwt s i = phi (wt s i) := by
 unfold rwt wt
 split
 ·rfl
 ·split
  ·rfl
  ·split
   ·rename_i hl
    have := zmi hl
    unfold phi
    rw [if_neg (by omega), if_pos (by omega)]; omega
   ·rename_i hk _ _
    have hm : s.getD i 0 ∈ s := by
     rw [List.getD_eq_getElem?_getD, List.getElem?_eq_getElem (by omega)]; exact List.getElem_mem _
    have h1 := or_128 (h _ hm)
    have h2 := h _ hm
    unfold phi
    rw [h1, if_neg (by omega), if_neg (by omega)]; omega
theorem sgn_phi {a b : Int} (ha : 1 ≤ a) (hb : 1 ≤ b) : sgn (phi a - phi b) = Lib.compareInt a b := by
 unfold sgn phi Lib.compareInt
 repeat' split
 all_goals omega
theorem sgn_rwt (x y : Bs) (i : Nat) (hx : Ascii x) (hy : Ascii y) : sgn (rwt x i - rwt y i) = Lib.compareInt (wt x i) (wt y i) := by
 rw [zu2 x i hx, zu2 y i hy]
 exact sgn_phi (wt_ge x i hx) (wt_ge y i hy)
theorem sgn_zero {n : Int} : sgn n = 0 ↔ n = 0 := by unfold sgn; repeat' split <;> omega
theorem zuz (s : Bs) (i : Nat) : 0 ≤ rwt s i ∧ rwt s i ≤ 555 := by
 unfold rwt
 have := (s.getD i 0).toNat_lt
 repeat' split
 all_goals omega
theorem Ascii.take {s : Bs} (h : Ascii s) (d : Bool) : Ascii (zv s d).1 := fun c hc => h c ((List.takeWhile_sublist _).subset hc)
theorem Ascii.rest {s : Bs} (h : Ascii s) (d : Bool) : Ascii (zv s d).2 := fun c hc => h c ((List.dropWhile_sublist _).subset hc)
def pad : List Bs → List Bs → Int
 | [], [] => 0
 | [], b :: q => cor (numbers [48] b) (pad [] q)
 | a :: p, [] => cor (numbers a [48]) (pad p [])
 | a :: p, b :: q => cor (numbers a b) (pad p q)
theorem zq5 (x y : List Bs) (h : 0 < x.length ∨ 0 < y.length) : pad x y = cor (numbers (x.getD 0 [48]) (y.getD 0 [48])) (pad (x.drop 1) (y.drop 1)) := by
 cases x <;> cases y
 ·simp at h
 all_goals
  rw [pad]
  rfl
theorem zj7 : ∀ (k : Nat) (x y : List Bs), (∀ j, j < k → numbers (x.getD j [48]) (y.getD j [48]) = 0) → pad x y = pad (x.drop k) (y.drop k)
 | 0, _, _, _ => rfl
 | k + 1, x, y, h => by
  have h0 := h 0 (by omega)
  have e : pad x y = pad (x.drop 1) (y.drop 1) := by
   by_cases hl : 0 < x.length ∨ 0 < y.length
   ·rw [zq5 x y hl, h0, wj]
   ·have hx : x = [] := List.eq_nil_of_length_eq_zero (by omega)
    have hy : y = [] := List.eq_nil_of_length_eq_zero (by omega)
    subst hx hy; rfl
  rw [e, zj7 k (x.drop 1) (y.drop 1) (fun j hj => by
    have := h (j + 1) (by omega)
    simpa [List.getD_eq_getElem?_getD, List.getElem?_drop, Nat.add_comm] using this)]
  simp
theorem pad_hit (k : Nat) (x y : List Bs) (h : ∀ j, j < k → numbers (x.getD j [48]) (y.getD j [48]) = 0) (hk : k < x.length ∨ k < y.length) (h0 : numbers (x.getD k [48]) (y.getD k [48]) ≠ 0) :
  pad x y = numbers (x.getD k [48]) (y.getD k [48]) := by
 rw [zj7 k x y h, zq5 _ _ (by simp only [List.length_drop]; omega)]
 have e1 : (x.drop k).getD 0 [48] = x.getD k [48] := by simp [List.getD_eq_getElem?_getD, List.getElem?_drop]
 have e2 : (y.drop k).getD 0 [48] = y.getD k [48] := by simp [List.getD_eq_getElem?_getD, List.getElem?_drop]
 rw [e1, e2, kk h0]
theorem pad_end (k : Nat) (x y : List Bs) (h : ∀ j, j < k → numbers (x.getD j [48]) (y.getD j [48]) = 0) (hk : ¬ (k < x.length ∨ k < y.length)) : pad x y = 0 := by
 rw [zj7 k x y h, List.drop_of_length_le (by omega), List.drop_of_length_le (by omega), pad]
theorem zao (a : Bs) (l : List Bs) : qd (a :: l) = if (qd l).isEmpty && (value a).isEmpty then [] else a :: qd l := by
 unfold qd
 rw [List.reverse_cons, List.dropWhile_append]
 rcases h : (List.dropWhile (fun x => (value x).isEmpty) l.reverse) with _ | ⟨b, r⟩
 ·rcases hv : (value a).isEmpty with _ | _ <;> simp [hv]
 ·simp
theorem zlv {a b : Bs} (h : value a = []) : numbers a b = if (value b).isEmpty then 0 else -1 := by
 unfold numbers
 rw [h]
 rcases hb : value b with _ | ⟨c, r⟩
 ·rfl
 ·rw [List.isEmpty_cons, if_neg (by decide)]
  unfold Lib.compareInt
  rw [if_pos (by simp; try omega)]; rfl
theorem zn8 {a b : Bs} (h : value b = []) : numbers a b = if (value a).isEmpty then 0 else 1 := by
 unfold numbers
 rw [h]
 rcases hb : value a with _ | ⟨c, r⟩
 ·rfl
 ·rw [List.isEmpty_cons, if_neg (by decide)]
  unfold Lib.compareInt
  rw [if_neg (by simp; try omega), if_pos (by simp; try omega)]; rfl
theorem zo6 (l : List Bs) : ji numbers [] l = if l.isEmpty then 0 else -1 := by cases l <;> rfl
theorem zlf (l : List Bs) : ji numbers l [] = if l.isEmpty then 0 else 1 := by cases l <;> rfl
theorem zex : ∀ x y : List Bs, pad x y = ji numbers (qd x) (qd y)
 | [], [] => by rw [pad]; rfl
 | [], b :: q => by
  have ih := zex [] q
  have e : qd [] = [] := rfl
  rw [e, zo6] at ih ⊢
  rw [pad, zlv (a := [48]) (by decide), ih, zao]
  rcases (value b).isEmpty with _ | _ <;> rcases (qd q).isEmpty with _ | _ <;> simp [cor]
 | a :: p, [] => by
  have ih := zex p []
  have e : qd [] = [] := rfl
  rw [e, zlf] at ih ⊢
  rw [pad, zn8 (b := [48]) (by decide), ih, zao]
  rcases (value a).isEmpty with _ | _ <;> rcases (qd p).isEmpty with _ | _ <;> simp [cor]
 | a :: p, b :: q => by
  have ih := zex p q
  rw [pad, zao, zao, ih]
  rcases hp : (qd p).isEmpty && (value a).isEmpty with _ | _ <;> rcases hq : (qd q).isEmpty && (value b).isEmpty with _ | _
  ·simp [ji]
  ·rw [Bool.and_eq_true, List.isEmpty_iff, List.isEmpty_iff] at hq
   rw [zn8 hq.2, hq.1, zlf, if_pos rfl, if_neg Bool.false_ne_true, zlf]
   rcases h1 : (value a).isEmpty with _ | _ <;> rcases h2 : (qd p).isEmpty with _ | _ <;> (rw [h1, h2] at hp; simp [cor] at hp ⊢)
  ·rw [Bool.and_eq_true, List.isEmpty_iff, List.isEmpty_iff] at hp
   rw [zlv hp.2, hp.1, zo6, if_pos rfl, if_neg Bool.false_ne_true, zo6]
   rcases h1 : (value b).isEmpty with _ | _ <;> rcases h2 : (qd q).isEmpty with _ | _ <;> (rw [h1, h2] at hq; simp [cor] at hq ⊢)
  ·rw [Bool.and_eq_true, List.isEmpty_iff, List.isEmpty_iff] at hp hq
   rw [zlv hp.2, hp.1, hq.1, hq.2, if_pos rfl, if_pos rfl]
   rfl
theorem pad_dots (a b : Bs) : pad (zd 46 a) (zd 46 b) = zbz a b := zex _ _
theorem zsv {o : Bs} (ho : Ascii o) {c : UInt8} (h : kind o c = true) : c.toNat < 128 := by
 unfold kind at h
 rw [Bool.or_eq_true, Bool.or_eq_true] at h
 rcases h with (h | h) | h
 ·have := zmi h; omega
 ·unfold dig digB at h; simp at h; omega
 ·exact ho c (by simpa using h)
theorem zf0 {o : Bs} (ho : Ascii o) {s : Bs} (h : only (kind o) s = true) : Ascii s := fun c hc => by
 unfold only at h
 rw [Bool.and_eq_true, List.all_eq_true] at h
 exact zsv ho (h.1 c hc)
theorem znr (l : Bs) (h : l.all (fun c => decide (c.toNat < 128)) = true) : Ascii l := fun c hc => by
 rw [List.all_eq_true] at h
 simpa using h c hc
theorem zfg {ep s : Bs} {x : Bs × Bs × Bs} (h : jq ep s = some x) : Ascii x.2.1 ∧ Ascii x.2.2 := by
 have a1 : Ascii [46, 43, 126, 45] := znr _ (by decide)
 have a2 : Ascii allow := znr _ (by decide)
 unfold jq at h
 split at h
 ·split at h
  ·rename_i hk
   simp only [Option.some.injEq] at h; subst h
   rw [Bool.and_eq_true] at hk
   exact ⟨zf0 a1 hk.1, fun c hc => by simp at hc⟩
  ·cases h
 ·split at h
  ·rename_i hr
   split at h
   ·rename_i hk
    simp only [Option.some.injEq] at h; subst h
    rw [Bool.and_eq_true] at hk
    exact ⟨zf0 a1 hk.1, zf0 a2 hr⟩
   ·cases h
  ·cases h
theorem zef {v : Bs} {x : Bs × Bs × Bs} (h : zu v = some x) : Ascii x.2.1 ∧ Ascii x.2.2 := by
 unfold zu at h
 split at h
 ·split at h
  ·exact zfg h
  ·cases h
 ·exact zfg h
theorem zm2 {a b c d : Bs} (h : value a = value c) (g : value b = value d) : numbers a b = numbers c d := by
 unfold numbers; rw [h, g]
end Go.Proofs.YtcfbkcapbbhmpaaGreatDoor.V
namespace Go.Proofs.YtcfbkcapbbhmpaaGreatDoor.V
abbrev Pos := Bs × Bool
def cp (p q : Pos) : Int := cor (cb p.1 q.1) (if p.2 = q.2 then 0 else if q.2 then -1 else 1)
def plt (p q : Pos) : Prop := cp p q < 0
instance (p q : Pos) : Decidable (plt p q) := by unfold plt; infer_instance
theorem zgv (p : Pos) : cp p p = 0 := by unfold cp; simp [uy, cor]
theorem ze4 (p q : Pos) : cp q p = - cp p q := by
 unfold cp cor
 rw [kt p.1 q.1]
 rcases p with ⟨a, s⟩
 rcases q with ⟨b, t⟩
 rcases s <;> rcases t <;> simp <;> repeat' split
 all_goals omega
theorem cp_eq {p q : Pos} (h : cp p q = 0) : p = q := by
 rcases p with ⟨a, s⟩
 rcases q with ⟨b, t⟩
 unfold cp cor at h
 simp only at h
 split at h
 ·rename_i e
  have := zlr e
  subst this
  rcases s <;> rcases t <;> simp at h <;> rfl
 ·omega
theorem cp_trans {p q r : Pos} (h1 : cp p q ≤ 0) (h2 : cp q r ≤ 0) : cp p r ≤ 0 := by
 rcases p with ⟨a, s⟩
 rcases q with ⟨b, t⟩
 rcases r with ⟨c, u⟩
 have t1 := za0 a b c
 have ra := zl7 a b
 have rb := zl7 b c
 have rc := zl7 a c
 have t2 := za0 c a b
 have t3 := za0 b c a
 have n1 := kt a b
 have n2 := kt b c
 have n3 := kt a c
 unfold cp cor at *
 simp only at *
 rcases s <;> rcases t <;> rcases u <;> simp only [if_true, if_false, Bool.false_eq_true, reduceCtorEq] at * <;> (repeat' split at *) <;> omega
theorem qc (p : Pos) : ¬ plt p p := by unfold plt; rw [zgv]; omega
theorem qe {p q r : Pos} (h1 : plt p q) (h2 : plt q r) : plt p r := by
 unfold plt at *
 have h3 := cp_trans (p := p) (q := q) (r := r) (by omega) (by omega)
 by_cases e : cp p r = 0
 ·have := cp_eq e
  subst this
  have := ze4 p q
  omega
 ·omega
theorem zpf (p q : Pos) : plt p q ∨ p = q ∨ plt q p := by
 unfold plt
 have := ze4 p q
 by_cases e : cp p q = 0
 ·exact .inr (.inl (cp_eq e))
 ·omega
theorem zac {p q : Pos} (h : plt p q) : ¬ plt q p := fun g => qc p (qe h g)
def mem (x : Bool) : List Pos → Pos → Bool
 | [], _ => x
 | p :: l, q => if plt q p then x else mem (!x) l q
def asc (l : List Pos) : Prop := l.Pairwise plt
theorem vd {x : Bool} {q : Pos} : ∀ {l : List Pos}, (∀ p ∈ l, plt q p) → mem x l q = x
 | [], _ => rfl
 | p :: l, h => by unfold mem; rw [if_pos (h p (by simp))]
theorem zpp : ∀ {l m : List Pos} {x : Bool}, asc l → asc m → (∀ q, mem x l q = mem x m q) → l = m
 | [], [], _, _, _, _ => rfl
 | [], p :: m, x, _, hm, h => by
  have := h p
  unfold mem at this
  rw [if_neg (qc p), vd (fun q hq => (List.pairwise_cons.1 hm).1 q hq)] at this
  cases x <;> cases this
 | p :: l, [], x, hl, _, h => by
  have := h p
  unfold mem at this
  rw [if_neg (qc p), vd (fun q hq => (List.pairwise_cons.1 hl).1 q hq)] at this
  cases x <;> cases this
 | p :: l, p' :: m, x, hl, hm, h => by
  obtain ⟨hl1, hl2⟩ := List.pairwise_cons.1 hl
  obtain ⟨hm1, hm2⟩ := List.pairwise_cons.1 hm
  rcases zpf p p' with g | rfl | g
  ·have := h p
   unfold mem at this
   rw [if_neg (qc p), if_pos g, vd hl1] at this
   cases x <;> cases this
  ·have : l = m := zpp (x := !x) hl2 hm2 (fun q => by
     by_cases g : plt q p
     · rw [vd (fun r hr => qe g (hl1 r hr)), vd (fun r hr => qe g (hm1 r hr))]
     · have := h q
       unfold mem at this
       rwa [if_neg g, if_neg g] at this)
   rw [this]
  ·have := h p'
   unfold mem at this
   rw [if_neg (qc p'), if_pos g, vd hm1] at this
   cases x <;> cases this
abbrev Cut := Bs × Bool
def pos (n : Int) (c : Cut) : Pos := (keyV n c.1, c.2)
def cutC (n : Int) (a b : Cut) : Int := if cmpV n a.1 b.1 ≠ 0 ∨ a.2 = b.2 then cmpV n a.1 b.1 else if b.2 then -1 else 1
theorem zby {n : Int} (hn : scheme n = true) {a b : Cut} (ha : valid n a.1 = true) (hb : valid n b.1 = true) : cutC n a b = cp (pos n a) (pos n b) := by
 unfold cutC cp pos cor
 simp only
 rw [ze6 hn ha hb]
 repeat' split
 all_goals (first | rfl | (exfalso; simp_all; done) | (simp_all; done) | omega)
def lesser (a b : Bs) : Bs := if Lib.compareBytes b a < 0 then b else a
def comb (n : Int) (f : Bool → Bool → Bool) (x y now : Bool) : List Cut → List Cut → List Cut
 | [], [] => []
 | c :: l, [] => if f (!x) y = now then comb n f (!x) y now l [] else c :: comb n f (!x) y (f (!x) y) l []
 | [], d :: m => if f x (!y) = now then comb n f x (!y) now [] m else d :: comb n f x (!y) (f x (!y)) [] m
 | c :: l, d :: m =>
  if cutC n c d < 0 then (if f (!x) y = now then comb n f (!x) y now l (d :: m) else c :: comb n f (!x) y (f (!x) y) l (d :: m))
  else if 0 < cutC n c d then (if f x (!y) = now then comb n f x (!y) now (c :: l) m else d :: comb n f x (!y) (f x (!y)) (c :: l) m)
  else (if f (!x) (!y) = now then comb n f (!x) (!y) now l m else (lesser c.1 d.1, c.2) :: comb n f (!x) (!y) (f (!x) (!y)) l m)
termination_by l m => l.length + m.length
end Go.Proofs.YtcfbkcapbbhmpaaGreatDoor.V
namespace Go.Proofs.YtcfbkcapbbhmpaaGreatDoor.V
def emit (c : Cut) (next now : Bool) (R : List Cut) : List Cut := if next = now then R else c :: R
def poss (n : Int) (l : List Cut) : List Pos := l.map (pos n)
theorem zcr {n : Int} {c : Cut} {next now : Bool} {R : List Cut} (h : ∀ p ∈ poss n R, plt (pos n c) p) (q : Pos) :
  mem now (poss n (emit c next now R)) q = if plt q (pos n c) then now else mem next (poss n R) q := by
 unfold emit
 by_cases e : next = now
 ·subst e
  rw [if_pos rfl]
  split
  ·rename_i g; exact vd fun p hp => qe g (h p hp)
  ·rfl
 ·rw [if_neg e]
  have : next = !now := by cases next <;> cases now <;> simp_all
  subst this
  rfl
theorem zcv {n : Int} {c : Cut} {next now : Bool} {R : List Cut} (h : ∀ p ∈ poss n R, plt (pos n c) p) (hR : asc (poss n R)) : asc (poss n (emit c next now R)) := by
 unfold emit
 split
 ·exact hR
 ·exact List.pairwise_cons.2 ⟨h, hR⟩
theorem xz {c x : Cut} {next now : Bool} {R : List Cut} (h : x ∈ emit c next now R) : x = c ∨ x ∈ R := by
 unfold emit at h
 split at h
 ·exact .inr h
 ·exact List.mem_cons.1 h
theorem ztr (n : Int) (f : Bool → Bool → Bool) (x y now : Bool) (c : Cut) (l : List Cut) : comb n f x y now (c :: l) [] = emit c (f (!x) y) now (comb n f (!x) y (f (!x) y) l []) := by
 rw [comb]; unfold emit; split
 ·rename_i h; rw [h]
 ·rfl
theorem ztm (n : Int) (f : Bool → Bool → Bool) (x y now : Bool) (d : Cut) (m : List Cut) : comb n f x y now [] (d :: m) = emit d (f x (!y)) now (comb n f x (!y) (f x (!y)) [] m) := by
 rw [comb]; unfold emit; split
 ·rename_i h; rw [h]
 ·rfl
theorem zp3 {n : Int} {f : Bool → Bool → Bool} {x y now : Bool} {c d : Cut} {l m : List Cut} (h : cutC n c d < 0) : comb n f x y now (c :: l) (d :: m) = emit c (f (!x) y) now (comb n f (!x) y (f (!x) y) l (d :: m)) := by
 rw [comb, if_pos h]; unfold emit; split
 ·rename_i h; rw [h]
 ·rfl
theorem zql {n : Int} {f : Bool → Bool → Bool} {x y now : Bool} {c d : Cut} {l m : List Cut} (h : 0 < cutC n c d) : comb n f x y now (c :: l) (d :: m) = emit d (f x (!y)) now (comb n f x (!y) (f x (!y)) (c :: l) m) := by
 rw [comb, if_neg (by omega), if_pos h]; unfold emit; split
 ·rename_i h; rw [h]
 ·rfl
theorem zqf {n : Int} {f : Bool → Bool → Bool} {x y now : Bool} {c d : Cut} {l m : List Cut} (h : cutC n c d = 0) : comb n f x y now (c :: l) (d :: m) = emit (lesser c.1 d.1, c.2) (f (!x) (!y)) now (comb n f (!x) (!y) (f (!x) (!y)) l m) := by
 rw [comb, if_neg (by omega), if_neg (by omega)]; unfold emit; split
 ·rename_i h; rw [h]
 ·rfl
def wu (n : Int) (l : List Cut) : Prop := ∀ c ∈ l, valid n c.1 = true
theorem zh1 (a b : Bs) : lesser a b = a ∨ lesser a b = b := by unfold lesser; split <;> simp
structure CombOk (n : Int) (f : Bool → Bool → Bool) (x y : Bool) (l m R : List Cut) : Prop where
 asc : asc (poss n R)
 sub : ∀ p ∈ poss n R, p ∈ poss n l ∨ p ∈ poss n m
 ok : wu n R
 val : ∀ q, mem (f x y) (poss n R) q = f (mem x (poss n l) q) (mem y (poss n m) q)
 len : R.length ≤ l.length + m.length
theorem mem_cons (x : Bool) (p : Pos) (l : List Pos) (q : Pos) : mem x (p :: l) q = if plt q p then x else mem (!x) l q := rfl
theorem zes {n : Int} (hn : scheme n = true) (f : Bool → Bool → Bool) : ∀ (k : Nat) (l m : List Cut) (x y : Bool), l.length + m.length ≤ k → wu n l → wu n m → asc (poss n l) → asc (poss n m) →
  CombOk n f x y l m (comb n f x y (f x y) l m)
 | _, [], [], x, y, _, _, _, _, _ => by
  rw [comb]
  exact ⟨List.Pairwise.nil, fun p hp => by simp [poss] at hp, fun c hc => by simp at hc, fun q => rfl, by simp⟩
 | 0, _ :: _, _, _, _, h, _, _, _, _ => by simp at h
 | 0, [], _ :: _, _, _, h, _, _, _, _ => by simp at h
 | k + 1, c :: l, [], x, y, h, hl, hm, al, am => by
  obtain ⟨a1, a2⟩ := List.pairwise_cons.1 (show asc (pos n c :: poss n l) from al)
  have ih := zes hn f k l [] (!x) y (by simp at h ⊢; omega) (fun d hd => hl d (by simp [hd])) hm a2 am
  rw [ztr]
  have hgt : ∀ p ∈ poss n (comb n f (!x) y (f (!x) y) l []), plt (pos n c) p := fun p hp => by
   rcases ih.sub p hp with g | g
   ·exact a1 p g
   ·simp [poss] at g
  refine ⟨zcv hgt ih.asc, fun p hp => ?_, fun d hd => ?_, fun q => ?_, ?_⟩
  ·obtain ⟨d, hd, rfl⟩ := List.mem_map.1 hp
   rcases xz hd with rfl | hd
   ·exact .inl (by simp [poss])
   ·rcases ih.sub _ (List.mem_map.2 ⟨d, hd, rfl⟩) with g | g
    ·exact .inl (List.mem_cons_of_mem _ g)
    ·simp [poss] at g
  ·rcases xz hd with rfl | hd
   ·exact hl _ (by simp)
   ·exact ih.ok d hd
  ·rw [zcr hgt, ih.val]
   show _ = f (mem x (pos n c :: poss n l) q) _
   rw [mem_cons]
   split
   ·rfl
   ·rfl
  ·have := ih.len
   unfold emit; split <;> simp at * <;> omega
 | k + 1, [], d :: m, x, y, h, hl, hm, al, am => by
  obtain ⟨a1, a2⟩ := List.pairwise_cons.1 (show asc (pos n d :: poss n m) from am)
  have ih := zes hn f k [] m x (!y) (by simp at h ⊢; omega) hl (fun d hd => hm d (by simp [hd])) al a2
  rw [ztm]
  have hgt : ∀ p ∈ poss n (comb n f x (!y) (f x (!y)) [] m), plt (pos n d) p := fun p hp => by
   rcases ih.sub p hp with g | g
   ·simp [poss] at g
   ·exact a1 p g
  refine ⟨zcv hgt ih.asc, fun p hp => ?_, fun e he => ?_, fun q => ?_, ?_⟩
  ·obtain ⟨e, he, rfl⟩ := List.mem_map.1 hp
   rcases xz he with rfl | he
   ·exact .inr (by simp [poss])
   ·rcases ih.sub _ (List.mem_map.2 ⟨e, he, rfl⟩) with g | g
    ·simp [poss] at g
    ·exact .inr (List.mem_cons_of_mem _ g)
  ·rcases xz he with rfl | he
   ·exact hm _ (by simp)
   ·exact ih.ok e he
  ·rw [zcr hgt, ih.val]
   show _ = f _ (mem y (pos n d :: poss n m) q)
   rw [mem_cons]
   split
   ·rfl
   ·rfl
  ·have := ih.len
   unfold emit; split <;> simp at * <;> omega
 | k + 1, c :: l, d :: m, x, y, h, hl, hm, al, am => by
  obtain ⟨a1, a2⟩ := List.pairwise_cons.1 (show asc (pos n c :: poss n l) from al)
  obtain ⟨b1, b2⟩ := List.pairwise_cons.1 (show asc (pos n d :: poss n m) from am)
  have hc := hl c (by simp)
  have hd := hm d (by simp)
  have hl' : wu n l := fun e he => hl e (by simp [he])
  have hm' : wu n m := fun e he => hm e (by simp [he])
  have hcp := zby hn hc hd
  rcases zpf (pos n c) (pos n d) with g | g | g
  ·have hlt : cutC n c d < 0 := by rw [hcp]; exact g
   have ih := zes hn f k l (d :: m) (!x) y (by simp at h ⊢; omega) hl' hm a2 am
   rw [zp3 hlt]
   have hgt : ∀ p ∈ poss n (comb n f (!x) y (f (!x) y) l (d :: m)), plt (pos n c) p := fun p hp => by
    rcases ih.sub p hp with e | e
    ·exact a1 p e
    ·rcases List.mem_cons.1 (show p ∈ pos n d :: poss n m from e) with rfl | e
     ·exact g
     ·exact qe g (b1 p e)
   refine ⟨zcv hgt ih.asc, fun p hp => ?_, fun e he => ?_, fun q => ?_, ?_⟩
   ·obtain ⟨e, he, rfl⟩ := List.mem_map.1 hp
    rcases xz he with rfl | he
    ·exact .inl (by simp [poss])
    ·rcases ih.sub _ (List.mem_map.2 ⟨e, he, rfl⟩) with g | g
     ·exact .inl (List.mem_cons_of_mem _ g)
     ·exact .inr g
   ·rcases xz he with rfl | he
    ·exact hc
    ·exact ih.ok e he
   ·rw [zcr hgt, ih.val]
    show _ = f (mem x (pos n c :: poss n l) q) (mem y (pos n d :: poss n m) q)
    rw [mem_cons x]
    split
    ·rename_i gq
     rw [vd (x := y) (l := pos n d :: poss n m) (fun p hp => ?_)]
     rcases List.mem_cons.1 hp with rfl | e
     ·exact qe gq g
     ·exact qe gq (qe g (b1 p e))
    ·rfl
   ·have := ih.len
    unfold emit; split <;> simp at * <;> omega
  ·have heq : cutC n c d = 0 := by rw [hcp, g]; exact zgv _
   have ih := zes hn f k l m (!x) (!y) (by simp at h ⊢; omega) hl' hm' a2 b2
   have hle : pos n (lesser c.1 d.1, c.2) = pos n c := by
    rcases zh1 c.1 d.1 with e | e
    ·rw [e]
    ·rw [e]
     have h1 : keyV n c.1 = keyV n d.1 := congrArg Prod.fst g
     show (keyV n d.1, c.2) = (keyV n c.1, c.2)
     rw [h1]
   rw [zqf heq]
   have hgt : ∀ p ∈ poss n (comb n f (!x) (!y) (f (!x) (!y)) l m), plt (pos n (lesser c.1 d.1, c.2)) p := fun p hp => by
    rw [hle]
    rcases ih.sub p hp with e | e
    ·exact a1 p e
    ·rw [g]; exact b1 p e
   refine ⟨zcv hgt ih.asc, fun p hp => ?_, fun e he => ?_, fun q => ?_, ?_⟩
   ·obtain ⟨e, he, rfl⟩ := List.mem_map.1 hp
    rcases xz he with rfl | he
    ·rw [hle]; exact .inl (by simp [poss])
    ·rcases ih.sub _ (List.mem_map.2 ⟨e, he, rfl⟩) with g | g
     ·exact .inl (List.mem_cons_of_mem _ g)
     ·exact .inr (List.mem_cons_of_mem _ g)
   ·rcases xz he with rfl | he
    ·show valid n (lesser c.1 d.1) = true
     rcases zh1 c.1 d.1 with e | e <;> rw [e] <;> assumption
    ·exact ih.ok e he
   ·rw [zcr hgt, ih.val, hle]
    show _ = f (mem x (pos n c :: poss n l) q) (mem y (pos n d :: poss n m) q)
    rw [mem_cons x, mem_cons y, ← g]
    split
    ·rfl
    ·rfl
   ·have := ih.len
    unfold emit; split <;> simp at * <;> omega
  ·have hlt : 0 < cutC n c d := by
    have g' : cp (pos n d) (pos n c) < 0 := g
    rw [hcp]; have := ze4 (pos n d) (pos n c); omega
   have ih := zes hn f k (c :: l) m x (!y) (by simp at h ⊢; omega) hl hm' al b2
   rw [zql hlt]
   have hgt : ∀ p ∈ poss n (comb n f x (!y) (f x (!y)) (c :: l) m), plt (pos n d) p := fun p hp => by
    rcases ih.sub p hp with e | e
    ·rcases List.mem_cons.1 (show p ∈ pos n c :: poss n l from e) with rfl | e
     ·exact g
     ·exact qe g (a1 p e)
    ·exact b1 p e
   refine ⟨zcv hgt ih.asc, fun p hp => ?_, fun e he => ?_, fun q => ?_, ?_⟩
   ·obtain ⟨e, he, rfl⟩ := List.mem_map.1 hp
    rcases xz he with rfl | he
    ·exact .inr (by simp [poss])
    ·rcases ih.sub _ (List.mem_map.2 ⟨e, he, rfl⟩) with g | g
     ·exact .inl g
     ·exact .inr (List.mem_cons_of_mem _ g)
   ·rcases xz he with rfl | he
    ·exact hd
    ·exact ih.ok e he
   ·rw [zcr hgt, ih.val]
    show _ = f (mem x (pos n c :: poss n l) q) (mem y (pos n d :: poss n m) q)
    rw [mem_cons y]
    split
    ·rename_i gq
     rw [vd (x := x) (l := pos n c :: poss n l) (fun p hp => ?_)]
     rcases List.mem_cons.1 hp with rfl | e
     ·exact qe gq g
     ·exact qe gq (qe g (a1 p e))
    ·rfl
   ·have := ih.len
    unfold emit; split <;> simp at * <;> omega
end Go.Proofs.YtcfbkcapbbhmpaaGreatDoor.V
