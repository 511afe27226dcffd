/-
  Lemmas for the law.
-/
import Derived.Test.YtbikeahmldobkaaGreatDoorC41x01
import Derived.Test.YtbikeahmldobkaaGreatDoorC41x03
import Derived.Lib.Join
import Derived.Lib.Split
import Derived.Lib.CountLaws
import Derived.Lib.ItoaNum
set_option linter.all false
namespace Go.Proofs.YtbikeahmldobkaaGreatDoor.V
structure Comp where
 par : Int
 sch : Int
 name : Bs
 ver : Bs
 dig : List Int
deriving DecidableEq
def yd (c : Comp) : Bool := jj c.name && valid c.sch c.ver
def uu (l : List Comp) (i : Nat) (c : Comp) : Bool := yd c && (decide (-1 ≤ c.par) && (decide (c.par < i) && !decide (c ∈ l.take i)))
def zy (l : List Comp) : Nat → Bool
 | 0 => true
 | k + 1 => zy l k && match l[k]? with | some c => uu l k c | none => true
def ze1 (art : List Int) (time : Int) (l : List Comp) : Bool := !decide (art = List.replicate 32 0) && (decide (0 ≤ time) && (decide (time ≤ 1099511627776) && decide (l.length ≤ 128)))
def qc (art : List Int) (time : Int) (l : List Comp) : Bool := ze1 art time l && zy l l.length
theorem yl {l : List Comp} {k : Nat} (h : k < l.length) : zy l (k + 1) = (zy l k && uu l k l[k]) := by
 show (zy l k && match l[k]? with | some c => uu l k c | none => true) = _
 rw [List.getElem?_eq_getElem h]
theorem uv {l : List Comp} : ∀ {m k : Nat}, k ≤ m → zy l k = false → zy l m = false
 | 0, k, h, e => by obtain rfl : k = 0 := by omega
                    exact e
 | m + 1, k, h, e => by
  by_cases g : k = m + 1
  ·subst g; exact e
  ·show (zy l m && _) = false
   rw [uv (by omega) e]; rfl
theorem zm0 {l : List Comp} {k m : Nat} (h : k ≤ m) (e : zy l m = true) : zy l k = true := by
 rcases hh : zy l k with _ | _
 ·rw [uv h hh] at e; cases e
 ·rfl
theorem zm7 {l : List Comp} {k : Nat} (e : zy l l.length = true) (h : k < l.length) : uu l k l[k] = true := by
 have := zm0 (show k + 1 ≤ l.length by omega) e
 rw [yl h] at this
 exact (Bool.and_eq_true_iff.1 this).2
theorem zms {l : List Comp} {k : Nat} {c : Comp} : uu l k c = true ↔ yd c = true ∧ -1 ≤ c.par ∧ c.par < k ∧ c ∉ l.take k := by
 unfold uu; simp [Bool.and_eq_true]
end Go.Proofs.YtbikeahmldobkaaGreatDoor.V
namespace Go.Proofs.YtbikeahmldobkaaGreatDoor.V
end Go.Proofs.YtbikeahmldobkaaGreatDoor.V
namespace Go.Proofs.YtbikeahmldobkaaGreatDoor.V
def rwt (s : Bs) (i : Nat) : Int := if s.length ≤ i then 1 else if s.getD i 0 = 126 then 0 else if lett (s.getD i 0) then 2 + (s.getD i 0).toNat else 300 + (s.getD i 0).toNat
def phi (n : Int) : Int := if n ≤ 2 then n - 1 else if n < 128 then n + 2 else n + 172
def Ascii (s : Bs) : Prop := ∀ c ∈ s, c.toNat < 128
theorem or_128 {c : UInt8} (h : c.toNat < 128) : (c ||| 128).toNat = c.toNat + 128 := by
 have h2 : ∀ n : Fin 128, ((UInt8.ofNat n.val) ||| 128).toNat = n.val + 128 := by decide +kernel
 have := h2 ⟨c.toNat, h⟩
 rwa [show UInt8.ofNat c.toNat = c from UInt8.ofNat_toNat] at this
theorem zgg {c : UInt8} (h : lett c = true) : 65 ≤ c.toNat ∧ c.toNat ≤ 122 := by
 unfold lett letB at h; simp at h; omega
theorem wt_ge (s : Bs) (i : Nat) (h : Ascii s) : 1 ≤ wt s i := by
 unfold wt
 split
 ·omega
 ·split
  ·omega
  ·split
   ·rename_i hl; have := zgg hl; omega
   ·rename_i hk _ _
    have hm : s.getD i 0 ∈ s := by
     rw [List.getD_eq_getElem?_getD, List.getElem?_eq_getElem (by omega)]; exact List.getElem_mem _
    have := or_128 (h _ hm); omega
theorem znu (s : Bs) (i : Nat) (h : Ascii s) : rwt s i = phi (wt s i) := by
 unfold rwt wt
 split
 ·rfl
 ·split
  ·rfl
  ·split
   ·rename_i hl
    have := zgg hl
    unfold phi
    rw [if_neg (by omega), if_pos (by omega)]; omega
   ·rename_i hk _ _
    have hm : s.getD i 0 ∈ s := by
     rw [List.getD_eq_getElem?_getD, List.getElem?_eq_getElem (by omega)]; exact List.getElem_mem _
    have h1 := or_128 (h _ hm)
    have h2 := h _ hm
    unfold phi
    rw [h1, if_neg (by omega), if_neg (by omega)]; omega
theorem sgn_phi {a b : Int} (ha : 1 ≤ a) (hb : 1 ≤ b) : sgn (phi a - phi b) = Lib.compareInt a b := by
 unfold sgn phi Lib.compareInt
 repeat' split
 all_goals omega
theorem sgn_rwt (x y : Bs) (i : Nat) (hx : Ascii x) (hy : Ascii y) : sgn (rwt x i - rwt y i) = Lib.compareInt (wt x i) (wt y i) := by
 rw [znu x i hx, znu y i hy]
 exact sgn_phi (wt_ge x i hx) (wt_ge y i hy)
theorem sgn_zero {n : Int} : sgn n = 0 ↔ n = 0 := by unfold sgn; repeat' split <;> omega
theorem znt (s : Bs) (i : Nat) : 0 ≤ rwt s i ∧ rwt s i ≤ 555 := by
 unfold rwt
 have := (s.getD i 0).toNat_lt
 repeat' split
 all_goals omega
theorem Ascii.take {s : Bs} (h : Ascii s) (d : Bool) : Ascii (zt s d).1 := fun c hc => h c ((List.takeWhile_sublist _).subset hc)
theorem Ascii.rest {s : Bs} (h : Ascii s) (d : Bool) : Ascii (zt s d).2 := fun c hc => h c ((List.dropWhile_sublist _).subset hc)
def pad : List Bs → List Bs → Int
 | [], [] => 0
 | [], b :: q => cor (numbers [48] b) (pad [] q)
 | a :: p, [] => cor (numbers a [48]) (pad p [])
 | a :: p, b :: q => cor (numbers a b) (pad p q)
theorem zj8 (x y : List Bs) (h : 0 < x.length ∨ 0 < y.length) : pad x y = cor (numbers (x.getD 0 [48]) (y.getD 0 [48])) (pad (x.drop 1) (y.drop 1)) := by
 cases x <;> cases y
 ·simp at h
 all_goals
  rw [pad]
  rfl
theorem zes : ∀ (k : Nat) (x y : List Bs), (∀ j, j < k → numbers (x.getD j [48]) (y.getD j [48]) = 0) → pad x y = pad (x.drop k) (y.drop k)
 | 0, _, _, _ => rfl
 | k + 1, x, y, h => by
  have h0 := h 0 (by omega)
  have e : pad x y = pad (x.drop 1) (y.drop 1) := by
   by_cases hl : 0 < x.length ∨ 0 < y.length
   ·rw [zj8 x y hl, h0, xf]
   ·have hx : x = [] := List.eq_nil_of_length_eq_zero (by omega)
    have hy : y = [] := List.eq_nil_of_length_eq_zero (by omega)
    subst hx hy; rfl
  rw [e, zes k (x.drop 1) (y.drop 1) (fun j hj => by
    have := h (j + 1) (by omega)
    simpa [List.getD_eq_getElem?_getD, List.getElem?_drop, Nat.add_comm] using this)]
  simp
theorem pad_hit (k : Nat) (x y : List Bs) (h : ∀ j, j < k → numbers (x.getD j [48]) (y.getD j [48]) = 0) (hk : k < x.length ∨ k < y.length) (h0 : numbers (x.getD k [48]) (y.getD k [48]) ≠ 0) :
  pad x y = numbers (x.getD k [48]) (y.getD k [48]) := by
 rw [zes k x y h, zj8 _ _ (by simp only [List.length_drop]; omega)]
 have e1 : (x.drop k).getD 0 [48] = x.getD k [48] := by simp [List.getD_eq_getElem?_getD, List.getElem?_drop]
 have e2 : (y.drop k).getD 0 [48] = y.getD k [48] := by simp [List.getD_eq_getElem?_getD, List.getElem?_drop]
 rw [e1, e2, jb h0]
theorem pad_end (k : Nat) (x y : List Bs) (h : ∀ j, j < k → numbers (x.getD j [48]) (y.getD j [48]) = 0) (hk : ¬ (k < x.length ∨ k < y.length)) : pad x y = 0 := by
 rw [zes k x y h, List.drop_of_length_le (by omega), List.drop_of_length_le (by omega), pad]
theorem xv (a : Bs) (l : List Bs) : zw (a :: l) = if (zw l).isEmpty && (value a).isEmpty then [] else a :: zw l := by
 unfold zw
 rw [List.reverse_cons, List.dropWhile_append]
 rcases h : (List.dropWhile (fun x => (value x).isEmpty) l.reverse) with _ | ⟨b, r⟩
 ·rcases hv : (value a).isEmpty with _ | _ <;> simp [hv]
 ·simp
theorem zfq {a b : Bs} (h : value a = []) : numbers a b = if (value b).isEmpty then 0 else -1 := by
 unfold numbers
 rw [h]
 rcases hb : value b with _ | ⟨c, r⟩
 ·rfl
 ·rw [List.isEmpty_cons, if_neg (by decide)]
  unfold Lib.compareInt
  rw [if_pos (by simp; try omega)]; rfl
theorem zhq {a b : Bs} (h : value b = []) : numbers a b = if (value a).isEmpty then 0 else 1 := by
 unfold numbers
 rw [h]
 rcases hb : value a with _ | ⟨c, r⟩
 ·rfl
 ·rw [List.isEmpty_cons, if_neg (by decide)]
  unfold Lib.compareInt
  rw [if_neg (by simp; try omega), if_pos (by simp; try omega)]; rfl
theorem zik (l : List Bs) : qm numbers [] l = if l.isEmpty then 0 else -1 := by cases l <;> rfl
theorem zff (l : List Bs) : qm numbers l [] = if l.isEmpty then 0 else 1 := by cases l <;> rfl
theorem za3 : ∀ x y : List Bs, pad x y = qm numbers (zw x) (zw y)
 | [], [] => by rw [pad]; rfl
 | [], b :: q => by
  have ih := za3 [] q
  have e : zw [] = [] := rfl
  rw [e, zik] at ih ⊢
  rw [pad, zfq (a := [48]) (by decide), ih, xv]
  rcases (value b).isEmpty with _ | _ <;> rcases (zw q).isEmpty with _ | _ <;> simp [cor]
 | a :: p, [] => by
  have ih := za3 p []
  have e : zw [] = [] := rfl
  rw [e, zff] at ih ⊢
  rw [pad, zhq (b := [48]) (by decide), ih, xv]
  rcases (value a).isEmpty with _ | _ <;> rcases (zw p).isEmpty with _ | _ <;> simp [cor]
 | a :: p, b :: q => by
  have ih := za3 p q
  rw [pad, xv, xv, ih]
  rcases hp : (zw p).isEmpty && (value a).isEmpty with _ | _ <;> rcases hq : (zw q).isEmpty && (value b).isEmpty with _ | _
  ·simp [qm]
  ·rw [Bool.and_eq_true, List.isEmpty_iff, List.isEmpty_iff] at hq
   rw [zhq hq.2, hq.1, zff, if_pos rfl, if_neg Bool.false_ne_true, zff]
   rcases h1 : (value a).isEmpty with _ | _ <;> rcases h2 : (zw p).isEmpty with _ | _ <;> (rw [h1, h2] at hp; simp [cor] at hp ⊢)
  ·rw [Bool.and_eq_true, List.isEmpty_iff, List.isEmpty_iff] at hp
   rw [zfq hp.2, hp.1, zik, if_pos rfl, if_neg Bool.false_ne_true, zik]
   rcases h1 : (value b).isEmpty with _ | _ <;> rcases h2 : (zw q).isEmpty with _ | _ <;> (rw [h1, h2] at hq; simp [cor] at hq ⊢)
  ·rw [Bool.and_eq_true, List.isEmpty_iff, List.isEmpty_iff] at hp hq
   rw [zfq hp.2, hp.1, hq.1, hq.2, if_pos rfl, if_pos rfl]
   rfl
theorem pad_dots (a b : Bs) : pad (zo 46 a) (zo 46 b) = uh a b := za3 _ _
theorem zl0 {o : Bs} (ho : Ascii o) {c : UInt8} (h : kind o c = true) : c.toNat < 128 := by
 unfold kind at h
 rw [Bool.or_eq_true, Bool.or_eq_true] at h
 rcases h with (h | h) | h
 ·have := zgg h; omega
 ·unfold dig digB at h; simp at h; omega
 ·exact ho c (by simpa using h)
theorem zbu {o : Bs} (ho : Ascii o) {s : Bs} (h : only (kind o) s = true) : Ascii s := fun c hc => by
 unfold only at h
 rw [Bool.and_eq_true, List.all_eq_true] at h
 exact zl0 ho (h.1 c hc)
theorem zhj (l : Bs) (h : l.all (fun c => decide (c.toNat < 128)) = true) : Ascii l := fun c hc => by
 rw [List.all_eq_true] at h
 simpa using h c hc
theorem zbj {ep s : Bs} {x : Bs × Bs × Bs} (h : qs ep s = some x) : Ascii x.2.1 ∧ Ascii x.2.2 := by
 have a1 : Ascii [46, 43, 126, 45] := zhj _ (by decide)
 have a2 : Ascii allow := zhj _ (by decide)
 unfold qs at h
 split at h
 ·split at h
  ·rename_i hk
   simp only [Option.some.injEq] at h; subst h
   rw [Bool.and_eq_true] at hk
   exact ⟨zbu a1 hk.1, fun c hc => by simp at hc⟩
  ·cases h
 ·split at h
  ·rename_i hr
   split at h
   ·rename_i hk
    simp only [Option.some.injEq] at h; subst h
    rw [Bool.and_eq_true] at hk
    exact ⟨zbu a1 hk.1, zbu a2 hr⟩
   ·cases h
  ·cases h
theorem zas {v : Bs} {x : Bs × Bs × Bs} (h : zq v = some x) : Ascii x.2.1 ∧ Ascii x.2.2 := by
 unfold zq at h
 split at h
 ·split at h
  ·exact zbj h
  ·cases h
 ·exact zbj h
theorem zgw {a b c d : Bs} (h : value a = value c) (g : value b = value d) : numbers a b = numbers c d := by
 unfold numbers; rw [h, g]
end Go.Proofs.YtbikeahmldobkaaGreatDoor.V
namespace Go.Proofs.YtbikeahmldobkaaGreatDoor.V
abbrev Cut := Bs × Bool
def cutC (n : Int) (a b : Cut) : Int := if cmpV n a.1 b.1 ≠ 0 ∨ a.2 = b.2 then cmpV n a.1 b.1 else if b.2 then -1 else 1
end Go.Proofs.YtbikeahmldobkaaGreatDoor.V
namespace Go.Proofs.YtbikeahmldobkaaGreatDoor.V
end Go.Proofs.YtbikeahmldobkaaGreatDoor.V
namespace Go.Proofs.YtbikeahmldobkaaGreatDoor.V
structure Itv where
 lo : Bs
 lk : Int
 hi : Bs
 hk : Int
def Itv.low (x : Itv) : Cut := (x.lo, decide (x.lk = 2))
def Itv.high (x : Itv) : Cut := (x.hi, decide (x.hk = 1))
def jf (n : Int) (v : Bs) (k : Int) : Bool := if k = 0 then v.isEmpty else (decide (k = 1) || decide (k = 2)) && valid n v
def vu (n : Int) (x : Itv) : Bool := decide (x.lk = 0) || (decide (x.hk = 0) || decide (cutC n x.low x.high < 0))
def zdh (n : Int) (y x : Itv) : Bool := !decide (y.hk = 0) && (!decide (x.lk = 0) && decide (cutC n y.high x.low < 0))
def zu (n : Int) (x : Itv) : Bool := jf n x.lo x.lk && jf n x.hi x.hk
def noI : Itv := ⟨[], 0, [], 0⟩
def okAt (n : Int) (l : List Itv) (k : Nat) : Bool := vu n (l.getD k noI) && (decide (k = 0) || zdh n (l.getD (k - 1) noI) (l.getD k noI))
def ordB (n : Int) (l : List Itv) : Bool := (List.range l.length).all (okAt n l)
def okR (n : Int) (l : List Itv) : Bool := scheme n && (decide (l.length ≤ 32) && (l.all (zu n) && ordB n l))
def Ord (n : Int) : List Itv → Prop
 | [] => True
 | x :: l => vu n x = true ∧ (∀ z ∈ l.head?, zdh n x z = true) ∧ Ord n l
theorem zb4 (n : Int) (l : List Itv) : ordB n l = true ↔ ∀ k, k < l.length → okAt n l k = true := by
 unfold ordB
 rw [List.all_eq_true]
 exact ⟨fun h k hk => h k (List.mem_range.2 hk), fun h k hk => h k (List.mem_range.1 hk)⟩
theorem ord_of : ∀ {n : Int} {l : List Itv}, (∀ k, k < l.length → okAt n l k = true) → Ord n l
 | _, [], _ => trivial
 | n, [x], h => by
  have h0 := h 0 (by simp)
  unfold okAt at h0
  simp at h0
  exact ⟨h0, ⟨(fun z hz => by cases hz), trivial⟩⟩
 | n, x :: y :: l, h => by
  have h0 := h 0 (by simp)
  have h1 := h 1 (by simp)
  unfold okAt at h0 h1
  simp at h0 h1
  refine ⟨h0, fun z hz => ?_, ord_of (fun k hk => ?_)⟩
  ·simp at hz; subst hz; exact h1.2
  ·have h2 := h (k + 1) (by simp at hk ⊢; omega)
   unfold okAt at h2 ⊢
   rcases k with _ | k
   ·simp at h2 ⊢; exact h2.1
   ·simp at h2 ⊢; exact h2
theorem xn {n : Int} {v : Bs} {k : Int} (h : jf n v k = true) (hk : k ≠ 0) : (k = 1 ∨ k = 2) ∧ valid n v = true := by
 unfold jf at h
 rw [if_neg hk, Bool.and_eq_true, Bool.or_eq_true] at h
 exact ⟨by simpa using h.1, h.2⟩
structure Ok (n : Int) (l : List Itv) : Prop where
 sch : scheme n = true
 len : l.length ≤ 32
 bnd : ∀ x ∈ l, zu n x = true
 ord : Ord n l
theorem ok_of {n : Int} {l : List Itv} (h : okR n l = true) : Ok n l := by
 unfold okR at h
 rw [Bool.and_eq_true, Bool.and_eq_true, Bool.and_eq_true, List.all_eq_true] at h
 exact ⟨h.1, by simpa using h.2.1, h.2.2.1, ord_of ((zb4 _ _).1 h.2.2.2)⟩
theorem yu {n : Int} {x : Itv} (h : zu n x = true) (hk : x.lk ≠ 0) : valid n x.low.1 = true := by
 unfold zu at h
 rw [Bool.and_eq_true] at h
 exact (xn h.1 hk).2
theorem jd {n : Int} {x : Itv} (h : zu n x = true) (hk : x.hk ≠ 0) : valid n x.high.1 = true := by
 unfold zu at h
 rw [Bool.and_eq_true] at h
 exact (xn h.2 hk).2
end Go.Proofs.YtbikeahmldobkaaGreatDoor.V
namespace Go.Proofs.YtbikeahmldobkaaGreatDoor.V
structure Ec where
 e : Int
 v : Bs
 s : Int
def ebot : Ec := ⟨-1, [], 0⟩
def etop : Ec := ⟨1, [], 0⟩
def eat (c : Cut) : Ec := ⟨0, c.1, if c.2 then 1 else 0⟩
def ecmp (n : Int) (a b : Ec) : Int := if a.e ≠ b.e ∨ a.e ≠ 0 then a.e - b.e else if cmpV n a.v b.v ≠ 0 then cmpV n a.v b.v else a.s - b.s
def eLow (x : Itv) : Ec := if x.lk = 1 then ⟨0, x.lo, 0⟩ else if x.lk = 2 then ⟨0, x.lo, 1⟩ else ebot
def yh (x : Itv) : Ec := if x.hk = 1 then ⟨0, x.hi, 1⟩ else if x.hk = 2 then ⟨0, x.hi, 0⟩ else etop
theorem znc (n : Int) (c d : Cut) : ecmp n (eat c) (eat d) = cutC n c d := by
 obtain ⟨a, s⟩ := c
 obtain ⟨b, t⟩ := d
 unfold ecmp eat cutC
 simp only [ne_eq, not_true, or_self, if_false]
 by_cases h : cmpV n a b = 0
 ·rw [if_neg (by simp [h])]
  cases s <;> cases t <;> simp [h]
 ·rw [if_pos h, if_pos (.inl h)]
theorem zek {x : Itv} (h : x.lk = 0) : eLow x = ebot := by unfold eLow; rw [if_neg (by omega), if_neg (by omega)]
theorem zck {x : Itv} (h : x.hk = 0) : yh x = etop := by unfold yh; rw [if_neg (by omega), if_neg (by omega)]
theorem zcz {n : Int} {x : Itv} (h : zu n x = true) (hk : x.lk ≠ 0) : eLow x = eat x.low := by
 unfold zu at h
 rw [Bool.and_eq_true] at h
 unfold eLow eat Itv.low
 rcases (xn h.1 hk).1 with e | e <;> simp [e]
theorem zae {n : Int} {x : Itv} (h : zu n x = true) (hk : x.hk ≠ 0) : yh x = eat x.high := by
 unfold zu at h
 rw [Bool.and_eq_true] at h
 unfold yh eat Itv.high
 rcases (xn h.2 hk).1 with e | e <;> simp [e]
end Go.Proofs.YtbikeahmldobkaaGreatDoor.V
namespace Go.Proofs.YtbikeahmldobkaaGreatDoor.V
def hasL (n : Int) (l : List Itv) (v : Bs) : Bool := l.any fun x => (decide (x.lk = 0) || decide (cutC n x.low (v, false) ≤ 0)) && (decide (x.hk = 0) || decide (0 ≤ cutC n x.high (v, true)))
def zr (n : Int) (l : List Itv) (v : Bs) : Bool := okR n l && (valid n v && hasL n l v)
def js (n : Int) (v : Bs) (x : Itv) : Bool := decide (x.lk = 0) || (decide (0 < cmpV n v x.lo) || (decide (cmpV n v x.lo = 0) && decide (x.lk = 1)))
def qd (n : Int) (v : Bs) (x : Itv) : Bool := decide (x.hk = 0) || (decide (cmpV n v x.hi < 0) || (decide (cmpV n v x.hi = 0) && decide (x.hk = 1)))
def hasR (n : Int) (l : List Itv) (v : Bs) : Bool := l.any fun x => js n v x && qd n v x
theorem any_same {α : Type} {p q : α → Bool} {l : List α} (h : ∀ x ∈ l, p x = q x) : l.any p = l.any q := by
 rw [Bool.eq_iff_iff, List.any_eq_true, List.any_eq_true]
 constructor
 ·rintro ⟨x, hx, g⟩; exact ⟨x, hx, by rw [← h x hx]; exact g⟩
 ·rintro ⟨x, hx, g⟩; exact ⟨x, hx, by rw [h x hx]; exact g⟩
theorem zoe {n : Int} (hn : scheme n = true) {l : List Itv} (hb : ∀ x ∈ l, zu n x = true) {v : Bs} (hv : valid n v = true) : hasR n l v = hasL n l v := by
 refine any_same (fun x hx => ?_)
 have hbx := hb x hx
 have e1 : js n v x = (decide (x.lk = 0) || decide (cutC n x.low (v, false) ≤ 0)) := by
  unfold js
  by_cases hk : x.lk = 0
  ·rw [decide_eq_true hk]; rfl
  ·have hlv : valid n x.lo = true := yu hbx hk
   rw [decide_eq_false hk, Bool.false_or, Bool.false_or]
   have hc : cmpV n v x.lo = - cmpV n x.lo v := (zg8 hn hv hlv hv).1
   have hr := zjk (keyV n x.lo) (keyV n v)
   rw [vx hn hlv hv] at hr
   unfold zu at hbx
   rw [Bool.and_eq_true] at hbx
   unfold cutC Itv.low
   simp only
   rcases (xn hbx.1 hk).1 with e | e <;> rw [hc, e] <;> rcases hr with h | h | h <;> simp  at h ⊢ <;> simp [h]
 have e2 : qd n v x = (decide (x.hk = 0) || decide (0 ≤ cutC n x.high (v, true))) := by
  unfold qd
  by_cases hk : x.hk = 0
  ·rw [decide_eq_true hk]; rfl
  ·have hlv : valid n x.hi = true := jd hbx hk
   rw [decide_eq_false hk, Bool.false_or, Bool.false_or]
   have hc : cmpV n v x.hi = - cmpV n x.hi v := (zg8 hn hv hlv hv).1
   have hr := zjk (keyV n x.hi) (keyV n v)
   rw [vx hn hlv hv] at hr
   unfold zu at hbx
   rw [Bool.and_eq_true] at hbx
   unfold cutC Itv.high
   simp only
   rcases (xn hbx.2 hk).1 with e | e <;> rw [hc, e] <;> rcases hr with h | h | h <;> simp  at h ⊢ <;> simp [h]
 rw [e1, e2]
end Go.Proofs.YtbikeahmldobkaaGreatDoor.V
namespace Go.Proofs.YtbikeahmldobkaaGreatDoor.V
end Go.Proofs.YtbikeahmldobkaaGreatDoor.V
namespace Go.Proofs.YtbikeahmldobkaaGreatDoor.V
end Go.Proofs.YtbikeahmldobkaaGreatDoor.V
namespace Go.Proofs.YtbikeahmldobkaaGreatDoor.V
end Go.Proofs.YtbikeahmldobkaaGreatDoor.V
namespace Go.Proofs.YtbikeahmldobkaaGreatDoor
namespace V
def nmA (c : UInt8) : Bool := (decide (97 ≤ c.toNat) && decide (c.toNat ≤ 122)) || (decide (48 ≤ c.toNat) && decide (c.toNat ≤ 57))
def nmP (c : UInt8) : Bool := decide (c.toNat = 46) || (decide (c.toNat = 95) || decide (c.toNat = 45))
def nmAt (j : Nat) (c : UInt8) : Bool := nmA c || (decide (0 < j) && nmP c)
def NameP (s : Bs) : Prop := 1 ≤ s.length ∧ s.length ≤ 64 ∧ ∀ j (h : j < s.length), nmAt j s[j] = true
instance (s : Bs) : Decidable (NameP s) := by unfold NameP; infer_instance
def kh (s : Bs) : Bool := decide (NameP s)
theorem zji {s : Bs} {k : Nat} (hk : k < s.length) (h : nmAt k s[k] = false) : kh s = false := decide_eq_false fun hp => by rw [hp.2.2 k hk] at h; cases h
end V
open Go.RowKit
namespace V
end V
open Go.RowKit
namespace V
end V
open Go.RowKit
namespace V
end V
open Go.RowKit
namespace V
structure Aff where
 sch : Int
 name : Bs
 rs : Int
 its : List Itv
structure Adv where
 id : Bs
 rev : Int
 sev : Int
 aff : List Aff
def zA : Aff := ⟨0, [], 0, []⟩
def affC (a b : Aff) : Int := orI [Lib.compareInt a.sch b.sch, Lib.compareBytes a.name b.name]
def zbi (n : Int) (r : Int) (l : List Itv) : Bool := decide (r = n) && (decide (1 ≤ l.length) && okR r l)
def xo (a : Aff) : Bool := jj a.name && zbi a.sch a.rs a.its
def zai (l : List Aff) (i : Nat) (a : Aff) : Bool := (decide (i = 0) || decide (affC (l.getD (i - 1) zA) a < 0)) && xo a
def kp (l : List Aff) : Nat → Bool
 | 0 => true
 | k + 1 => kp l k && match l[k]? with | some a => zai l k a | none => true
def zem (id : Bs) (rev sev : Int) (n : Nat) : Bool := kh id && (decide (1 ≤ rev) && (decide (rev ≤ 1099511627776) && (decide (1 ≤ sev) && (decide (sev ≤ 10) && decide (n ≤ 16)))))
def qf (x : Adv) : Bool := zem x.id x.rev x.sev x.aff.length && kp x.aff x.aff.length
theorem wh {l : List Aff} {k : Nat} (h : k < l.length) : kp l (k + 1) = (kp l k && zai l k l[k]) := by
 show (kp l k && match l[k]? with | some a => zai l k a | none => true) = _
 rw [List.getElem?_eq_getElem h]
theorem zdd {l : List Aff} : ∀ {m k : Nat}, k ≤ m → kp l k = false → kp l m = false
 | 0, k, h, e => by obtain rfl : k = 0 := by omega
                    exact e
 | m + 1, k, h, e => by
  by_cases hk : k = m + 1
  ·subst hk; exact e
  ·have := zdd (m := m) (by omega) e
   show (kp l m && _) = false
   rw [this]; rfl
theorem zky {l : List Aff} {k : Nat} (h : k < l.length) (ha : zai l k l[k] = false) : kp l l.length = false :=
 zdd (k := k + 1) (by omega) (by rw [wh h, ha, Bool.and_false])
theorem zfc {l : List Aff} : ∀ {m : Nat}, kp l m = true → ∀ k (hk : k < l.length), k < m → zai l k l[k] = true
 | 0, _, k, _, h => absurd h (Nat.not_lt_zero _)
 | m + 1, h, k, hk, hm => by
  by_cases hml : m < l.length
  ·rw [wh hml, Bool.and_eq_true] at h
   by_cases e : k = m
   ·subst e; exact h.2
   ·exact zfc h.1 k hk (by omega)
  ·have h2 : (kp l m && match l[m]? with | some a => zai l m a | none => true) = true := h
   rw [Bool.and_eq_true] at h2
   exact zfc h2.1 k hk (by omega)
structure AdvP (x : Adv) : Prop where
 id : kh x.id = true
 rev0 : 1 ≤ x.rev
 rev1 : x.rev ≤ 1099511627776
 sev0 : 1 ≤ x.sev
 sev1 : x.sev ≤ 10
 len : x.aff.length ≤ 16
 all : kp x.aff x.aff.length = true
theorem qv {x : Adv} (h : qf x = true) : AdvP x := by
 unfold qf zem at h
 simp only [Bool.and_eq_true, decide_eq_true_eq] at h
 exact ⟨h.1.1, h.1.2.1, h.1.2.2.1, h.1.2.2.2.1, h.1.2.2.2.2.1, h.1.2.2.2.2.2, h.2⟩
end V
end Go.Proofs.YtbikeahmldobkaaGreatDoor
namespace Go.Proofs.YtbikeahmldobkaaGreatDoor.V
def EcOk (n : Int) (x : Ec) : Prop := x = ebot ∨ x = etop ∨ ∃ c : Cut, valid n c.1 = true ∧ x = eat c
theorem zeg {n : Int} {x : Itv} (h : zu n x = true) : EcOk n (eLow x) := by
 by_cases hk : x.lk = 0
 ·exact .inl (zek hk)
 ·exact .inr (.inr ⟨x.low, yu h hk, zcz h hk⟩)
theorem zb3 {n : Int} {x : Itv} (h : zu n x = true) : EcOk n (yh x) := by
 by_cases hk : x.hk = 0
 ·exact .inr (.inl (zck hk))
 ·exact .inr (.inr ⟨x.high, jd h hk, zae h hk⟩)
theorem zld {n : Int} {x : Itv} (h : zu n x = true) : decide (ecmp n (eLow x) (yh x) < 0) = vu n x := by
 unfold vu
 by_cases h1 : x.lk = 0
 ·rw [zek h1, decide_eq_true h1, Bool.true_or]
  refine decide_eq_true ?_
  by_cases h2 : x.hk = 0
  ·rw [zck h2]; unfold ecmp ebot etop; simp
  ·rw [zae h h2]; unfold ecmp ebot eat; simp
 ·rw [decide_eq_false h1, Bool.false_or]
  by_cases h2 : x.hk = 0
  ·rw [decide_eq_true h2, Bool.true_or, zcz h h1, zck h2]
   exact decide_eq_true (by unfold ecmp eat etop; simp)
  ·rw [decide_eq_false h2, Bool.false_or, zcz h h1, zae h h2, znc]
theorem zn8 {n : Int} {y x : Itv} (hy : zu n y = true) (hx : zu n x = true) : decide (ecmp n (yh y) (eLow x) < 0) = zdh n y x := by
 unfold zdh
 by_cases h1 : y.hk = 0
 ·rw [zck h1, decide_eq_true h1]
  refine decide_eq_false ?_
  by_cases h2 : x.lk = 0
  ·rw [zek h2]; unfold ecmp etop ebot; simp
  ·rw [zcz hx h2]; unfold ecmp etop eat; simp
 ·rw [decide_eq_false h1]
  by_cases h2 : x.lk = 0
  ·rw [decide_eq_true h2, zae hy h1, zek h2]
   exact decide_eq_false (by unfold ecmp eat ebot; simp)
  ·rw [decide_eq_false h2, zae hy h1, zcz hx h2, znc]
   rfl
end Go.Proofs.YtbikeahmldobkaaGreatDoor.V
namespace Go.Proofs.YtbikeahmldobkaaGreatDoor.V
end Go.Proofs.YtbikeahmldobkaaGreatDoor.V
