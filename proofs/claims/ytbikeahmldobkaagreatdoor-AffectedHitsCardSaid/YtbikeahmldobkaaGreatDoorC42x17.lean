/-
  Lemmas for the law.
-/
import Derived.Test.YtbikeahmldobkaaGreatDoorC42x16
import Derived.Test.YtbikeahmldobkaaGreatDoorC42x03
import Derived.Test.YtbikeahmldobkaaGreatDoorC42x01
import Derived.Lib.Join
import Derived.Lib.Split
import Derived.Lib.CountLaws
import Derived.Lib.ItoaNum
set_option linter.all false
namespace Go.Proofs.YtbikeahmldobkaaGreatDoor.V
def hasL (n : Int) (l : List Itv) (v : Bs) : Bool := l.any fun x => (decide (x.lk = 0) || decide (cutC n x.low (v, false) ≤ 0)) && (decide (x.hk = 0) || decide (0 ≤ cutC n x.high (v, true)))
def zz (n : Int) (l : List Itv) (v : Bs) : Bool := okR n l && (valid n v && hasL n l v)
def xi (n : Int) (v : Bs) (x : Itv) : Bool := decide (x.lk = 0) || (decide (0 < cmpV n v x.lo) || (decide (cmpV n v x.lo = 0) && decide (x.lk = 1)))
def qv (n : Int) (v : Bs) (x : Itv) : Bool := decide (x.hk = 0) || (decide (cmpV n v x.hi < 0) || (decide (cmpV n v x.hi = 0) && decide (x.hk = 1)))
def hasR (n : Int) (l : List Itv) (v : Bs) : Bool := l.any fun x => xi n v x && qv n v x
theorem any_same {α : Type} {p q : α → Bool} {l : List α} (h : ∀ x ∈ l, p x = q x) : l.any p = l.any q := by
 rw [Bool.eq_iff_iff, List.any_eq_true, List.any_eq_true]
 constructor
 ·rintro ⟨x, hx, g⟩; exact ⟨x, hx, by rw [← h x hx]; exact g⟩
 ·rintro ⟨x, hx, g⟩; exact ⟨x, hx, by rw [h x hx]; exact g⟩
theorem zu1 {n : Int} (hn : scheme n = true) {l : List Itv} (hb : ∀ x ∈ l, zr n x = true) {v : Bs} (hv : valid n v = true) : hasR n l v = hasL n l v := by
 refine any_same (fun x hx => ?_)
 have g0 := hb x hx
 have e1 : xi n v x = (decide (x.lk = 0) || decide (cutC n x.low (v, false) ≤ 0)) := by
  unfold xi
  by_cases hk : x.lk = 0
  ·rw [decide_eq_true hk]; rfl
  ·have g1 : valid n x.lo = true := kq g0 hk
   rw [decide_eq_false hk, Bool.false_or, Bool.false_or]
   have hc : cmpV n v x.lo = - cmpV n x.lo v := (zgc hn hv g1 hv).1
   have hr := ze4 (keyV n x.lo) (keyV n v)
   rw [zbj hn g1 hv] at hr
   unfold zr at g0
   rw [Bool.and_eq_true] at g0
   unfold cutC Itv.low
   simp only
   rcases (xz g0.1 hk).1 with e | e <;> rw [hc, e] <;> rcases hr with h | h | h <;> simp  at h ⊢ <;> simp [h]
 have e2 : qv n v x = (decide (x.hk = 0) || decide (0 ≤ cutC n x.high (v, true))) := by
  unfold qv
  by_cases hk : x.hk = 0
  ·rw [decide_eq_true hk]; rfl
  ·have g1 : valid n x.hi = true := qs g0 hk
   rw [decide_eq_false hk, Bool.false_or, Bool.false_or]
   have hc : cmpV n v x.hi = - cmpV n x.hi v := (zgc hn hv g1 hv).1
   have hr := ze4 (keyV n x.hi) (keyV n v)
   rw [zbj hn g1 hv] at hr
   unfold zr at g0
   rw [Bool.and_eq_true] at g0
   unfold cutC Itv.high
   simp only
   rcases (xz g0.2 hk).1 with e | e <;> rw [hc, e] <;> rcases hr with h | h | h <;> simp  at h ⊢ <;> simp [h]
 rw [e1, e2]
def orF (x y : Bool) : Bool := x || y
def andF (x y : Bool) : Bool := x && y
theorem cuts_op {n : Int} (f : Bool → Bool → Bool) {a b : List Itv} (ha : Ok n a) (hb : Ok n b) : (zt (opL n f a b)).length ≤ (zt a).length + (zt b).length := by
 unfold opL
 rw [zs4]
 exact (zbc f ha hb).len
theorem len_op {n : Int} (f : Bool → Bool → Bool) {a b : List Itv} (ha : Ok n a) (hb : Ok n b) : (opL n f a b).length ≤ (zt a).length + (zt b).length + 1 := by
 have h1 := (zbc f ha hb).len
 have h4 := zh2 (start (f (qd a) (qd b))) (comb n f (qd a) (qd b) (f (qd a) (qd b)) (zt a) (zt b))
 unfold opL
 omega
theorem zs2 {n : Int} (h : scheme n = true) : Ok n [] := ⟨h, by simp, (fun x hx => by cases hx), trivial⟩
theorem ok_all {n : Int} (h : scheme n = true) : Ok n [noI] := ⟨h, by simp, (fun x hx => by rw [List.mem_singleton.1 hx]; rfl), rfl, (fun z hz => by cases hz), trivial⟩
structure Few (n : Int) (a : List Itv) (k : Nat) : Prop where
 ok : Ok n a
 few : (zt a).length ≤ k
theorem Few.op {n : Int} {a b : List Itv} {j k : Nat} (ha : Few n a j) (hb : Few n b k) (f : Bool → Bool → Bool) (h : j + k ≤ 31) : Few n (opL n f a b) (j + k) := by
 have h1 := ha.few
 have h2 := hb.few
 have h3 := cuts_op f ha.ok hb.ok
 have h4 := len_op f ha.ok hb.ok
 exact ⟨zm0 f ha.ok hb.ok (by omega), by omega⟩
theorem Few.len {n : Int} {a : List Itv} {j : Nat} (ha : Few n a j) : a.length ≤ 32 := ha.ok.len
end Go.Proofs.YtbikeahmldobkaaGreatDoor.V
namespace Go.Proofs.YtbikeahmldobkaaGreatDoor.V
def noneT : Bs := [110, 111, 110, 101]
def orT : Bs := [32, 124, 124, 32]
def opOf (s : Bs) : Option (Nat × Bs) :=
 if s.take 2 = [62, 61] then some (0, s.drop 2) else if s.take 2 = [60, 61] then some (1, s.drop 2) else if s.take 1 = [61] then some (2, s.drop 1) else if s.take 1 = [60] then some (3, s.drop 1) else if s.take 1 = [62] then some (4, s.drop 1) else none
def za9 (k : Nat) (v : Bs) : Itv :=
 if k = 0 then ⟨v, 1, [], 0⟩ else if k = 1 then ⟨[], 0, v, 1⟩ else if k = 2 then ⟨v, 1, v, 1⟩ else if k = 3 then ⟨[], 0, v, 2⟩ else ⟨v, 2, [], 0⟩
def ko (n : Int) (s : Bs) : Option Itv := match opOf s with | none => none | some (k, v) => if valid n v then some (za9 k v) else none
def za2 (n : Int) (out : List Itv) : List Bs → Option (List Itv)
 | [] => some out
 | c :: r => match ko n c with | none => none | some x => za2 n (opL n andF out [x]) r
def altP (n : Int) (s : Bs) : Option (List Itv) := if s = noneT then some [] else if s = [42] then some [noI] else za2 n [noI] (zm 32 s)
def uu (n : Int) : List Bs → Option (List (List Itv))
 | [] => some []
 | s :: r => match altP n s with | none => none | some x => match uu n r with | none => none | some xs => some (x :: xs)
def xk (n : Int) (out : List Itv) : List (List Itv) → Option (List Itv)
 | [] => some out
 | x :: r => if (opL n orF out x).length ≤ 32 then xk n (opL n orF out x) r else none
def uo (n : Int) (s : Bs) : Option (List Itv) × Int :=
 if scheme n then (if s.length ≤ 8192 then (match uu n (Lib.split s orT) with | none => (none, 2) | some xs => match xk n [] xs with | none => (none, 3) | some l => (some l, 0)) else (none, 3)) else (none, 14)
theorem condI_ok {n : Int} {k : Nat} {v : Bs} (hn : scheme n = true) (hv : valid n v = true) : Ok n [za9 k v] := by
 have hc : cmpV n v v = 0 := (zgc hn hv hv hv).2.1
 have hb : zr n (za9 k v) = true ∧ yh n (za9 k v) = true := by
  unfold za9 zr jm yh
  repeat' split
  all_goals simp_all [cutC, Itv.low, Itv.high]
 exact ⟨hn, by simp, (fun x hx => by rw [List.mem_singleton.1 hx]; exact hb.1), hb.2, (fun z hz => by cases hz), trivial⟩
theorem zpl {n : Int} (hn : scheme n = true) {s : Bs} {x : Itv} (h : ko n s = some x) : Ok n [x] := by
 unfold ko at h
 split at h
 ·cases h
 ·split at h
  ·cases h
   exact condI_ok hn ‹_›
  ·cases h
def Convex (n : Int) (a : List Itv) : Prop := (∀ p q r, plt p q → plt q r → inS n a p = true → inS n a r = true → inS n a q = true) ∧ (qd a = true → ∀ q r, plt q r → inS n a r = true → inS n a q = true)
theorem zi4 {n : Int} {a : List Itv} (ha : Ok n a) (h : a.length ≤ 1) : Convex n a := by
 rcases a with _ | ⟨x, _ | ⟨y, l⟩⟩
 ·exact ⟨(fun p q r _ _ h => by cases h), (fun h => by cases h)⟩
 ·have e : ∀ q, inS n [x] q = inI n q x := fun q => by rw [zm2 ha.sch q ha.bnd ha.ord]; simp
  constructor
  ·intro p q r h1 h2 h3 h4
   rw [e] at h3 h4 ⊢
   unfold inI at h3 h4 ⊢
   simp only [Bool.and_eq_true, Bool.or_eq_true, decide_eq_true_eq, Bool.not_eq_true', decide_eq_false_iff_not] at h3 h4 ⊢
   refine ⟨h3.1.imp id fun g gq => g (qg h1 gq), h4.2.imp id fun g => qg h2 g⟩
  ·intro hf q r h2 h4
   rw [e] at h4 ⊢
   unfold inI at h4 ⊢
   have hk : x.lk = 0 := by simpa [qd] using hf
   simp only [Bool.and_eq_true, Bool.or_eq_true, decide_eq_true_eq, Bool.not_eq_true', decide_eq_false_iff_not] at h4 ⊢
   exact ⟨.inl hk, h4.2.imp id fun g => qg h2 g⟩
 ·simp at h
theorem zsc {n : Int} {x : Bool} {R : List Cut} (ha : asc (poss n R)) (h1 : ∀ p q r, plt p q → plt q r → mem x (poss n R) p = true → mem x (poss n R) r = true → mem x (poss n R) q = true) (h2 : x = true → ∀ q r, plt q r → mem x (poss n R) r = true → mem x (poss n R) q = true) :
  (ofC (start x) R).length ≤ 1 := by
 cases x
 ·rcases R with _ | ⟨c, _ | ⟨d, _ | ⟨e, R⟩⟩⟩
  ·simp [start, ofC]
  ·simp [start, ofC]
  ·simp [start, ofC]
  ·exfalso
   obtain ⟨a1, a2⟩ := List.pairwise_cons.1 (show asc (pos n c :: poss n (d :: e :: R)) from ha)
   obtain ⟨b1, b2⟩ := List.pairwise_cons.1 (show asc (pos n d :: poss n (e :: R)) from a2)
   obtain ⟨c1, c2⟩ := List.pairwise_cons.1 (show asc (pos n e :: poss n R) from b2)
   have g0 := a1 (pos n d) (by simp [poss])
   have g1 := b1 (pos n e) (by simp [poss])
   have g2 := qg g0 g1
   have m1 : mem false (poss n (c :: d :: e :: R)) (pos n c) = true := by
    show mem false (pos n c :: pos n d :: pos n e :: poss n R) _ = true
    rw [mem_cons, if_neg (qh _), mem_cons, if_pos g0]; rfl
   have m2 : mem false (poss n (c :: d :: e :: R)) (pos n d) = false := by
    show mem false (pos n c :: pos n d :: pos n e :: poss n R) _ = false
    rw [mem_cons, if_neg (uy g0), mem_cons, if_neg (qh _), mem_cons, if_pos g1]; rfl
   have m3 : mem false (poss n (c :: d :: e :: R)) (pos n e) = true := by
    show mem false (pos n c :: pos n d :: pos n e :: poss n R) _ = true
    rw [mem_cons, if_neg (uy g2), mem_cons, if_neg (uy g1), mem_cons, if_neg (qh _), yr c1]; rfl
   rw [h1 _ _ _ g0 g1 m1 m3] at m2
   cases m2
 ·rcases R with _ | ⟨c, _ | ⟨d, R⟩⟩
  ·simp [start, ofC]
  ·simp [start, ofC]
  ·exfalso
   obtain ⟨a1, a2⟩ := List.pairwise_cons.1 (show asc (pos n c :: poss n (d :: R)) from ha)
   obtain ⟨b1, b2⟩ := List.pairwise_cons.1 (show asc (pos n d :: poss n R) from a2)
   have g0 := a1 (pos n d) (by simp [poss])
   have m1 : mem true (poss n (c :: d :: R)) (pos n c) = false := by
    show mem true (pos n c :: pos n d :: poss n R) _ = false
    rw [mem_cons, if_neg (qh _), mem_cons, if_pos g0]; rfl
   have m3 : mem true (poss n (c :: d :: R)) (pos n d) = true := by
    show mem true (pos n c :: pos n d :: poss n R) _ = true
    rw [mem_cons, if_neg (uy g0), mem_cons, if_neg (qh _), yr b1]; rfl
   rw [h2 rfl _ _ g0 m3] at m1
   cases m1
structure One (n : Int) (a : List Itv) : Prop where
 ok : Ok n a
 one : a.length ≤ 1
theorem One.and {n : Int} {a b : List Itv} (ha : One n a) (hb : One n b) : One n (opL n andF a b) := by
 have h : (opL n andF a b).length ≤ 1 := by
  have ca := zi4 ha.ok ha.one
  have cb := zi4 hb.ok hb.one
  have g0 := zbc andF ha.ok hb.ok
  have both : ∀ q, mem (andF (qd a) (qd b)) (poss n (comb n andF (qd a) (qd b) (andF (qd a) (qd b)) (zt a) (zt b))) q = true ↔ inS n a q = true ∧ inS n b q = true := fun q => by
   rw [g0.val]
   show andF (inS n a q) (inS n b q) = true ↔ _
   unfold andF
   rw [Bool.and_eq_true]
  refine zsc g0.asc (fun p q r h1 h2 h3 h4 => ?_) (fun hx q r h1 h2 => ?_)
  ·rw [both] at h3 h4 ⊢
   exact ⟨ca.1 p q r h1 h2 h3.1 h4.1, cb.1 p q r h1 h2 h3.2 h4.2⟩
  ·rw [both] at h2 ⊢
   unfold andF at hx
   rw [Bool.and_eq_true] at hx
   exact ⟨ca.2 hx.1 q r h1 h2.1, cb.2 hx.2 q r h1 h2.2⟩
 exact ⟨zm0 _ ha.ok hb.ok (by omega), h⟩
theorem one_nil {n : Int} (h : scheme n = true) : One n [] := ⟨zs2 h, by simp⟩
theorem zno {n : Int} (h : scheme n = true) : One n [noI] := ⟨ok_all h, by simp⟩
theorem One.few {n : Int} {a : List Itv} (h : One n a) : Few n a 2 := ⟨h.ok, by have := zc3 a; have := h.one; omega⟩
theorem zmn {n : Int} (hn : scheme n = true) : ∀ {l : List Bs} {out r : List Itv}, One n out → za2 n out l = some r → One n r
 | [], out, r, h, e => by cases e; exact h
 | c :: l, out, r, h, e => by
  unfold za2 at e
  split at e
  ·cases e
  ·rename_i x hx
   exact zmn hn (h.and ⟨zpl hn hx, by simp⟩) e
theorem altP_one {n : Int} (hn : scheme n = true) {s : Bs} {r : List Itv} (e : altP n s = some r) : One n r := by
 unfold altP at e
 split at e
 ·cases e; exact one_nil hn
 ·split at e
  ·cases e; exact zno hn
  ·exact zmn hn (zno hn) e
theorem zgr {n : Int} (hn : scheme n = true) : ∀ {l : List Bs} {xs : List (List Itv)}, uu n l = some xs → xs.length = l.length ∧ ∀ x ∈ xs, One n x
 | [], xs, e => by cases e; exact ⟨rfl, fun x hx => by cases hx⟩
 | s :: l, xs, e => by
  unfold uu at e
  split at e
  ·cases e
  ·rename_i x hx
   split at e
   ·cases e
   ·rename_i ys hys
    cases e
    obtain ⟨i1, i2⟩ := zgr hn hys
    refine ⟨by rw [List.length_cons, List.length_cons, i1], fun y hy => ?_⟩
    rcases List.mem_cons.1 hy with rfl | hy
    ·exact altP_one hn hx
    ·exact i2 y hy
theorem zkr {n : Int} : ∀ {xs : List (List Itv)} {out r : List Itv}, Ok n out → (∀ x ∈ xs, One n x) → xk n out xs = some r → Ok n r
 | [], out, r, h, _, e => by cases e; exact h
 | x :: xs, out, r, h, hx, e => by
  unfold xk at e
  split at e
  ·rename_i h32
   exact zkr (zm0 _ h (hx x (by simp)).ok h32) (fun y hy => hx y (by simp [hy])) e
  ·cases e
theorem zrk {n : Int} {s : Bs} {l : List Itv} (h : (uo n s).1 = some l) : Ok n l ∧ (uo n s).2 = 0 := by
 unfold uo at h ⊢
 split at h
 ·rename_i hn
  rw [if_pos hn]
  split at h
  ·rename_i hl
   rw [if_pos hl]
   split at h
   ·cases h
   ·rename_i xs hxs
    split at h
    ·cases h
    ·rename_i u hu
     cases h
     exact ⟨zkr (zs2 hn) (zgr hn hxs).2 hu, rfl⟩
  ·cases h
 ·cases h
end Go.Proofs.YtbikeahmldobkaaGreatDoor.V
namespace Go.Proofs.YtbikeahmldobkaaGreatDoor.V
def chkP (n : Int) (a : List Itv) (m : Int) (b : List Itv) : Int := if okR n a && okR m b then (if n = m then 0 else 14) else 1
def limP (n : Int) (l : List Itv) : Int × List Itv × Int := if l.length ≤ 32 then (n, l, 0) else (0, [], 3)
def opP (f : Bool → Bool → Bool) (n : Int) (a : List Itv) (m : Int) (b : List Itv) : Int × List Itv × Int := if chkP n a m b = 0 then limP n (opL n f a b) else (0, [], chkP n a m b)
theorem zsf {n : Int} {a b : List Itv} (ha : Ok n a) (hb : Ok n b) : chkP n a n b = 0 := by
 unfold chkP
 rw [of_ok ha, of_ok hb]
 simp
theorem opP_few {n : Int} {a b : List Itv} {j k : Nat} (f : Bool → Bool → Bool) (ha : Few n a j) (hb : Few n b k) (h : j + k ≤ 31) : opP f n a n b = (n, opL n f a b, 0) := by
 unfold opP limP
 rw [if_pos (zsf ha.ok hb.ok), if_pos (ha.op hb f h).len]
end Go.Proofs.YtbikeahmldobkaaGreatDoor.V
namespace Go.Proofs.YtbikeahmldobkaaGreatDoor.V
theorem valid_len {n : Int} {v : Bs} (h : valid n v = true) : 1 ≤ v.length ∧ v.length ≤ 64 := by
 unfold valid at h
 rw [Bool.and_eq_true, Bool.and_eq_true] at h
 exact ⟨by simpa using h.1.1, by simpa using h.1.2⟩
end Go.Proofs.YtbikeahmldobkaaGreatDoor.V
namespace Go.Proofs.YtbikeahmldobkaaGreatDoor
namespace V
def nmA (c : UInt8) : Bool := (decide (97 ≤ c.toNat) && decide (c.toNat ≤ 122)) || (decide (48 ≤ c.toNat) && decide (c.toNat ≤ 57))
def nmP (c : UInt8) : Bool := decide (c.toNat = 46) || (decide (c.toNat = 95) || decide (c.toNat = 45))
def nmAt (j : Nat) (c : UInt8) : Bool := nmA c || (decide (0 < j) && nmP c)
def NameP (s : Bs) : Prop := 1 ≤ s.length ∧ s.length ≤ 64 ∧ ∀ j (h : j < s.length), nmAt j s[j] = true
instance (s : Bs) : Decidable (NameP s) := by unfold NameP; infer_instance
def xq (s : Bs) : Bool := decide (NameP s)
theorem zn8 {s : Bs} {k : Nat} (hk : k < s.length) (h : nmAt k s[k] = false) : xq s = false := decide_eq_false fun hp => by rw [hp.2.2 k hk] at h; cases h
end V
open Go.RowKit
namespace V
end V
open Go.RowKit
namespace V
end V
open Go.RowKit
namespace V
end V
open Go.RowKit
namespace V
structure Aff where
 sch : Int
 name : Bs
 rs : Int
 its : List Itv
structure Adv where
 id : Bs
 rev : Int
 sev : Int
 aff : List Aff
def zA : Aff := ⟨0, [], 0, []⟩
def affC (a b : Aff) : Int := orI [Lib.compareInt a.sch b.sch, Lib.compareBytes a.name b.name]
def zc5 (n : Int) (r : Int) (l : List Itv) : Bool := decide (r = n) && (decide (1 ≤ l.length) && okR r l)
def xh (a : Aff) : Bool := jp a.name && zc5 a.sch a.rs a.its
def zdf (l : List Aff) (i : Nat) (a : Aff) : Bool := (decide (i = 0) || decide (affC (l.getD (i - 1) zA) a < 0)) && xh a
def yn (l : List Aff) : Nat → Bool
 | 0 => true
 | k + 1 => yn l k && match l[k]? with | some a => zdf l k a | none => true
def zid (id : Bs) (rev sev : Int) (n : Nat) : Bool := xq id && (decide (1 ≤ rev) && (decide (rev ≤ 1099511627776) && (decide (1 ≤ sev) && (decide (sev ≤ 10) && decide (n ≤ 16)))))
def qy (x : Adv) : Bool := zid x.id x.rev x.sev x.aff.length && yn x.aff x.aff.length
theorem zc0 {l : List Aff} {k : Nat} (h : k < l.length) : yn l (k + 1) = (yn l k && zdf l k l[k]) := by
 show (yn l k && match l[k]? with | some a => zdf l k a | none => true) = _
 rw [List.getElem?_eq_getElem h]
theorem zgw {l : List Aff} : ∀ {m k : Nat}, k ≤ m → yn l k = false → yn l m = false
 | 0, k, h, e => by obtain rfl : k = 0 := by omega
                    exact e
 | m + 1, k, h, e => by
  by_cases hk : k = m + 1
  ·subst hk; exact e
  ·have := zgw (m := m) (by omega) e
   show (yn l m && _) = false
   rw [this]; rfl
theorem zqb {l : List Aff} {k : Nat} (h : k < l.length) (ha : zdf l k l[k] = false) : yn l l.length = false :=
 zgw (k := k + 1) (by omega) (by rw [zc0 h, ha, Bool.and_false])
theorem zjb {l : List Aff} : ∀ {m : Nat}, yn l m = true → ∀ k (hk : k < l.length), k < m → zdf l k l[k] = true
 | 0, _, k, _, h => absurd h (Nat.not_lt_zero _)
 | m + 1, h, k, hk, hm => by
  by_cases hml : m < l.length
  ·rw [zc0 hml, Bool.and_eq_true] at h
   by_cases e : k = m
   ·subst e; exact h.2
   ·exact zjb h.1 k hk (by omega)
  ·have h2 : (yn l m && match l[m]? with | some a => zdf l m a | none => true) = true := h
   rw [Bool.and_eq_true] at h2
   exact zjb h2.1 k hk (by omega)
structure AdvP (x : Adv) : Prop where
 id : xq x.id = true
 rev0 : 1 ≤ x.rev
 rev1 : x.rev ≤ 1099511627776
 sev0 : 1 ≤ x.sev
 sev1 : x.sev ≤ 10
 len : x.aff.length ≤ 16
 all : yn x.aff x.aff.length = true
theorem jt {x : Adv} (h : qy x = true) : AdvP x := by
 unfold qy zid at h
 simp only [Bool.and_eq_true, decide_eq_true_eq] at h
 exact ⟨h.1.1, h.1.2.1, h.1.2.2.1, h.1.2.2.2.1, h.1.2.2.2.2.1, h.1.2.2.2.2.2, h.2⟩
theorem zpp {a : Aff} (h : xh a = true) : jp a.name = true ∧ a.rs = a.sch ∧ 1 ≤ a.its.length ∧ okR a.sch a.its = true := by
 unfold xh zc5 at h
 simp only [Bool.and_eq_true, decide_eq_true_eq] at h
 exact ⟨h.1, h.2.1, h.2.2.1, by have := h.2.2.2; rwa [h.2.1] at this⟩
end V
end Go.Proofs.YtbikeahmldobkaaGreatDoor
namespace Go.Proofs.YtbikeahmldobkaaGreatDoor.V
def EcOk (n : Int) (x : Ec) : Prop := x = ebot ∨ x = etop ∨ ∃ c : Cut, valid n c.1 = true ∧ x = eat c
theorem zai {n : Int} {x : Itv} (h : zr n x = true) : EcOk n (eLow x) := by
 by_cases hk : x.lk = 0
 ·exact .inl (zbn hk)
 ·exact .inr (.inr ⟨x.low, kq h hk, zao h hk⟩)
theorem zav {n : Int} {x : Itv} (h : zr n x = true) : EcOk n (kr x) := by
 by_cases hk : x.hk = 0
 ·exact .inr (.inl (wj hk))
 ·exact .inr (.inr ⟨x.high, qs h hk, uh h hk⟩)
theorem zqp {n : Int} {x : Itv} (h : zr n x = true) : decide (ecmp n (eLow x) (kr x) < 0) = yh n x := by
 unfold yh
 by_cases h1 : x.lk = 0
 ·rw [zbn h1, decide_eq_true h1, Bool.true_or]
  refine decide_eq_true ?_
  by_cases h2 : x.hk = 0
  ·rw [wj h2]; unfold ecmp ebot etop; simp
  ·rw [uh h h2]; unfold ecmp ebot eat; simp
 ·rw [decide_eq_false h1, Bool.false_or]
  by_cases h2 : x.hk = 0
  ·rw [decide_eq_true h2, Bool.true_or, zao h h1, wj h2]
   exact decide_eq_true (by unfold ecmp eat etop; simp)
  ·rw [decide_eq_false h2, Bool.false_or, zao h h1, uh h h2, zd1]
theorem zum {n : Int} {y x : Itv} (hy : zr n y = true) (hx : zr n x = true) : decide (ecmp n (kr y) (eLow x) < 0) = zaz n y x := by
 unfold zaz
 by_cases h1 : y.hk = 0
 ·rw [wj h1, decide_eq_true h1]
  refine decide_eq_false ?_
  by_cases h2 : x.lk = 0
  ·rw [zbn h2]; unfold ecmp etop ebot; simp
  ·rw [zao hx h2]; unfold ecmp etop eat; simp
 ·rw [decide_eq_false h1]
  by_cases h2 : x.lk = 0
  ·rw [decide_eq_true h2, uh hy h1, zbn h2]
   exact decide_eq_false (by unfold ecmp eat ebot; simp)
  ·rw [decide_eq_false h2, uh hy h1, zao hx h2, zd1]
   rfl
end Go.Proofs.YtbikeahmldobkaaGreatDoor.V
namespace Go.Proofs.YtbikeahmldobkaaGreatDoor.V
theorem zh6 {n : Int} {x : Ec} (hx : EcOk n x) : ∀ {l : List Ec}, (∀ y ∈ l, EcOk n y) → ∀ y ∈ radd n x l, EcOk n y
 | [], _, y, hy => by
  rw [radd] at hy
  rw [List.mem_singleton.1 hy]; exact hx
 | z :: l, h, y, hy => by
  have ih := zh6 hx (l := l) (fun y hy => h y (by simp [hy]))
  unfold radd at hy
  split at hy
  ·rcases List.mem_cons.1 hy with rfl | hy
   ·exact h _ (by simp)
   ·exact ih y hy
  ·split at hy
   ·rcases List.mem_cons.1 hy with rfl | hy
    ·split
     ·exact h _ (by simp)
     ·exact hx
    ·exact h y (by simp [hy])
   ·rcases List.mem_cons.1 hy with rfl | hy
    ·exact hx
    ·exact h y hy
theorem zb3 (n : Int) (x : Ec) : ∀ l : List Ec, (radd n x l).length ≤ l.length + 1 ∧ 0 < (radd n x l).length
 | [] => by simp [radd]
 | z :: l => by
  have ih := zb3 n x l
  unfold radd
  split
  ·simp; omega
  ·split
   ·simp
   ·simp
theorem addI_ok {n : Int} {x : Itv} (hx : zr n x = true) {l : List Ec} (h : ∀ y ∈ l, EcOk n y) : ∀ y ∈ addI n l x, EcOk n y :=
 zh6 (zav hx) (zh6 (zai hx) h)
theorem addI_len (n : Int) (l : List Ec) (x : Itv) : (addI n l x).length ≤ l.length + 2 := by
 have h1 := (zb3 n (eLow x) l).1
 have h2 := (zb3 n (kr x) (radd n (eLow x) l)).1
 unfold addI
 omega
theorem zn3 {n : Int} : ∀ {m : List Itv} {l : List Ec}, (∀ x ∈ m, zr n x = true) → (∀ y ∈ l, EcOk n y) → ∀ y ∈ m.foldl (addI n) l, EcOk n y
 | [], _, _, h => h
 | x :: m, l, hm, h => zn3 (m := m) (fun z hz => hm z (by simp [hz])) (addI_ok (hm x (by simp)) h)
theorem zj4 (n : Int) : ∀ (m : List Itv) (l : List Ec), (m.foldl (addI n) l).length ≤ l.length + 2 * m.length
 | [], l => by simp
 | x :: m, l => by
  have h1 := zj4 n m (addI n l x)
  have h2 := addI_len n l x
  rw [List.foldl_cons, List.length_cons]
  omega
theorem zjo (n : Int) : ∀ (m : List Itv) (l : List Ec), 0 < l.length → 0 < (m.foldl (addI n) l).length
 | [], _l, h => h
 | x :: m, l, _h => zjo n m (addI n l x) (zb3 n _ _).2
theorem zue {n : Int} {m : List Itv} {k : Nat} (l : List Ec) (h : k < m.length) : (m.take (k + 1)).foldl (addI n) l = radd n (kr m[k]) (radd n (eLow m[k]) ((m.take k).foldl (addI n) l)) := by
 rw [List.take_succ_eq_append_getElem h, List.foldl_append]
 rfl
theorem ends_ok (n : Int) : ∀ y ∈ [ebot, etop], EcOk n y := by
 intro y hy
 simp at hy
 rcases hy with rfl | rfl
 ·exact .inl rfl
 ·exact .inr (.inl rfl)
theorem EcOk.side {n : Int} {x : Ec} (h : EcOk n x) : 0 ≤ x.s ∧ x.s ≤ 1 := by
 rcases h with rfl | rfl | ⟨c, _, rfl⟩
 ·simp [ebot]
 ·simp [etop]
 ·unfold eat; split <;> simp
theorem _root_.Go.Proofs.YtbikeahmldobkaaGreatDoor.zyg {P : Prop} (h : P := by
 rw [List.drop_eq_getElem_cons (by omega : i < C.length), List.drop_eq_getElem_cons hi]
 rw [rrun]
 simp [hn]) : P := h
theorem zua {h : Ec → Ec → Bool} {C : List Ec} {i : Nat} (hi : i + 1 < C.length) (hn : h C[i] C[i + 1] = false) : rrun h none (C.drop i) = rrun h none (C.drop (i + 1)) := by
 exact zyg
theorem zt7 {h : Ec → Ec → Bool} {C : List Ec} {i : Nat} (hi : i + 1 < C.length) (hn : h C[i] C[i + 1] = true) : rrun h none (C.drop i) = rrun h (some C[i]) (C.drop (i + 1)) := by
 exact zyg
theorem rrun_on {h : Ec → Ec → Bool} {C : List Ec} {i : Nat} {f : Ec} (hi : i + 1 < C.length) (hn : h C[i] C[i + 1] = true) : rrun h (some f) (C.drop i) = rrun h (some f) (C.drop (i + 1)) := by
 exact zyg
theorem rrun_end {h : Ec → Ec → Bool} {C : List Ec} {i : Nat} (hi : ¬ i + 1 < C.length) : rrun h none (C.drop i) = [] := by
 have hl : (C.drop i).length ≤ 1 := by rw [List.length_drop]; omega
 rcases hd : C.drop i with _ | ⟨e, _ | ⟨e', l⟩⟩
 ·rfl
 ·rfl
 ·rw [hd] at hl; simp at hl
theorem zq8 {h : Ec → Ec → Bool} {C : List Ec} {i : Nat} {f : Ec} (hi : i < C.length) (hn : ∀ hj : i + 1 < C.length, h C[i] C[i + 1] = false) : rrun h (some f) (C.drop i) = btw f C[i] :: rrun h none (C.drop i) := by
 by_cases hj : i + 1 < C.length
 ·have := hn hj
  rw [List.drop_eq_getElem_cons hi, List.drop_eq_getElem_cons hj, rrun, rrun]
  simp [this]
 ·rw [List.drop_eq_getElem_cons hi, List.drop_eq_nil_of_le (by omega), rrun, rrun]
end Go.Proofs.YtbikeahmldobkaaGreatDoor.V
namespace Go.Proofs.YtbikeahmldobkaaGreatDoor
open Go.RowKit
namespace V
def pkC (p q : Int × Bs) : Int := orI [Lib.compareInt p.1 q.1, Lib.compareBytes p.2 q.2]
theorem pkC_lt {p q : Int × Bs} : pkC p q < 0 ↔ p.1 < q.1 ∨ p.1 = q.1 ∧ cb p.2 q.2 < 0 := by
 have : pkC p q = cor (Lib.compareInt p.1 q.1) (cb p.2 q.2) := by
  show cor _ (cor _ 0) = _
  rw [zb7]
 rw [this]
 unfold Lib.compareInt cor
 repeat' split
 all_goals (first | omega | (simp_all; done) | (simp at *; omega))
theorem zuq {p q r : Int × Bs} (h : pkC p q < 0) (g : pkC q r < 0) : pkC p r < 0 := by
 rw [pkC_lt] at *
 rcases h with h | ⟨h, h2⟩
 ·rcases g with g | ⟨g, g2⟩
  ·exact .inl (by omega)
  ·exact .inl (by omega)
 ·rcases g with g | ⟨g, g2⟩
  ·exact .inl (by omega)
  ·refine .inr ⟨by omega, ?_⟩
   have h3 := wm p.2 q.2 r.2 (by omega) (by omega)
   by_cases e : cb p.2 r.2 = 0
   ·have e2 := zjq e
    rw [e2] at h2
    rw [km r.2 q.2] at g2
    omega
   ·omega
theorem pkC_tri {p q : Int × Bs} (h : ¬ pkC p q < 0) (g0 : ¬ q = p) : pkC q p < 0 := by
 rw [pkC_lt] at *
 by_cases h1 : q.1 < p.1
 ·exact .inl h1
 ·have h2 : q.1 = p.1 := by
   by_cases h3 : p.1 < q.1
   ·exact absurd (.inl h3) h
   ·omega
  refine .inr ⟨h2, ?_⟩
  have h4 := km p.2 q.2
  have h5 : ¬ cb p.2 q.2 < 0 := fun e => h (.inr ⟨h2.symm, e⟩)
  by_cases h6 : cb p.2 q.2 = 0
  ·exact absurd (Prod.ext h2 (zjq h6).symm) g0
  ·rw [h4]; omega
def Asc (l : List (Int × Bs)) : Prop := l.Pairwise fun a b => pkC a b < 0
def ki (p : Int × Bs) (l : List (Int × Bs)) : Nat → List (Int × Bs) × Bool
 | 0 => ([], false)
 | k + 1 => match l[k]? with
  | none => ki p l k
  | some x => ((if (ki p l k).2 = false ∧ pkC p x < 0 then (ki p l k).1 ++ [p] else (ki p l k).1) ++ [x], (ki p l k).2 || decide (pkC p x < 0) || decide (x = p))
def addP (p : Int × Bs) (l : List (Int × Bs)) : List (Int × Bs) := if (ki p l l.length).2 = true then (ki p l l.length).1 else (ki p l l.length).1 ++ [p]
theorem zch {p : Int × Bs} {l : List (Int × Bs)} {k : Nat} (h : k < l.length) : ki p l (k + 1) = ((if (ki p l k).2 = false ∧ pkC p l[k] < 0 then (ki p l k).1 ++ [p] else (ki p l k).1) ++ [l[k]], (ki p l k).2 || decide (pkC p l[k] < 0) || decide (l[k] = p)) := by
 rw [ki, List.getElem?_eq_getElem h]
theorem zme {p : Int × Bs} {l : List (Int × Bs)} (hl : Asc l) : ∀ k, k ≤ l.length → ((ki p l k).2 = true ∧ Asc ((ki p l k).1 ++ l.drop k)) ∨ ((ki p l k).2 = false ∧ (ki p l k).1 = l.take k ∧ ∀ x ∈ l.take k, pkC x p < 0)
 | 0, _ => .inr ⟨rfl, rfl, fun x hx => by simp at hx⟩
 | k + 1, hk => by
  have hlt : k < l.length := by omega
  have hd := List.drop_eq_getElem_cons hlt
  have ht : l.take (k + 1) = l.take k ++ [l[k]] := List.take_succ_eq_append_getElem hlt
  have g0 : l = l.take k ++ l[k] :: l.drop (k + 1) := by rw [← hd, List.take_append_drop]
  rcases zme hl k (by omega) with ⟨h1, h2⟩ | ⟨h1, h2, h3⟩
  ·left
   rw [zch hlt, h1]
   refine ⟨by simp, ?_⟩
   rw [if_neg (by simp)]
   rw [hd] at h2
   simpa using h2
  ·rw [zch hlt, h1, h2]
   by_cases hp : pkC p l[k] < 0
   ·left
    refine ⟨by simp [hp], ?_⟩
    rw [if_pos ⟨rfl, hp⟩]
    have g1 := hl
    unfold Asc at g1 ⊢
    rw [g0, List.pairwise_append, List.pairwise_cons] at g1
    obtain ⟨a1, ⟨a2, a3⟩, a4⟩ := g1
    have e : l.take k ++ [p] ++ [l[k]] ++ l.drop (k + 1) = l.take k ++ (p :: l[k] :: l.drop (k + 1)) := by simp
    rw [show ((l.take k ++ [p] ++ [l[k]], false || decide (pkC p l[k] < 0) || decide (l[k] = p)) : List (Int × Bs) × Bool).1 = l.take k ++ [p] ++ [l[k]] from rfl, e, List.pairwise_append, List.pairwise_cons, List.pairwise_cons]
    refine ⟨a1, ⟨fun y hy => ?_, a2, a3⟩, fun x hx y hy => ?_⟩
    ·rcases List.mem_cons.1 hy with rfl | hy
     ·exact hp
     ·exact zuq hp (a2 y hy)
    ·rcases List.mem_cons.1 hy with rfl | hy
     ·exact h3 x hx
     ·exact a4 x hx y hy
   ·rw [if_neg (fun e => hp e.2)]
    by_cases he : l[k] = p
    ·left
     refine ⟨by simp [he], ?_⟩
     show Asc (l.take k ++ [l[k]] ++ l.drop (k + 1))
     rw [List.append_assoc, List.singleton_append, ← g0]
     exact hl
    ·right
     refine ⟨by simp [hp, he], ht.symm, fun x hx => ?_⟩
     rw [ht] at hx
     rcases List.mem_append.1 hx with hx | hx
     ·exact h3 x hx
     ·rw [List.mem_singleton.1 hx]
      exact pkC_tri hp he
theorem addP_asc {p : Int × Bs} {l : List (Int × Bs)} (hl : Asc l) : Asc (addP p l) := by
 unfold addP
 rcases zme (p := p) hl l.length (Nat.le_refl _) with ⟨h1, h2⟩ | ⟨h1, h2, h3⟩
 ·rw [if_pos h1]
  simpa using h2
 ·rw [if_neg (by rw [h1]; decide), h2, List.take_length]
  rw [List.take_length] at h3
  unfold Asc at hl ⊢
  rw [List.pairwise_append]
  exact ⟨hl, List.pairwise_singleton _ _, fun x hx y hy => by rw [List.mem_singleton.1 hy]; exact h3 x hx⟩
theorem zed {p : Int × Bs} {l : List (Int × Bs)} : ∀ k, k ≤ l.length → (∀ x ∈ (ki p l k).1, x ∈ l ∨ x = p) ∧ (ki p l k).1.length ≤ k + 1 ∧ ((ki p l k).2 = false → (ki p l k).1.length = k)
 | 0, _ => ⟨fun x hx => by simp [ki] at hx, by simp [ki], fun _ => rfl⟩
 | k + 1, hk => by
  have hlt : k < l.length := by omega
  obtain ⟨h1, h2, h3⟩ := zed (p := p) (l := l) k (by omega)
  rw [zch hlt]
  by_cases hc : (ki p l k).2 = false ∧ pkC p l[k] < 0
  ·rw [if_pos hc]
   refine ⟨fun x hx => ?_, by simp; have := h3 hc.1; omega, fun e => by simp [hc.2] at e⟩
   rcases List.mem_append.1 hx with hx | hx
   ·rcases List.mem_append.1 hx with hx | hx
    ·exact h1 x hx
    ·exact .inr (List.mem_singleton.1 hx)
   ·rw [List.mem_singleton.1 hx]; exact .inl (List.getElem_mem hlt)
  ·rw [if_neg hc]
   refine ⟨fun x hx => ?_, by simp; omega, fun e => ?_⟩
   ·rcases List.mem_append.1 hx with hx | hx
    ·exact h1 x hx
    ·rw [List.mem_singleton.1 hx]; exact .inl (List.getElem_mem hlt)
   ·have h4 : (ki p l k).2 = false := by
     cases h : (ki p l k).2
     ·rfl
     ·rw [h] at e; simp at e
    simp [h3 h4]
theorem addP_mem {p : Int × Bs} {l : List (Int × Bs)} {x : Int × Bs} (h : x ∈ addP p l) : x ∈ l ∨ x = p := by
 obtain ⟨h1, _, _⟩ := zed (p := p) (l := l) l.length (Nat.le_refl _)
 unfold addP at h
 split at h
 ·exact h1 x h
 ·rcases List.mem_append.1 h with h | h
  ·exact h1 x h
  ·exact .inr (List.mem_singleton.1 h)
theorem addP_len {p : Int × Bs} {l : List (Int × Bs)} : (addP p l).length ≤ l.length + 1 := by
 obtain ⟨_, h2, h3⟩ := zed (p := p) (l := l) l.length (Nat.le_refl _)
 unfold addP
 split
 ·exact h2
 ·rename_i h
  rw [List.length_append, h3 (by simpa using h)]
  exact Nat.le_refl _
def pk (a : Aff) : Int × Bs := (a.sch, a.name)
structure MadeV (x : Adv) : Prop where
 id : xq x.id = true
 idl : x.id.length ≤ 100
 rev0 : 1 ≤ x.rev
 rev1 : x.rev ≤ 3
 sev0 : 1 ≤ x.sev
 sev1 : x.sev ≤ 10
 len : x.aff.length ≤ 3
 snd : ∀ a ∈ x.aff, xh a = true
 asc : Asc (x.aff.map pk)
def zia : List Bs := [[119, 45, 49], [119, 45, 50], [119, 45, 51]]
theorem madeId {s : Bs} (h : s ∈ zia) : xq s = true ∧ s.length ≤ 100 := by
 simp only [zia, List.mem_cons, List.not_mem_nil, or_false] at h
 rcases h with e | e | e <;> (rw [e]; decide)
end V
end Go.Proofs.YtbikeahmldobkaaGreatDoor
