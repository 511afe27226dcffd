/-
  Lemmas for the law.
-/
import Derived.Test.YtiloljoancdcbaaGreatDoorC40x01
import Derived.Test.YtiloljoancdcbaaGreatDoorC40x14
import Derived.Lib.Join
import Derived.Lib.Split
import Derived.Lib.CountLaws
set_option linter.all false
namespace Go.Proofs.YtiloljoancdcbaaGreatDoor.V
def verB (c : UInt8) : Bool := kind [46, 43, 126, 45, 58] c
theorem zaq {P : UInt8 → Prop} (c : UInt8) (hc : P c) : ∀ l : Bs, (∀ x ∈ zd c l, ∀ b ∈ x, P b) → ∀ b ∈ l, P b
 | [], _, b, hb => by simp at hb
 | a :: l, h, b, hb => by
  unfold zd at h
  by_cases e : a = c
  ·subst e
   simp only [beq_self_eq_true, if_true] at h
   rcases List.mem_cons.1 hb with rfl | hb
   ·exact hc
   ·exact zaq a hc l (fun x hx => h x (by simp [hx])) b hb
  ·rw [if_neg (by simpa using e)] at h
   rcases hs : zd c l with _ | ⟨y, r⟩
   ·exact absurd hs (zby c l)
   ·rw [hs] at h
    simp only at h
    rcases List.mem_cons.1 hb with rfl | hb
    ·exact h (b :: y) (by simp) b (by simp)
    ·exact zaq c hc l (fun x hx z hz => by
       rw [hs] at hx
       rcases List.mem_cons.1 hx with rfl | hx
       · exact h (a :: x) (by simp) z (by simp [hz])
       · exact h x (by simp [hx]) z hz) b hb
theorem zrr (c : UInt8) : ∀ l : Bs, c ∈ l → l = l.takeWhile (· != c) ++ c :: l.drop ((l.takeWhile (· != c)).length + 1)
 | [], h => by simp at h
 | b :: l, h => by
  by_cases e : b = c
  ·subst e; simp
  ·have hb : (b != c) = true := by simpa using e
   have ih := zrr c l (by
     rcases List.mem_cons.1 h with h | h
     · exact absurd h.symm e
     · exact h)
   rw [List.takeWhile_cons, if_pos hb, List.length_cons, List.drop_succ_cons, List.cons_append, ← ih]
theorem zn0 (c : UInt8) (l : Bs) (h : (cut1 c l).2.2 = true) : l = (cut1 c l).1 ++ c :: (cut1 c l).2.1 := by
 unfold cut1 at *
 by_cases hc : c ∈ l
 ·rw [if_pos hc]; exact zrr c l hc
 ·rw [if_neg hc] at h; cases h
theorem cut_none (c : UInt8) (l : Bs) (h : (cut1 c l).2.2 = false) : (cut1 c l).1 = l := by
 unfold cut1 at *
 split
 ·rename_i hc; rw [if_pos hc] at h; cases h
 ·rfl
theorem zhg {P : UInt8 → Prop} (c : UInt8) (hc : P c) (l : Bs) (h1 : ∀ b ∈ (cut1 c l).1, P b) (h2 : (cut1 c l).2.2 = true → ∀ b ∈ (cut1 c l).2.1, P b) : ∀ b ∈ l, P b := by
 intro b hb
 rcases h : (cut1 c l).2.2 with _ | _
 ·rw [cut_none c l h] at h1; exact h1 b hb
 ·rw [zn0 c l h] at hb
  rcases List.mem_append.1 hb with g | g
  ·exact h1 b g
  ·rcases List.mem_cons.1 g with rfl | g
   ·exact hc
   ·exact h2 h b g
theorem zfx {p : UInt8 → Bool} {l : Bs} (h : only p l = true) : ∀ b ∈ l, p b = true := by
 unfold only at h
 rw [Bool.and_eq_true, List.all_eq_true] at h
 exact h.1
theorem zem {o o' : Bs} (ho : ∀ c ∈ o, c ∈ o') {c : UInt8} (h : kind o c = true) : kind o' c = true := by
 unfold kind at *
 rw [Bool.or_eq_true] at *
 rcases h with h | h
 ·exact .inl h
 ·exact .inr (by simpa using ho c (by simpa using h))
theorem zo5 {x : Bs} {e : Bool} (h : numb x e = true) : ∀ b ∈ x, verB b = true := fun b hb => by
 unfold numb digits at h
 rw [Bool.and_eq_true] at h
 have := zfx h.1 b hb
 unfold verB kind; rw [this]; simp
theorem ident_in {x : Bs} {e : Bool} (h : kj e x = true) : ∀ b ∈ x, verB b = true := fun b hb => by
 unfold kj at h
 rw [Bool.and_eq_true] at h
 exact zem (by simp) (zfx h.1 b hb)
theorem zn2 {s : Bs} {e : Bool} (h : identifiers s e = true) : ∀ b ∈ s, verB b = true := by
 unfold identifiers at h
 rw [List.all_eq_true] at h
 exact zaq 46 (by decide +kernel) s fun x hx => ident_in (h x hx)
theorem dot_in {s : Bs} (h : zfa s = true) : ∀ b ∈ s, verB b = true := by
 unfold zfa at h
 rw [List.all_eq_true] at h
 exact zaq 46 (by decide +kernel) s fun x hx => zo5 (h x hx)
theorem sem_in {s : Bs} (h : (zo s).isSome = true) : ∀ b ∈ s, verB b = true := by
 unfold zo at h
 split at h
 ·cases h
 ·rename_i hn
  split at h
  ·rename_i ha
   rw [List.all_eq_true] at ha
   simp only [Bool.or_eq_true, Bool.and_eq_true, Bool.not_eq_true', not_or, not_and, Bool.not_eq_false] at hn
   obtain ⟨⟨h1, h2⟩, _⟩ := hn
   refine zhg 43 (by decide +kernel) s (zhg 45 (by decide +kernel) _ (zaq 46 (by decide +kernel) _ fun x hx => zo5 (ha x hx)) fun e => zn2 (h2 e)) fun e => zn2 (h1 e)
  ·cases h
theorem zk3 {ep s : Bs} (h : (jo ep s).isSome = true) : ∀ b ∈ s, verB b = true := by
 unfold jo at h
 split at h
 ·split at h
  ·rename_i g
   rw [Bool.and_eq_true] at g
   exact fun b hb => zem (by simp) (zfx g.1 b hb)
  ·cases h
 ·rename_i h0
  split at h
  ·rename_i g1
   split at h
   ·rename_i g2
    rw [Bool.and_eq_true] at g2
    have e1 := fun b hb => zem (o' := [46, 43, 126, 45, 58]) (by simp) (zfx g2.1 b hb)
    have e2 := fun b hb => zem (o' := [46, 43, 126, 45, 58]) (by simp [allow]) (zfx g1 b hb)
    unfold jg at *
    rcases Lib.lastIndexByte_spec ⟨s.toArray⟩ 45 with ⟨e, _⟩ | ⟨i, hi, e, hc, _⟩
    ·rw [e] at h0; simp at h0
    ·rw [e] at e1 e2
     have hi' : i < s.length := by rw [show (ByteArray.mk s.toArray).size = s.length by show s.toArray.size = _; simp] at hi; exact hi
     intro b hb
     rw [← List.take_append_drop i s, List.drop_eq_getElem_cons hi'] at hb
     rcases List.mem_append.1 hb with q | q
     ·exact e1 b (by simpa using q)
     ·rcases List.mem_cons.1 q with rfl | q
      ·have : s[i] = 45 := by
        have e3 : (ByteArray.mk s.toArray).data[i]! = s[i] := by simp [hi']
        rw [e3] at hc
        exact UInt8.toNat_inj.1 (show s[i].toNat = 45 by omega)
       rw [this]; decide +kernel
      ·exact e2 b (by simpa using q)
   ·cases h
  ·cases h
theorem deb_in {s : Bs} (h : (zr s).isSome = true) : ∀ b ∈ s, verB b = true := by
 unfold zr at h
 split at h
 ·rename_i hc
  split at h
  ·rename_i hn
   exact zhg 58 (by decide +kernel) s (zo5 hn) fun _ => zk3 h
  ·cases h
 ·exact zk3 h
theorem valid_in {n : Int} {v : Bs} (h : valid n v = true) : ∀ b ∈ v, verB b = true := by
 unfold valid yz at h
 rw [Bool.and_eq_true] at h
 obtain ⟨_, h⟩ := h
 repeat' split at h
 ·exact sem_in h
 ·exact deb_in h
 ·exact dot_in h
 ·cases h
theorem zes {n : Int} {v : Bs} (h : valid n v = true) {c : UInt8} (hc : verB c = false) : c ∉ v := fun g => by
 rw [valid_in h c g] at hc; cases hc
end Go.Proofs.YtiloljoancdcbaaGreatDoor.V
namespace Go.Proofs.YtiloljoancdcbaaGreatDoor.V
def lowT (x : Itv) : List Bs := if x.lk = 1 then [[62, 61] ++ x.lo] else if x.lk = 2 then [[62] ++ x.lo] else []
def ub (x : Itv) : List Bs := if x.hk = 1 then [[60, 61] ++ x.hi] else if x.hk = 2 then [[60] ++ x.hi] else []
def zv (x : Itv) : Bs :=
 if x.lk = 0 ∧ x.hk = 0 then [42] else if x.lk = 1 ∧ x.hk = 1 ∧ x.lo = x.hi then [61] ++ x.lo else Lib.join (lowT x ++ ub x) [32]
def zcu : Bs := [110, 111, 110, 101]
def orT : Bs := [32, 124, 124, 32]
def xl (l : List Itv) : Bs := if l.isEmpty then zcu else Lib.join (l.map zv) orT
def yc (n : Int) (l : List Itv) : Bs × Int := if okR n l then (xl l, 0) else ([], 1)
def opOf (s : Bs) : Option (Nat × Bs) :=
 if s.take 2 = [62, 61] then some (0, s.drop 2) else if s.take 2 = [60, 61] then some (1, s.drop 2) else if s.take 1 = [61] then some (2, s.drop 1) else if s.take 1 = [60] then some (3, s.drop 1) else if s.take 1 = [62] then some (4, s.drop 1) else none
def kf (k : Nat) (v : Bs) : Itv :=
 if k = 0 then ⟨v, 1, [], 0⟩ else if k = 1 then ⟨[], 0, v, 1⟩ else if k = 2 then ⟨v, 1, v, 1⟩ else if k = 3 then ⟨[], 0, v, 2⟩ else ⟨v, 2, [], 0⟩
def jp (n : Int) (s : Bs) : Option Itv := match opOf s with | none => none | some (k, v) => if valid n v then some (kf k v) else none
def xn (n : Int) (out : List Itv) : List Bs → Option (List Itv)
 | [] => some out
 | c :: r => match jp n c with | none => none | some x => xn n (opL n andF out [x]) r
def altP (n : Int) (s : Bs) : Option (List Itv) := if s = zcu then some [] else if s = [42] then some [noI] else xn n [noI] (zd 32 s)
def xt (n : Int) : List Bs → Option (List (List Itv))
 | [] => some []
 | s :: r => match altP n s with | none => none | some x => match xt n r with | none => none | some xs => some (x :: xs)
def ja (n : Int) (out : List Itv) : List (List Itv) → Option (List Itv)
 | [] => some out
 | x :: r => if (opL n orF out x).length ≤ 32 then ja n (opL n orF out x) r else none
def yy (n : Int) (s : Bs) : Option (List Itv) × Int :=
 if scheme n then (if s.length ≤ 8192 then (match xt n (Lib.split s orT) with | none => (none, 2) | some xs => match ja n [] xs with | none => (none, 3) | some l => (some l, 0)) else (none, 3)) else (none, 14)
theorem zd6 {n : Int} {k : Nat} {v : Bs} (hn : scheme n = true) (hv : valid n v = true) : Ok n [kf k v] := by
 have hc : cmpV n v v = 0 := (zur hn hv hv hv).2.1
 have hb : zj n (kf k v) = true ∧ yw n (kf k v) = true := by
  unfold kf zj jx yw
  repeat' split
  all_goals simp_all [cutC, Itv.low, Itv.high]
 exact ⟨hn, by simp, (fun x hx => by rw [List.mem_singleton.1 hx]; exact hb.1), hb.2, (fun z hz => by cases hz), trivial⟩
theorem zkd {n : Int} (hn : scheme n = true) {s : Bs} {x : Itv} (h : jp n s = some x) : Ok n [x] := by
 unfold jp at h
 split at h
 ·cases h
 ·split at h
  ·cases h
   exact zd6 hn ‹_›
  ·cases h
def Convex (n : Int) (a : List Itv) : Prop := (∀ p q r, plt p q → plt q r → inS n a p = true → inS n a r = true → inS n a q = true) ∧ (zq a = true → ∀ q r, plt q r → inS n a r = true → inS n a q = true)
theorem zkc {n : Int} {a : List Itv} (ha : Ok n a) (h : a.length ≤ 1) : Convex n a := by
 rcases a with _ | ⟨x, _ | ⟨y, l⟩⟩
 ·exact ⟨(fun p q r _ _ h => by cases h), (fun h => by cases h)⟩
 ·have e : ∀ q, inS n [x] q = inI n q x := fun q => by rw [zc3 ha.sch q ha.bnd ha.ord]; simp
  constructor
  ·intro p q r h1 h2 h3 h4
   rw [e] at h3 h4 ⊢
   unfold inI at h3 h4 ⊢
   simp only [Bool.and_eq_true, Bool.or_eq_true, decide_eq_true_eq, Bool.not_eq_true', decide_eq_false_iff_not] at h3 h4 ⊢
   refine ⟨h3.1.imp id fun g gq => g (qe h1 gq), h4.2.imp id fun g => qe h2 g⟩
  ·intro hf q r h2 h4
   rw [e] at h4 ⊢
   unfold inI at h4 ⊢
   have hk : x.lk = 0 := by simpa [zq] using hf
   simp only [Bool.and_eq_true, Bool.or_eq_true, decide_eq_true_eq, Bool.not_eq_true', decide_eq_false_iff_not] at h4 ⊢
   exact ⟨.inl hk, h4.2.imp id fun g => qe h2 g⟩
 ·simp at h
theorem zsp {n : Int} {x : Bool} {R : List Cut} (ha : asc (poss n R)) (h1 : ∀ p q r, plt p q → plt q r → mem x (poss n R) p = true → mem x (poss n R) r = true → mem x (poss n R) q = true) (h2 : x = true → ∀ q r, plt q r → mem x (poss n R) r = true → mem x (poss n R) q = true) :
  (ofC (start x) R).length ≤ 1 := by
 cases x
 ·rcases R with _ | ⟨c, _ | ⟨d, _ | ⟨e, R⟩⟩⟩
  ·simp [start, ofC]
  ·simp [start, ofC]
  ·simp [start, ofC]
  ·exfalso
   obtain ⟨a1, a2⟩ := List.pairwise_cons.1 (show asc (pos n c :: poss n (d :: e :: R)) from ha)
   obtain ⟨b1, b2⟩ := List.pairwise_cons.1 (show asc (pos n d :: poss n (e :: R)) from a2)
   obtain ⟨c1, c2⟩ := List.pairwise_cons.1 (show asc (pos n e :: poss n R) from b2)
   have hcd := a1 (pos n d) (by simp [poss])
   have hde := b1 (pos n e) (by simp [poss])
   have hce := qe hcd hde
   have m1 : mem false (poss n (c :: d :: e :: R)) (pos n c) = true := by
    show mem false (pos n c :: pos n d :: pos n e :: poss n R) _ = true
    rw [mem_cons, if_neg (qc _), mem_cons, if_pos hcd]; rfl
   have m2 : mem false (poss n (c :: d :: e :: R)) (pos n d) = false := by
    show mem false (pos n c :: pos n d :: pos n e :: poss n R) _ = false
    rw [mem_cons, if_neg (wn hcd), mem_cons, if_neg (qc _), mem_cons, if_pos hde]; rfl
   have m3 : mem false (poss n (c :: d :: e :: R)) (pos n e) = true := by
    show mem false (pos n c :: pos n d :: pos n e :: poss n R) _ = true
    rw [mem_cons, if_neg (wn hce), mem_cons, if_neg (wn hde), mem_cons, if_neg (qc _), uo c1]; rfl
   rw [h1 _ _ _ hcd hde m1 m3] at m2
   cases m2
 ·rcases R with _ | ⟨c, _ | ⟨d, R⟩⟩
  ·simp [start, ofC]
  ·simp [start, ofC]
  ·exfalso
   obtain ⟨a1, a2⟩ := List.pairwise_cons.1 (show asc (pos n c :: poss n (d :: R)) from ha)
   obtain ⟨b1, b2⟩ := List.pairwise_cons.1 (show asc (pos n d :: poss n R) from a2)
   have hcd := a1 (pos n d) (by simp [poss])
   have m1 : mem true (poss n (c :: d :: R)) (pos n c) = false := by
    show mem true (pos n c :: pos n d :: poss n R) _ = false
    rw [mem_cons, if_neg (qc _), mem_cons, if_pos hcd]; rfl
   have m3 : mem true (poss n (c :: d :: R)) (pos n d) = true := by
    show mem true (pos n c :: pos n d :: poss n R) _ = true
    rw [mem_cons, if_neg (wn hcd), mem_cons, if_neg (qc _), uo b1]; rfl
   rw [h2 rfl _ _ hcd m3] at m1
   cases m1
structure One (n : Int) (a : List Itv) : Prop where
 ok : Ok n a
 one : a.length ≤ 1
theorem One.and {n : Int} {a b : List Itv} (ha : One n a) (hb : One n b) : One n (opL n andF a b) := by
 have h : (opL n andF a b).length ≤ 1 := by
  have ca := zkc ha.ok ha.one
  have cb := zkc hb.ok hb.one
  have hco := zap andF ha.ok hb.ok
  have both : ∀ q, mem (andF (zq a) (zq b)) (poss n (comb n andF (zq a) (zq b) (andF (zq a) (zq b)) (zh a) (zh b))) q = true ↔ inS n a q = true ∧ inS n b q = true := fun q => by
   rw [hco.val]
   show andF (inS n a q) (inS n b q) = true ↔ _
   unfold andF
   rw [Bool.and_eq_true]
  refine zsp hco.asc (fun p q r h1 h2 h3 h4 => ?_) (fun hx q r h1 h2 => ?_)
  ·rw [both] at h3 h4 ⊢
   exact ⟨ca.1 p q r h1 h2 h3.1 h4.1, cb.1 p q r h1 h2 h3.2 h4.2⟩
  ·rw [both] at h2 ⊢
   unfold andF at hx
   rw [Bool.and_eq_true] at hx
   exact ⟨ca.2 hx.1 q r h1 h2.1, cb.2 hx.2 q r h1 h2.2⟩
 exact ⟨zjo _ ha.ok hb.ok (by omega), h⟩
theorem one_nil {n : Int} (h : scheme n = true) : One n [] := ⟨zd9 h, by simp⟩
theorem zja {n : Int} (h : scheme n = true) : One n [noI] := ⟨ok_all h, by simp⟩
theorem One.few {n : Int} {a : List Itv} (h : One n a) : Few n a 2 := ⟨h.ok, by have := zac a; have := h.one; omega⟩
theorem zn1 {n : Int} (hn : scheme n = true) : ∀ {l : List Bs} {out r : List Itv}, One n out → xn n out l = some r → One n r
 | [], out, r, h, e => by cases e; exact h
 | c :: l, out, r, h, e => by
  unfold xn at e
  split at e
  ·cases e
  ·rename_i x hx
   exact zn1 hn (h.and ⟨zkd hn hx, by simp⟩) e
theorem altP_one {n : Int} (hn : scheme n = true) {s : Bs} {r : List Itv} (e : altP n s = some r) : One n r := by
 unfold altP at e
 split at e
 ·cases e; exact one_nil hn
 ·split at e
  ·cases e; exact zja hn
  ·exact zn1 hn (zja hn) e
theorem zez {n : Int} (hn : scheme n = true) : ∀ {l : List Bs} {xs : List (List Itv)}, xt n l = some xs → xs.length = l.length ∧ ∀ x ∈ xs, One n x
 | [], xs, e => by cases e; exact ⟨rfl, fun x hx => by cases hx⟩
 | s :: l, xs, e => by
  unfold xt at e
  split at e
  ·cases e
  ·rename_i x hx
   split at e
   ·cases e
   ·rename_i ys hys
    cases e
    obtain ⟨i1, i2⟩ := zez hn hys
    refine ⟨by rw [List.length_cons, List.length_cons, i1], fun y hy => ?_⟩
    rcases List.mem_cons.1 hy with rfl | hy
    ·exact altP_one hn hx
    ·exact i2 y hy
theorem zl2 {n : Int} : ∀ {xs : List (List Itv)} {out r : List Itv}, Ok n out → (∀ x ∈ xs, One n x) → ja n out xs = some r → Ok n r
 | [], out, r, h, _, e => by cases e; exact h
 | x :: xs, out, r, h, hx, e => by
  unfold ja at e
  split at e
  ·rename_i h32
   exact zl2 (zjo _ h (hx x (by simp)).ok h32) (fun y hy => hx y (by simp [hy])) e
  ·cases e
theorem zr8 {n : Int} {s : Bs} {l : List Itv} (h : (yy n s).1 = some l) : Ok n l ∧ (yy n s).2 = 0 := by
 unfold yy at h ⊢
 split at h
 ·rename_i hn
  rw [if_pos hn]
  split at h
  ·rename_i hl
   rw [if_pos hl]
   split at h
   ·cases h
   ·rename_i xs hxs
    split at h
    ·cases h
    ·rename_i u hu
     cases h
     exact ⟨zl2 (zd9 hn) (zez hn hxs).2 hu, rfl⟩
  ·cases h
 ·cases h
theorem zph {n : Int} (f : Bool → Bool → Bool) {a b c : List Itv} (ha : Ok n a) (hb : Ok n b) (hc : Ok n c) (h1 : zq c = f (zq a) (zq b)) (h2 : ∀ q, inS n c q = f (inS n a q) (inS n b q)) (h3 : ∀ e ∈ zh c, Least n (zh a ++ zh b) e) : opL n f a b = c := by
 have hco := zap f ha hb
 have e : comb n f (zq a) (zq b) (f (zq a) (zq b)) (zh a) (zh b) = zh c := by
  refine zdq (L := zh a ++ zh b) (zo1 (x := f (zq a) (zq b)) hco.asc hc.asc (fun q => ?_)) (uw ha.sch f _ _ _ _ _ _ (Nat.le_refl _) ha.cuts hb.cuts ha.asc hb.asc) h3
  rw [hco.val]
  have := h2 q
  unfold inS at this
  rw [← h1]
  exact this.symm
 unfold opL
 rw [e, ← h1]
 exact hc.norm
theorem zue {n : Int} : ∀ (L : List Cut), asc (poss n L) → ∀ c, c ∈ L → ∀ d, d ∈ L → pos n d = pos n c → d = c
 | [], _, c, hc, _, _, _ => by cases hc
 | e :: L, h, c, hc, d, hd, hp => by
  obtain ⟨a1, a2⟩ := List.pairwise_cons.1 (show asc (pos n e :: poss n L) from h)
  rcases List.mem_cons.1 hc with e1 | g1
  ·rcases List.mem_cons.1 hd with e2 | g2
   ·rw [e1, e2]
   ·have := a1 _ (List.mem_map.2 ⟨d, g2, rfl⟩)
    rw [hp, e1] at this
    exact absurd this (qc _)
  ·rcases List.mem_cons.1 hd with e2 | g2
   ·have := a1 _ (List.mem_map.2 ⟨c, g1, rfl⟩)
    rw [← hp, e2] at this
    exact absurd this (qc _)
   ·exact zue L a2 c g1 d g2 hp
theorem zg1 {n : Int} {L : List Cut} (h : asc (poss n L)) : ∀ c ∈ L, Least n L c := fun c hc =>
 ⟨hc, fun d hd hp => by rw [zue L h c hc d hd hp, ul]; omega⟩
end Go.Proofs.YtiloljoancdcbaaGreatDoor.V
namespace Go.Proofs.YtiloljoancdcbaaGreatDoor.V
def chkP (n : Int) (a : List Itv) (m : Int) (b : List Itv) : Int := if okR n a && okR m b then (if n = m then 0 else 14) else 1
def limP (n : Int) (l : List Itv) : Int × List Itv × Int := if l.length ≤ 32 then (n, l, 0) else (0, [], 3)
def opP (f : Bool → Bool → Bool) (n : Int) (a : List Itv) (m : Int) (b : List Itv) : Int × List Itv × Int := if chkP n a m b = 0 then limP n (opL n f a b) else (0, [], chkP n a m b)
theorem zve {n m : Int} {a b : List Itv} (h : chkP n a m b = 0) : Ok n a ∧ Ok n b ∧ n = m := by
 unfold chkP at h
 split at h
 ·rename_i h1
  rw [Bool.and_eq_true] at h1
  split at h
  ·rename_i h2
   subst h2
   exact ⟨zca h1.1, zca h1.2, rfl⟩
  ·cases h
 ·cases h
theorem zpa {n : Int} {a b : List Itv} (ha : Ok n a) (hb : Ok n b) : chkP n a n b = 0 := by
 unfold chkP
 rw [of_ok ha, of_ok hb]
 simp
theorem opP_few {n : Int} {a b : List Itv} {j k : Nat} (f : Bool → Bool → Bool) (ha : Few n a j) (hb : Few n b k) (h : j + k ≤ 31) : opP f n a n b = (n, opL n f a b, 0) := by
 unfold opP limP
 rw [if_pos (zpa ha.ok hb.ok), if_pos (ha.op hb f h).len]
end Go.Proofs.YtiloljoancdcbaaGreatDoor.V
namespace Go.Proofs.YtiloljoancdcbaaGreatDoor.V
theorem zke : ∀ {t : Bs} (r : Bs), (124 : UInt8) ∉ t → Lib.index (t ++ (orT ++ r)) orT = (t.length : Int)
 | [], r, _ => by
  show Lib.index (32 :: 124 :: 124 :: 32 :: r) orT = 0
  unfold Lib.index
  simp [orT, List.isPrefixOf]
 | [b], r, h => by
  rw [List.mem_singleton] at h
  show Lib.index (b :: (orT ++ r)) orT = 1
  unfold Lib.index
  have h1 : orT.isPrefixOf (b :: (orT ++ r)) = false := by simp [orT, List.isPrefixOf]
  have h2 := zke (t := []) r (by simp)
  rw [List.nil_append] at h2
  rw [h1, h2]
  simp
 | b :: c :: t, r, h => by
  rw [List.mem_cons, List.mem_cons, not_or, not_or] at h
  have h2 := zke (t := c :: t) r (by rw [List.mem_cons, not_or]; exact ⟨h.2.1, h.2.2⟩)
  have h1 : orT.isPrefixOf (b :: c :: t ++ (orT ++ r)) = false := by
   have hc : ((124 : UInt8) == c) = false := by simpa using h.2.1
   simp [orT, List.isPrefixOf, hc]
  rw [List.cons_append]
  unfold Lib.index
  rw [← List.cons_append, h1, h2]
  have h3 : (((c :: t).length : Int) == -1) = false := by rw [beq_eq_false_iff_ne]; omega
  rw [h3]
  simp
theorem zrc : ∀ {t : Bs}, (124 : UInt8) ∉ t → Lib.index t orT = -1
 | [], _ => rfl
 | [b], _ => by
  unfold Lib.index
  simp [orT, List.isPrefixOf, Lib.index]
 | b :: c :: t, h => by
  rw [List.mem_cons, List.mem_cons, not_or, not_or] at h
  have h2 := zrc (t := c :: t) (by rw [List.mem_cons, not_or]; exact ⟨h.2.1, h.2.2⟩)
  have h1 : orT.isPrefixOf (b :: c :: t) = false := by
   have hc : ((124 : UInt8) == c) = false := by simpa using h.2.1
   simp [orT, List.isPrefixOf, hc]
  unfold Lib.index
  rw [h1, h2]
  simp
theorem zfi : ∀ (r : List Bs) (x : Bs), (∀ y ∈ x :: r, (124 : UInt8) ∉ y) → Lib.split (Lib.join (x :: r) orT) orT = x :: r
 | [], x, h => by
  rw [Lib.join_one]
  unfold Lib.split
  rw [Lib.count_miss (zrc (h x (by simp)))]
  rfl
 | y :: r, x, h => by
  have ih := zfi r y (fun z hz => h z (List.mem_cons_of_mem _ hz))
  have e : Lib.join (x :: y :: r) orT = x ++ (orT ++ Lib.join (y :: r) orT) := by
   rw [Lib.join_cons, Lib.join_cons]
   simp [Lib.joinTail, List.append_assoc]
  have hi := zke (t := x) (Lib.join (y :: r) orT) (h x (by simp))
  rw [e]
  unfold Lib.split at ih ⊢
  rw [Lib.count_hit (by simp [orT]) hi, Nat.add_comm]
  unfold Lib.splitK
  have hne : ¬ (Lib.index (x ++ (orT ++ Lib.join (y :: r) orT)) orT == -1) = true := by rw [hi, beq_iff_eq]; omega
  rw [if_neg hne, hi]
  have ed : (x ++ (orT ++ Lib.join (y :: r) orT)).drop (x.length + orT.length) = Lib.join (y :: r) orT := by
   rw [← List.append_assoc, List.drop_left' (by simp)]
  simp only [Int.toNat_natCast, Nat.add_zero]
  rw [ed, ih, List.take_left' rfl]
def opT (k : Nat) : Bs := if k = 0 then [62, 61] else if k = 1 then [60, 61] else if k = 2 then [61] else if k = 3 then [60] else [62]
theorem valid_len {n : Int} {v : Bs} (h : valid n v = true) : 1 ≤ v.length ∧ v.length ≤ 64 := by
 unfold valid at h
 rw [Bool.and_eq_true, Bool.and_eq_true] at h
 exact ⟨by simpa using h.1.1, by simpa using h.1.2⟩
theorem opOf_op {n : Int} {v : Bs} {k : Nat} (hk : k < 5) (hv : valid n v = true) : opOf (opT k ++ v) = some (k, v) := by
 have hl := (valid_len hv).1
 have h61 : (61 : UInt8) ∉ v := zes hv (by decide +kernel)
 obtain ⟨b, u, rfl⟩ : ∃ b u, v = b :: u := by
  rcases v with _ | ⟨b, u⟩
  ·simp at hl
  ·exact ⟨b, u, rfl⟩
 have hb : ¬ b = 61 := fun e => h61 (by rw [e]; simp)
 have h5 : k = 0 ∨ k = 1 ∨ k = 2 ∨ k = 3 ∨ k = 4 := by omega
 rcases h5 with rfl | rfl | rfl | rfl | rfl <;> simp [opOf, opT, hb]
theorem zln {n : Int} {v : Bs} {k : Nat} (hk : k < 5) (hv : valid n v = true) : jp n (opT k ++ v) = some (kf k v) := by
 unfold jp
 rw [opOf_op hk hv]
 simp [hv]
theorem zd7 {n : Int} {v : Bs} {k : Nat} (hv : valid n v = true) {c : UInt8} (hc : verB c = false) (h1 : c ≠ 60) (h2 : c ≠ 61) (h3 : c ≠ 62) : c ∉ opT k ++ v := by
 have := zes hv hc
 rw [List.mem_append, not_or]
 refine ⟨?_, this⟩
 unfold opT
 repeat' split
 all_goals simp [h1, h2, h3]
theorem zty {v : Bs} (k : Nat) : ∃ b u, opT k ++ v = b :: u ∧ b ≠ 110 ∧ b ≠ 42 := by
 unfold opT
 repeat' split
 all_goals exact ⟨_, _, rfl, by decide, by decide⟩
theorem zlh {n : Int} {v : Bs} (k : Nat) (hv : valid n v = true) : (opT k ++ v).length ≤ 66 := by
 have := (valid_len hv).2
 unfold opT
 rw [List.length_append]
 repeat' split
 all_goals (simp; omega)
theorem zhz {c : UInt8} : ∀ {a : Bs} (b : Bs), c ∉ a → zd c (a ++ c :: b) = a :: zd c b
 | [], b, _ => by simp [zd]
 | d :: a, b, h => by
  rw [List.mem_cons, not_or] at h
  have h1 : (d == c) = false := by simpa using fun e => h.1 e.symm
  rw [List.cons_append, zd, h1, zhz b h.2]
  simp
theorem ztp {n : Int} {a : List Itv} (ha : Ok n a) : opL n andF [noI] a = a := by
 refine zph andF (ok_all ha.sch) ha ha ?_ (fun q => ?_) (fun e he => ?_)
 ·show _ = (zq [noI] && zq a)
  rw [show zq [noI] = true from rfl, Bool.true_and]
 ·show _ = (inS n [noI] q && inS n a q)
  rw [show inS n [noI] q = true from rfl, Bool.true_and]
 ·exact zg1 (L := zh [noI] ++ zh a) (show asc (poss n (zh a)) from ha.asc) e he
theorem zpd {n : Int} {x : Itv} (h : Ok n [x]) (q : Pos) : inS n [x] q = inI n q x := by
 rw [zc3 h.sch q h.bnd h.ord]; simp
theorem and_two {n : Int} {x : Itv} (hx : Ok n [x]) (hl : x.lk ≠ 0) (hh : x.hk ≠ 0) (ha : Ok n [⟨x.lo, x.lk, [], 0⟩]) (hb : Ok n [⟨[], 0, x.hi, x.hk⟩]) :
  opL n andF [⟨x.lo, x.lk, [], 0⟩] [⟨[], 0, x.hi, x.hk⟩] = [x] := by
 have hcut : zh [(⟨x.lo, x.lk, [], 0⟩ : Itv)] ++ zh [(⟨[], 0, x.hi, x.hk⟩ : Itv)] = zh [x] := by
  simp [zh, hl, hh, Itv.low, Itv.high]
 refine zph andF ha hb hx ?_ (fun q => ?_) (fun e he => ?_)
 ·simp [zq, andF, hl]
 ·rw [zpd ha, zpd hb, zpd hx]
  simp only [inI, andF, hl, hh, Itv.low, Itv.high, decide_true, decide_false, Bool.false_or, Bool.true_or, Bool.and_true, Bool.true_and]
  rfl
 ·rw [hcut]
  exact zg1 hx.asc e he
theorem zjw {n : Int} {v : Bs} {k : Nat} (hk : k < 5) (hn : scheme n = true) (hv : valid n v = true) : altP n (opT k ++ v) = some [kf k v] := by
 obtain ⟨b, u, e, h1, h2⟩ := zty (v := v) k
 unfold altP
 rw [if_neg (by rw [e]; simp [zcu, h1]), if_neg (by rw [e]; simp [h2]), jy (zd7 hv (by decide +kernel) (by decide) (by decide) (by decide))]
 unfold xn xn
 rw [zln hk hv]
 simp only
 rw [ztp (zd6 hn hv)]
theorem zu5 {n : Int} {v u : Bs} {k j : Nat} (hk : k < 5) (hj : j < 5) (hn : scheme n = true) (hv : valid n v = true) (hu : valid n u = true) : altP n (opT k ++ v ++ 32 :: (opT j ++ u)) = some (opL n andF [kf k v] [kf j u]) := by
 obtain ⟨b, t, e, h1, h2⟩ := zty (v := v) k
 unfold altP
 rw [if_neg (by rw [e]; simp [zcu, h1]), if_neg (by rw [e]; simp [h2]), zhz _ (zd7 hv (by decide +kernel) (by decide) (by decide) (by decide)), jy (zd7 hu (by decide +kernel) (by decide) (by decide) (by decide))]
 unfold xn xn xn
 rw [zln hk hv, zln hj hu]
 simp only
 rw [ztp (zd6 hn hv)]
theorem low_cond {n : Int} {x : Itv} (h : zj n x = true) (hl : x.lk ≠ 0) : ∃ k, k < 5 ∧ valid n x.lo = true ∧ lowT x = [opT k ++ x.lo] ∧ kf k x.lo = ⟨x.lo, x.lk, [], 0⟩ := by
 have hv : valid n x.lo = true := xw h hl
 unfold zj at h
 rw [Bool.and_eq_true] at h
 rcases (xe h.1 hl).1 with e | e
 ·exact ⟨0, by omega, hv, by simp [lowT, e, opT], by simp [kf, e]⟩
 ·exact ⟨4, by omega, hv, by simp [lowT, e, opT], by simp [kf, e]⟩
theorem zmw {n : Int} {x : Itv} (h : zj n x = true) (hl : x.hk ≠ 0) : ∃ k, k < 5 ∧ valid n x.hi = true ∧ ub x = [opT k ++ x.hi] ∧ kf k x.hi = ⟨[], 0, x.hi, x.hk⟩ := by
 have hv : valid n x.hi = true := ju h hl
 unfold zj at h
 rw [Bool.and_eq_true] at h
 rcases (xe h.2 hl).1 with e | e
 ·exact ⟨1, by omega, hv, by simp [ub, e, opT], by simp [kf, e]⟩
 ·exact ⟨3, by omega, hv, by simp [ub, e, opT], by simp [kf, e]⟩
theorem low_none {n : Int} {x : Itv} (h : zj n x = true) (hl : x.lk = 0) : x.lo = [] ∧ lowT x = [] := by
 unfold zj at h
 rw [Bool.and_eq_true] at h
 exact ⟨zcp h.1 hl, by simp [lowT, hl]⟩
theorem zng {n : Int} {x : Itv} (h : zj n x = true) (hl : x.hk = 0) : x.hi = [] ∧ ub x = [] := by
 unfold zj at h
 rw [Bool.and_eq_true] at h
 exact ⟨zcp h.2 hl, by simp [ub, hl]⟩
structure Back (n : Int) (x : Itv) : Prop where
 alt : altP n (zv x) = some [x]
 bar : (124 : UInt8) ∉ zv x
 len : (zv x).length ≤ 133
theorem zg7 {n : Int} {x : Itv} (h : Ok n [x]) : Back n x := by
 have hn := h.sch
 have hb := h.bnd x (by simp)
 by_cases hl : x.lk = 0
 ·obtain ⟨e1, e2⟩ := low_none hb hl
  by_cases hh : x.hk = 0
  ·obtain ⟨e3, e4⟩ := zng hb hh
   have e : x = noI := by cases x; simp_all [noI]
   have et : zv x = [42] := by unfold zv; rw [if_pos ⟨hl, hh⟩]
   exact ⟨by rw [et, e]; rfl, by rw [et]; decide, by rw [et]; decide⟩
  ·obtain ⟨k, hk, hv, e3, e4⟩ := zmw hb hh
   have et : zv x = opT k ++ x.hi := by
    unfold zv
    rw [if_neg (fun g => hh g.2), if_neg (fun g => by have := g.1; omega), e2, e3, List.nil_append, Lib.join_one]
   have e : (⟨[], 0, x.hi, x.hk⟩ : Itv) = x := by cases x; simp_all
   exact ⟨by rw [et, zjw hk hn hv, e4, e], by rw [et]; exact zd7 hv (by decide +kernel) (by decide) (by decide) (by decide), by rw [et]; have := zlh k hv; omega⟩
 ·obtain ⟨k, hk, hv, e1, e2⟩ := low_cond hb hl
  by_cases hh : x.hk = 0
  ·obtain ⟨e3, e4⟩ := zng hb hh
   have et : zv x = opT k ++ x.lo := by
    unfold zv
    rw [if_neg (fun g => hl g.1), if_neg (fun g => by have := g.2.1; omega), e1, e4, List.append_nil, Lib.join_one]
   have e : (⟨x.lo, x.lk, [], 0⟩ : Itv) = x := by cases x; simp_all
   exact ⟨by rw [et, zjw hk hn hv, e2, e], by rw [et]; exact zd7 hv (by decide +kernel) (by decide) (by decide) (by decide), by rw [et]; have := zlh k hv; omega⟩
  ·by_cases hq : x.lk = 1 ∧ x.hk = 1 ∧ x.lo = x.hi
   ·have et : zv x = opT 2 ++ x.lo := by
     unfold zv
     rw [if_neg (fun g => hl g.1), if_pos hq]
     rfl
    have e : kf 2 x.lo = x := by
     obtain ⟨q1, q2, q3⟩ := hq
     cases x; simp_all [kf]
    exact ⟨by rw [et, zjw (by omega) hn hv, e], by rw [et]; exact zd7 hv (by decide +kernel) (by decide) (by decide) (by decide), by rw [et]; have := zlh 2 hv; omega⟩
   ·obtain ⟨j, hj, hu, e3, e4⟩ := zmw hb hh
    have et : zv x = opT k ++ x.lo ++ 32 :: (opT j ++ x.hi) := by
     unfold zv
     rw [if_neg (fun g => hl g.1), if_neg hq, e1, e3]
     show Lib.join [_, _] [32] = _
     rw [Lib.join_cons]
     simp [Lib.joinTail]
    have a1 := zd6 (k := k) hn hv
    have a2 := zd6 (k := j) hn hu
    rw [e2] at a1
    rw [e4] at a2
    refine ⟨by rw [et, zu5 hk hj hn hv hu, e2, e4, and_two h hl hh a1 a2], ?_, ?_⟩
    ·rw [et]
     have b1 := zd7 (k := k) hv (c := 124) (by decide +kernel) (by decide) (by decide) (by decide)
     have b2 := zd7 (k := j) hu (c := 124) (by decide +kernel) (by decide) (by decide) (by decide)
     rw [List.mem_append, List.mem_cons, not_or, not_or]
     exact ⟨b1, by decide, b2⟩
    ·rw [et]
     have b1 := zlh k hv
     have b2 := zlh j hu
     rw [List.length_append, List.length_cons]
     omega
theorem ok_pre {n : Int} {a b : List Itv} (h : Ok n (a ++ b)) : Ok n a := by
 refine ⟨h.sch, by have := h.len; rw [List.length_append] at this; omega, fun x hx => h.bnd x (by simp [hx]), zs8 (fun k hk => ?_)⟩
 have := zkw h.ord k (by rw [List.length_append]; omega)
 unfold okAt at this ⊢
 have e : ∀ j, j ≤ k → (a ++ b).getD j noI = a.getD j noI := fun j hj => by
  rw [List.getD_eq_getElem?_getD, List.getD_eq_getElem?_getD, List.getElem?_append_left (by omega)]
 rwa [e k (by omega), e (k - 1) (by omega)] at this
theorem zpq {n : Int} {a : List Itv} (h : Ok n a) {x : Itv} (hx : x ∈ a) : Ok n [x] := by
 obtain ⟨k, hk, rfl⟩ := List.getElem_of_mem hx
 have := zkw h.ord k hk
 unfold okAt at this
 rw [Bool.and_eq_true] at this
 refine ⟨h.sch, by simp, fun y hy => by rw [List.mem_singleton.1 hy]; exact h.bnd _ hx, ⟨?_, ⟨(fun z hz => by cases hz), trivial⟩⟩⟩
 have := this.1
 rwa [List.getD_eq_getElem?_getD, List.getElem?_eq_getElem hk] at this
theorem ztc {n : Int} {a : List Itv} {x : Itv} (h : Ok n (a ++ [x])) : opL n orF a [x] = a ++ [x] := by
 have ha := ok_pre h
 have hx := zpq h (x := x) (by simp)
 refine zph orF ha hx h ?_ (fun q => ?_) (fun e he => ?_)
 ·unfold zq orF; rw [List.any_append]
 ·rw [zc3 h.sch q h.bnd h.ord, zc3 ha.sch q ha.bnd ha.ord, zc3 hx.sch q hx.bnd hx.ord, List.any_append]
  rfl
 ·rw [← wv]
  exact zg1 h.asc e he
theorem zlp {n : Int} : ∀ (r a : List Itv), Ok n (a ++ r) → ja n a (r.map fun x => [x]) = some (a ++ r)
 | [], a, _ => by simp [ja]
 | x :: r, a, h => by
  have h1 : Ok n (a ++ [x] ++ r) := by rw [List.append_assoc]; exact h
  have h2 := ok_pre h1
  rw [List.map_cons]
  unfold ja
  rw [ztc h2, if_pos h2.len, zlp r (a ++ [x]) h1, List.append_assoc]
  rfl
theorem zm3 {n : Int} : ∀ (l : List Itv), (∀ x ∈ l, Back n x) → xt n (l.map zv) = some (l.map fun x => [x])
 | [], _ => rfl
 | x :: l, h => by
  rw [List.map_cons, List.map_cons]
  unfold xt
  rw [(h x (by simp)).alt, zm3 l (fun y hy => h y (by simp [hy]))]
theorem lens_le {l : List Bs} {m : Nat} : (∀ x ∈ l, x.length ≤ m) → Lib.lens l ≤ l.length * m := by
 intro h
 induction l with
 | nil => simp [Lib.lens]
 | cons x l ih =>
  have h1 := h x (by simp)
  have h2 := ih (fun y hy => h y (by simp [hy]))
  unfold Lib.lens at h2 ⊢
  rw [List.map_cons, List.sum_cons, List.length_cons, Nat.add_mul]
  omega
theorem zo6 {r : List Bs} {x : Bs} {m : Nat} (h : ∀ y ∈ x :: r, y.length ≤ m) : (Lib.join (x :: r) orT).length ≤ (r.length + 1) * (m + 4) := by
 have h1 := lens_le h
 rw [Lib.join_length]
 rw [List.length_cons] at h1
 rw [show orT.length = 4 from rfl]
 have : (r.length + 1) * (m + 4) = (r.length + 1) * m + (r.length + 1) * 4 := Nat.mul_add _ _ _
 omega
theorem nil_nil {n : Int} (h : scheme n = true) : opL n orF [] [] = [] := zph orF (zd9 h) (zd9 h) (zd9 h) rfl (fun q => rfl) (fun e he => by cases he)
theorem zsg {n : Int} {l : List Itv} (h : Ok n l) : yy n (xl l) = (some l, 0) := by
 have hn := h.sch
 rcases l with _ | ⟨x, r⟩
 ·unfold yy
  rw [if_pos hn, if_pos (by decide)]
  have e : Lib.split (xl []) orT = [zcu] := by
   have := zfi [] zcu (by decide)
   rwa [Lib.join_one] at this
  rw [e]
  have e2 : xt n [zcu] = some [[]] := rfl
  rw [e2]
  simp only
  unfold ja ja
  rw [nil_nil hn]
  rfl
 ·have hb : ∀ y ∈ x :: r, Back n y := fun y hy => zg7 (zpq h hy)
  have e : xl (x :: r) = Lib.join (zv x :: r.map zv) orT := rfl
  have hbar : ∀ y ∈ zv x :: r.map zv, (124 : UInt8) ∉ y := by
   intro y hy
   rw [← List.map_cons (f := zv), List.mem_map] at hy
   obtain ⟨z, hz, rfl⟩ := hy
   exact (hb z hz).bar
  have hle : ∀ y ∈ zv x :: r.map zv, y.length ≤ 133 := by
   intro y hy
   rw [← List.map_cons (f := zv), List.mem_map] at hy
   obtain ⟨z, hz, rfl⟩ := hy
   exact (hb z hz).len
  have h1 := zo6 hle
  have h2 := h.len
  rw [List.length_map] at h1
  rw [List.length_cons] at h2
  unfold yy
  rw [if_pos hn, e, if_pos (by omega), zfi _ _ hbar, ← List.map_cons (f := zv), zm3 _ hb]
  have := zlp (n := n) (x :: r) [] h
  simp only [this, List.nil_append]
end Go.Proofs.YtiloljoancdcbaaGreatDoor.V
namespace Go.Proofs.YtiloljoancdcbaaGreatDoor.V
def uu (x : Bs) : Bool := !(x == []) && !(x == [46]) && !(x == [46, 46])
def vu (s : Bs) : Bool := (zd 47 s).all uu
def xi (s : Bs) : Bool := decide (1 ≤ s.length) && decide (s.length ≤ 200) && !decide ((0 : UInt8) ∈ s) && vu s
theorem zsy {s : Bs} (h : (47 : UInt8) ∉ s) : vu s = uu s := by
 unfold vu; rw [jy h]; simp
theorem zsr {s : Bs} (h : (47 : UInt8) ∈ s) : vu s = (uu (s.takeWhile (· != 47)) && vu (s.drop ((s.takeWhile (· != 47)).length + 1))) := by
 unfold vu; rw [vr h]; simp
theorem zvh (s : Bs) : vu s = if (cut1 47 s).2.2 then uu (cut1 47 s).1 && vu (cut1 47 s).2.1 else uu (cut1 47 s).1 := by
 unfold cut1
 by_cases h : (47 : UInt8) ∈ s
 ·rw [if_pos h]; simp only [if_true]; exact zsr h
 ·rw [if_neg h]; simp only [Bool.false_eq_true, if_false]; exact zsy h
theorem zgi (x : Bs) : (x = [] ∧ uu x = false) ∨ (x = [46] ∧ uu x = false) ∨ (x = [46, 46] ∧ uu x = false) ∨ ((x == []) = false ∧ (x == [46]) = false ∧ (x == [46, 46]) = false ∧ uu x = true) := by
 unfold uu
 by_cases h1 : x = []
 ·subst h1; exact .inl ⟨rfl, rfl⟩
 ·by_cases h2 : x = [46]
  ·subst h2; exact .inr (.inl ⟨rfl, rfl⟩)
  ·by_cases h3 : x = [46, 46]
   ·subst h3; exact .inr (.inr (.inl ⟨rfl, rfl⟩))
   ·have e1 : (x == []) = false := beq_eq_false_iff_ne.2 h1
    have e2 : (x == [46]) = false := beq_eq_false_iff_ne.2 h2
    have e3 : (x == [46, 46]) = false := beq_eq_false_iff_ne.2 h3
    exact .inr (.inr (.inr ⟨e1, e2, e3, by rw [e1, e2, e3]; rfl⟩))
end Go.Proofs.YtiloljoancdcbaaGreatDoor.V
namespace Go.Proofs.YtiloljoancdcbaaGreatDoor.V
end Go.Proofs.YtiloljoancdcbaaGreatDoor.V
namespace Go.Proofs.YtiloljoancdcbaaGreatDoor.V
def qb (n : Int) : Bs := if n = 1 then [115, 101, 109, 118, 101, 114] else if n = 2 then [100, 101, 98, 105, 97, 110] else if n = 3 then [100, 111, 116, 116, 101, 100] else []
def qh (s : Bs) : Int := if s = qb 1 then 1 else if s = qb 2 then 2 else if s = qb 3 then 3 else 0
theorem zhv {n : Int} (h : n = 1 ∨ n = 2 ∨ n = 3) : qh (qb n) = n := by
 rcases h with rfl | rfl | rfl <;> decide
theorem zmt {s : Bs} {k : Nat} (h1 : 1 ≤ k) (h3 : k ≤ 3) (he : s = qb k) : qh s = k := by
 subst he; exact zhv (by omega)
theorem znz {s : Bs} (h : ∀ j : Nat, 1 ≤ j → j < 4 → ¬ s = qb j) : qh s = 0 := by
 have a : ¬ s = qb 1 := h 1 (by omega) (by omega)
 have b : ¬ s = qb 2 := h 2 (by omega) (by omega)
 have c : ¬ s = qb 3 := h 3 (by omega) (by omega)
 unfold qh; rw [if_neg a, if_neg b, if_neg c]
theorem zd8 (n : Int) : (qb n).length ≤ 6 := by
 unfold qb
 repeat' split
 all_goals decide
end Go.Proofs.YtiloljoancdcbaaGreatDoor.V
namespace Go.Proofs.YtiloljoancdcbaaGreatDoor
namespace V
def nmA (c : UInt8) : Bool := (decide (97 ≤ c.toNat) && decide (c.toNat ≤ 122)) || (decide (48 ≤ c.toNat) && decide (c.toNat ≤ 57))
def nmP (c : UInt8) : Bool := decide (c.toNat = 46) || (decide (c.toNat = 95) || decide (c.toNat = 45))
def nmAt (j : Nat) (c : UInt8) : Bool := nmA c || (decide (0 < j) && nmP c)
def NameP (s : Bs) : Prop := 1 ≤ s.length ∧ s.length ≤ 64 ∧ ∀ j (h : j < s.length), nmAt j s[j] = true
instance (s : Bs) : Decidable (NameP s) := by unfold NameP; infer_instance
def xz (s : Bs) : Bool := decide (NameP s)
theorem zpl {s : Bs} {k : Nat} (hk : k < s.length) (h : nmAt k s[k] = false) : xz s = false := decide_eq_false fun hp => by rw [hp.2.2 k hk] at h; cases h
theorem name_len {s : Bs} (h : xz s = true) : 1 ≤ s.length ∧ s.length ≤ 64 := ⟨(of_decide_eq_true h).1, (of_decide_eq_true h).2.1⟩
end V
end Go.Proofs.YtiloljoancdcbaaGreatDoor
