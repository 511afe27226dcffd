/-
  Lemmas for the law.
-/
import Derived.Test.YtiloljoancdcbaaGreatDoorC38x01
import Derived.Test.YtiloljoancdcbaaGreatDoorC38x04
import Derived.Lib.Join
import Derived.Lib.Split
import Derived.Lib.CountLaws
set_option linter.all false
namespace Go.Proofs.YtiloljoancdcbaaGreatDoor.V
def verB (c : UInt8) : Bool := kind [46, 43, 126, 45, 58] c
theorem zas {P : UInt8 → Prop} (c : UInt8) (hc : P c) : ∀ l : Bs, (∀ x ∈ ze c l, ∀ b ∈ x, P b) → ∀ b ∈ l, P b
 | [], _, b, hb => by simp at hb
 | a :: l, h, b, hb => by
  unfold ze at h
  by_cases e : a = c
  ·subst e
   simp only [beq_self_eq_true, if_true] at h
   rcases List.mem_cons.1 hb with rfl | hb
   ·exact hc
   ·exact zas a hc l (fun x hx => h x (by simp [hx])) b hb
  ·rw [if_neg (by simpa using e)] at h
   rcases hs : ze c l with _ | ⟨y, r⟩
   ·exact absurd hs (zda c l)
   ·rw [hs] at h
    simp only at h
    rcases List.mem_cons.1 hb with rfl | hb
    ·exact h (b :: y) (by simp) b (by simp)
    ·exact zas c hc l (fun x hx z hz => by
       rw [hs] at hx
       rcases List.mem_cons.1 hx with rfl | hx
       · exact h (a :: x) (by simp) z (by simp [hz])
       · exact h x (by simp [hx]) z hz) b hb
theorem zrg (c : UInt8) : ∀ l : Bs, c ∈ l → l = l.takeWhile (· != c) ++ c :: l.drop ((l.takeWhile (· != c)).length + 1)
 | [], h => by simp at h
 | b :: l, h => by
  by_cases e : b = c
  ·subst e; simp
  ·have hb : (b != c) = true := by simpa using e
   have ih := zrg c l (by
     rcases List.mem_cons.1 h with h | h
     · exact absurd h.symm e
     · exact h)
   rw [List.takeWhile_cons, if_pos hb, List.length_cons, List.drop_succ_cons, List.cons_append, ← ih]
theorem znf (c : UInt8) (l : Bs) (h : (cut1 c l).2.2 = true) : l = (cut1 c l).1 ++ c :: (cut1 c l).2.1 := by
 unfold cut1 at *
 by_cases hc : c ∈ l
 ·rw [if_pos hc]; exact zrg c l hc
 ·rw [if_neg hc] at h; cases h
theorem cut_none (c : UInt8) (l : Bs) (h : (cut1 c l).2.2 = false) : (cut1 c l).1 = l := by
 unfold cut1 at *
 split
 ·rename_i hc; rw [if_pos hc] at h; cases h
 ·rfl
theorem zg2 {P : UInt8 → Prop} (c : UInt8) (hc : P c) (l : Bs) (h1 : ∀ b ∈ (cut1 c l).1, P b) (h2 : (cut1 c l).2.2 = true → ∀ b ∈ (cut1 c l).2.1, P b) : ∀ b ∈ l, P b := by
 intro b hb
 rcases h : (cut1 c l).2.2 with _ | _
 ·rw [cut_none c l h] at h1; exact h1 b hb
 ·rw [znf c l h] at hb
  rcases List.mem_append.1 hb with g | g
  ·exact h1 b g
  ·rcases List.mem_cons.1 g with rfl | g
   ·exact hc
   ·exact h2 h b g
theorem zfo {p : UInt8 → Bool} {l : Bs} (h : only p l = true) : ∀ b ∈ l, p b = true := by
 unfold only at h
 rw [Bool.and_eq_true, List.all_eq_true] at h
 exact h.1
theorem zej {o o' : Bs} (ho : ∀ c ∈ o, c ∈ o') {c : UInt8} (h : kind o c = true) : kind o' c = true := by
 unfold kind at *
 rw [Bool.or_eq_true] at *
 rcases h with h | h
 ·exact .inl h
 ·exact .inr (by simpa using ho c (by simpa using h))
theorem zop {x : Bs} {e : Bool} (h : numb x e = true) : ∀ b ∈ x, verB b = true := fun b hb => by
 unfold numb digits at h
 rw [Bool.and_eq_true] at h
 have := zfo h.1 b hb
 unfold verB kind; rw [this]; simp
theorem ident_in {x : Bs} {e : Bool} (h : ki e x = true) : ∀ b ∈ x, verB b = true := fun b hb => by
 unfold ki at h
 rw [Bool.and_eq_true] at h
 exact zej (by simp) (zfo h.1 b hb)
theorem znh {s : Bs} {e : Bool} (h : identifiers s e = true) : ∀ b ∈ s, verB b = true := by
 unfold identifiers at h
 rw [List.all_eq_true] at h
 exact zas 46 (by decide +kernel) s fun x hx => ident_in (h x hx)
theorem dot_in {s : Bs} (h : ze4 s = true) : ∀ b ∈ s, verB b = true := by
 unfold ze4 at h
 rw [List.all_eq_true] at h
 exact zas 46 (by decide +kernel) s fun x hx => zop (h x hx)
theorem sem_in {s : Bs} (h : (zo s).isSome = true) : ∀ b ∈ s, verB b = true := by
 unfold zo at h
 split at h
 ·cases h
 ·rename_i hn
  split at h
  ·rename_i ha
   rw [List.all_eq_true] at ha
   simp only [Bool.or_eq_true, Bool.and_eq_true, Bool.not_eq_true', not_or, not_and, Bool.not_eq_false] at hn
   obtain ⟨⟨h1, h2⟩, _⟩ := hn
   refine zg2 43 (by decide +kernel) s (zg2 45 (by decide +kernel) _ (zas 46 (by decide +kernel) _ fun x hx => zop (ha x hx)) fun e => znh (h2 e)) fun e => znh (h1 e)
  ·cases h
theorem zke {ep s : Bs} (h : (ji ep s).isSome = true) : ∀ b ∈ s, verB b = true := by
 unfold ji at h
 split at h
 ·split at h
  ·rename_i g
   rw [Bool.and_eq_true] at g
   exact fun b hb => zej (by simp) (zfo g.1 b hb)
  ·cases h
 ·rename_i h0
  split at h
  ·rename_i g1
   split at h
   ·rename_i g2
    rw [Bool.and_eq_true] at g2
    have e1 := fun b hb => zej (o' := [46, 43, 126, 45, 58]) (by simp) (zfo g2.1 b hb)
    have e2 := fun b hb => zej (o' := [46, 43, 126, 45, 58]) (by simp [allow]) (zfo g1 b hb)
    unfold qz at *
    rcases Lib.lastIndexByte_spec ⟨s.toArray⟩ 45 with ⟨e, _⟩ | ⟨i, hi, e, hc, _⟩
    ·rw [e] at h0; simp at h0
    ·rw [e] at e1 e2
     have hi' : i < s.length := by rw [show (ByteArray.mk s.toArray).size = s.length by show s.toArray.size = _; simp] at hi; exact hi
     intro b hb
     rw [← List.take_append_drop i s, List.drop_eq_getElem_cons hi'] at hb
     rcases List.mem_append.1 hb with q | q
     ·exact e1 b (by simpa using q)
     ·rcases List.mem_cons.1 q with rfl | q
      ·have : s[i] = 45 := by
        have e3 : (ByteArray.mk s.toArray).data[i]! = s[i] := by simp [hi']
        rw [e3] at hc
        exact UInt8.toNat_inj.1 (show s[i].toNat = 45 by omega)
       rw [this]; decide +kernel
      ·exact e2 b (by simpa using q)
   ·cases h
  ·cases h
theorem deb_in {s : Bs} (h : (zr s).isSome = true) : ∀ b ∈ s, verB b = true := by
 unfold zr at h
 split at h
 ·rename_i hc
  split at h
  ·rename_i hn
   exact zg2 58 (by decide +kernel) s (zop hn) fun _ => zke h
  ·cases h
 ·exact zke h
theorem valid_in {n : Int} {v : Bs} (h : valid n v = true) : ∀ b ∈ v, verB b = true := by
 unfold valid yy at h
 rw [Bool.and_eq_true] at h
 obtain ⟨_, h⟩ := h
 repeat' split at h
 ·exact sem_in h
 ·exact deb_in h
 ·exact dot_in h
 ·cases h
theorem zeo {n : Int} {v : Bs} (h : valid n v = true) {c : UInt8} (hc : verB c = false) : c ∉ v := fun g => by
 rw [valid_in h c g] at hc; cases hc
end Go.Proofs.YtiloljoancdcbaaGreatDoor.V
namespace Go.Proofs.YtiloljoancdcbaaGreatDoor.V
def lowT (x : Itv) : List Bs := if x.lk = 1 then [[62, 61] ++ x.lo] else if x.lk = 2 then [[62] ++ x.lo] else []
def yz (x : Itv) : List Bs := if x.hk = 1 then [[60, 61] ++ x.hi] else if x.hk = 2 then [[60] ++ x.hi] else []
def zv (x : Itv) : Bs :=
 if x.lk = 0 ∧ x.hk = 0 then [42] else if x.lk = 1 ∧ x.hk = 1 ∧ x.lo = x.hi then [61] ++ x.lo else Lib.join (lowT x ++ yz x) [32]
def zcr : Bs := [110, 111, 110, 101]
def orT : Bs := [32, 124, 124, 32]
def xj (l : List Itv) : Bs := if l.isEmpty then zcr else Lib.join (l.map zv) orT
def ye (n : Int) (l : List Itv) : Bs × Int := if okR n l then (xj l, 0) else ([], 1)
def opOf (s : Bs) : Option (Nat × Bs) :=
 if s.take 2 = [62, 61] then some (0, s.drop 2) else if s.take 2 = [60, 61] then some (1, s.drop 2) else if s.take 1 = [61] then some (2, s.drop 1) else if s.take 1 = [60] then some (3, s.drop 1) else if s.take 1 = [62] then some (4, s.drop 1) else none
def ke (k : Nat) (v : Bs) : Itv :=
 if k = 0 then ⟨v, 1, [], 0⟩ else if k = 1 then ⟨[], 0, v, 1⟩ else if k = 2 then ⟨v, 1, v, 1⟩ else if k = 3 then ⟨[], 0, v, 2⟩ else ⟨v, 2, [], 0⟩
def jk (n : Int) (s : Bs) : Option Itv := match opOf s with | none => none | some (k, v) => if valid n v then some (ke k v) else none
def xl (n : Int) (out : List Itv) : List Bs → Option (List Itv)
 | [] => some out
 | c :: r => match jk n c with | none => none | some x => xl n (opL n andF out [x]) r
def altP (n : Int) (s : Bs) : Option (List Itv) := if s = zcr then some [] else if s = [42] then some [noI] else xl n [noI] (ze 32 s)
def xx (n : Int) : List Bs → Option (List (List Itv))
 | [] => some []
 | s :: r => match altP n s with | none => none | some x => match xx n r with | none => none | some xs => some (x :: xs)
def qu (n : Int) (out : List Itv) : List (List Itv) → Option (List Itv)
 | [] => some out
 | x :: r => if (opL n orF out x).length ≤ 32 then qu n (opL n orF out x) r else none
def xr (n : Int) (s : Bs) : Option (List Itv) × Int :=
 if scheme n then (if s.length ≤ 8192 then (match xx n (Lib.split s orT) with | none => (none, 2) | some xs => match qu n [] xs with | none => (none, 3) | some l => (some l, 0)) else (none, 3)) else (none, 14)
theorem zd3 {n : Int} {k : Nat} {v : Bs} (hn : scheme n = true) (hv : valid n v = true) : Ok n [ke k v] := by
 have hc : cmpV n v v = 0 := (zun hn hv hv hv).2.1
 have hb : zj n (ke k v) = true ∧ yw n (ke k v) = true := by
  unfold ke zj jr yw
  repeat' split
  all_goals simp_all [cutC, Itv.low, Itv.high]
 exact ⟨hn, by simp, (fun x hx => by rw [List.mem_singleton.1 hx]; exact hb.1), hb.2, (fun z hz => by cases hz), trivial⟩
theorem zju {n : Int} (hn : scheme n = true) {s : Bs} {x : Itv} (h : jk n s = some x) : Ok n [x] := by
 unfold jk at h
 split at h
 ·cases h
 ·split at h
  ·cases h
   exact zd3 hn ‹_›
  ·cases h
def Convex (n : Int) (a : List Itv) : Prop := (∀ p q r, plt p q → plt q r → inS n a p = true → inS n a r = true → inS n a q = true) ∧ (zq a = true → ∀ q r, plt q r → inS n a r = true → inS n a q = true)
theorem zjt {n : Int} {a : List Itv} (ha : Ok n a) (h : a.length ≤ 1) : Convex n a := by
 rcases a with _ | ⟨x, _ | ⟨y, l⟩⟩
 ·exact ⟨(fun p q r _ _ h => by cases h), (fun h => by cases h)⟩
 ·have e : ∀ q, inS n [x] q = inI n q x := fun q => by rw [zc1 ha.sch q ha.bnd ha.ord]; simp
  constructor
  ·intro p q r h1 h2 h3 h4
   rw [e] at h3 h4 ⊢
   unfold inI at h3 h4 ⊢
   simp only [Bool.and_eq_true, Bool.or_eq_true, decide_eq_true_eq, Bool.not_eq_true', decide_eq_false_iff_not] at h3 h4 ⊢
   refine ⟨h3.1.imp id fun g gq => g (qb h1 gq), h4.2.imp id fun g => qb h2 g⟩
  ·intro hf q r h2 h4
   rw [e] at h4 ⊢
   unfold inI at h4 ⊢
   have hk : x.lk = 0 := by simpa [zq] using hf
   simp only [Bool.and_eq_true, Bool.or_eq_true, decide_eq_true_eq, Bool.not_eq_true', decide_eq_false_iff_not] at h4 ⊢
   exact ⟨.inl hk, h4.2.imp id fun g => qb h2 g⟩
 ·simp at h
theorem zsj {n : Int} {x : Bool} {R : List Cut} (ha : asc (poss n R)) (h1 : ∀ p q r, plt p q → plt q r → mem x (poss n R) p = true → mem x (poss n R) r = true → mem x (poss n R) q = true) (h2 : x = true → ∀ q r, plt q r → mem x (poss n R) r = true → mem x (poss n R) q = true) :
  (ofC (start x) R).length ≤ 1 := by
 cases x
 ·rcases R with _ | ⟨c, _ | ⟨d, _ | ⟨e, R⟩⟩⟩
  ·simp [start, ofC]
  ·simp [start, ofC]
  ·simp [start, ofC]
  ·exfalso
   obtain ⟨a1, a2⟩ := List.pairwise_cons.1 (show asc (pos n c :: poss n (d :: e :: R)) from ha)
   obtain ⟨b1, b2⟩ := List.pairwise_cons.1 (show asc (pos n d :: poss n (e :: R)) from a2)
   obtain ⟨c1, c2⟩ := List.pairwise_cons.1 (show asc (pos n e :: poss n R) from b2)
   have hcd := a1 (pos n d) (by simp [poss])
   have hde := b1 (pos n e) (by simp [poss])
   have hce := qb hcd hde
   have m1 : mem false (poss n (c :: d :: e :: R)) (pos n c) = true := by
    show mem false (pos n c :: pos n d :: pos n e :: poss n R) _ = true
    rw [mem_cons, if_neg (zz _), mem_cons, if_pos hcd]; rfl
   have m2 : mem false (poss n (c :: d :: e :: R)) (pos n d) = false := by
    show mem false (pos n c :: pos n d :: pos n e :: poss n R) _ = false
    rw [mem_cons, if_neg (wv hcd), mem_cons, if_neg (zz _), mem_cons, if_pos hde]; rfl
   have m3 : mem false (poss n (c :: d :: e :: R)) (pos n e) = true := by
    show mem false (pos n c :: pos n d :: pos n e :: poss n R) _ = true
    rw [mem_cons, if_neg (wv hce), mem_cons, if_neg (wv hde), mem_cons, if_neg (zz _), ut c1]; rfl
   rw [h1 _ _ _ hcd hde m1 m3] at m2
   cases m2
 ·rcases R with _ | ⟨c, _ | ⟨d, R⟩⟩
  ·simp [start, ofC]
  ·simp [start, ofC]
  ·exfalso
   obtain ⟨a1, a2⟩ := List.pairwise_cons.1 (show asc (pos n c :: poss n (d :: R)) from ha)
   obtain ⟨b1, b2⟩ := List.pairwise_cons.1 (show asc (pos n d :: poss n R) from a2)
   have hcd := a1 (pos n d) (by simp [poss])
   have m1 : mem true (poss n (c :: d :: R)) (pos n c) = false := by
    show mem true (pos n c :: pos n d :: poss n R) _ = false
    rw [mem_cons, if_neg (zz _), mem_cons, if_pos hcd]; rfl
   have m3 : mem true (poss n (c :: d :: R)) (pos n d) = true := by
    show mem true (pos n c :: pos n d :: poss n R) _ = true
    rw [mem_cons, if_neg (wv hcd), mem_cons, if_neg (zz _), ut b1]; rfl
   rw [h2 rfl _ _ hcd m3] at m1
   cases m1
structure One (n : Int) (a : List Itv) : Prop where
 ok : Ok n a
 one : a.length ≤ 1
theorem One.and {n : Int} {a b : List Itv} (ha : One n a) (hb : One n b) : One n (opL n andF a b) := by
 have h : (opL n andF a b).length ≤ 1 := by
  have ca := zjt ha.ok ha.one
  have cb := zjt hb.ok hb.one
  have hco := zar andF ha.ok hb.ok
  have both : ∀ q, mem (andF (zq a) (zq b)) (poss n (comb n andF (zq a) (zq b) (andF (zq a) (zq b)) (zh a) (zh b))) q = true ↔ inS n a q = true ∧ inS n b q = true := fun q => by
   rw [hco.val]
   show andF (inS n a q) (inS n b q) = true ↔ _
   unfold andF
   rw [Bool.and_eq_true]
  refine zsj hco.asc (fun p q r h1 h2 h3 h4 => ?_) (fun hx q r h1 h2 => ?_)
  ·rw [both] at h3 h4 ⊢
   exact ⟨ca.1 p q r h1 h2 h3.1 h4.1, cb.1 p q r h1 h2 h3.2 h4.2⟩
  ·rw [both] at h2 ⊢
   unfold andF at hx
   rw [Bool.and_eq_true] at hx
   exact ⟨ca.2 hx.1 q r h1 h2.1, cb.2 hx.2 q r h1 h2.2⟩
 exact ⟨zi5 _ ha.ok hb.ok (by omega), h⟩
theorem one_nil {n : Int} (h : scheme n = true) : One n [] := ⟨zd7 h, by simp⟩
theorem ziq {n : Int} (h : scheme n = true) : One n [noI] := ⟨ok_all h, by simp⟩
theorem One.few {n : Int} {a : List Itv} (h : One n a) : Few n a 2 := ⟨h.ok, by have := zah a; have := h.one; omega⟩
theorem zng {n : Int} (hn : scheme n = true) : ∀ {l : List Bs} {out r : List Itv}, One n out → xl n out l = some r → One n r
 | [], out, r, h, e => by cases e; exact h
 | c :: l, out, r, h, e => by
  unfold xl at e
  split at e
  ·cases e
  ·rename_i x hx
   exact zng hn (h.and ⟨zju hn hx, by simp⟩) e
theorem altP_one {n : Int} (hn : scheme n = true) {s : Bs} {r : List Itv} (e : altP n s = some r) : One n r := by
 unfold altP at e
 split at e
 ·cases e; exact one_nil hn
 ·split at e
  ·cases e; exact ziq hn
  ·exact zng hn (ziq hn) e
theorem zet {n : Int} (hn : scheme n = true) : ∀ {l : List Bs} {xs : List (List Itv)}, xx n l = some xs → xs.length = l.length ∧ ∀ x ∈ xs, One n x
 | [], xs, e => by cases e; exact ⟨rfl, fun x hx => by cases hx⟩
 | s :: l, xs, e => by
  unfold xx at e
  split at e
  ·cases e
  ·rename_i x hx
   split at e
   ·cases e
   ·rename_i ys hys
    cases e
    obtain ⟨i1, i2⟩ := zet hn hys
    refine ⟨by rw [List.length_cons, List.length_cons, i1], fun y hy => ?_⟩
    rcases List.mem_cons.1 hy with rfl | hy
    ·exact altP_one hn hx
    ·exact i2 y hy
theorem zlk {n : Int} : ∀ {xs : List (List Itv)} {out r : List Itv}, Ok n out → (∀ x ∈ xs, One n x) → qu n out xs = some r → Ok n r
 | [], out, r, h, _, e => by cases e; exact h
 | x :: xs, out, r, h, hx, e => by
  unfold qu at e
  split at e
  ·rename_i h32
   exact zlk (zi5 _ h (hx x (by simp)).ok h32) (fun y hy => hx y (by simp [hy])) e
  ·cases e
theorem zji {n : Int} {s : Bs} {l : List Itv} (h : (xr n s).1 = some l) : Ok n l ∧ (xr n s).2 = 0 := by
 unfold xr at h ⊢
 split at h
 ·rename_i hn
  rw [if_pos hn]
  split at h
  ·rename_i hl
   rw [if_pos hl]
   split at h
   ·cases h
   ·rename_i xs hxs
    split at h
    ·cases h
    ·rename_i u hu
     cases h
     exact ⟨zlk (zd7 hn) (zet hn hxs).2 hu, rfl⟩
  ·cases h
 ·cases h
theorem zo0 {n : Int} (f : Bool → Bool → Bool) {a b c : List Itv} (ha : Ok n a) (hb : Ok n b) (hc : Ok n c) (h1 : zq c = f (zq a) (zq b)) (h2 : ∀ q, inS n c q = f (inS n a q) (inS n b q)) (h3 : ∀ e ∈ zh c, Least n (zh a ++ zh b) e) : opL n f a b = c := by
 have hco := zar f ha hb
 have e : comb n f (zq a) (zq b) (f (zq a) (zq b)) (zh a) (zh b) = zh c := by
  refine zdl (L := zh a ++ zh b) (zom (x := f (zq a) (zq b)) hco.asc hc.asc (fun q => ?_)) (ux ha.sch f _ _ _ _ _ _ (Nat.le_refl _) ha.cuts hb.cuts ha.asc hb.asc) h3
  rw [hco.val]
  have := h2 q
  unfold inS at this
  rw [← h1]
  exact this.symm
 unfold opL
 rw [e, ← h1]
 exact hc.norm
theorem zt8 {n : Int} : ∀ (L : List Cut), asc (poss n L) → ∀ c, c ∈ L → ∀ d, d ∈ L → pos n d = pos n c → d = c
 | [], _, c, hc, _, _, _ => by cases hc
 | e :: L, h, c, hc, d, hd, hp => by
  obtain ⟨a1, a2⟩ := List.pairwise_cons.1 (show asc (pos n e :: poss n L) from h)
  rcases List.mem_cons.1 hc with e1 | g1
  ·rcases List.mem_cons.1 hd with e2 | g2
   ·rw [e1, e2]
   ·have := a1 _ (List.mem_map.2 ⟨d, g2, rfl⟩)
    rw [hp, e1] at this
    exact absurd this (zz _)
  ·rcases List.mem_cons.1 hd with e2 | g2
   ·have := a1 _ (List.mem_map.2 ⟨c, g1, rfl⟩)
    rw [← hp, e2] at this
    exact absurd this (zz _)
   ·exact zt8 L a2 c g1 d g2 hp
theorem zgp {n : Int} {L : List Cut} (h : asc (poss n L)) : ∀ c ∈ L, Least n L c := fun c hc =>
 ⟨hc, fun d hd hp => by rw [zt8 L h c hc d hd hp, um]; omega⟩
end Go.Proofs.YtiloljoancdcbaaGreatDoor.V
namespace Go.Proofs.YtiloljoancdcbaaGreatDoor.V
def chkP (n : Int) (a : List Itv) (m : Int) (b : List Itv) : Int := if okR n a && okR m b then (if n = m then 0 else 14) else 1
def limP (n : Int) (l : List Itv) : Int × List Itv × Int := if l.length ≤ 32 then (n, l, 0) else (0, [], 3)
def opP (f : Bool → Bool → Bool) (n : Int) (a : List Itv) (m : Int) (b : List Itv) : Int × List Itv × Int := if chkP n a m b = 0 then limP n (opL n f a b) else (0, [], chkP n a m b)
theorem zvf {n m : Int} {a b : List Itv} (h : chkP n a m b = 0) : Ok n a ∧ Ok n b ∧ n = m := by
 unfold chkP at h
 split at h
 ·rename_i h1
  rw [Bool.and_eq_true] at h1
  split at h
  ·rename_i h2
   subst h2
   exact ⟨wu h1.1, wu h1.2, rfl⟩
  ·cases h
 ·cases h
theorem zou {n : Int} {a b : List Itv} (ha : Ok n a) (hb : Ok n b) : chkP n a n b = 0 := by
 unfold chkP
 rw [of_ok ha, of_ok hb]
 simp
theorem opP_few {n : Int} {a b : List Itv} {j k : Nat} (f : Bool → Bool → Bool) (ha : Few n a j) (hb : Few n b k) (h : j + k ≤ 31) : opP f n a n b = (n, opL n f a b, 0) := by
 unfold opP limP
 rw [if_pos (zou ha.ok hb.ok), if_pos (ha.op hb f h).len]
end Go.Proofs.YtiloljoancdcbaaGreatDoor.V
namespace Go.Proofs.YtiloljoancdcbaaGreatDoor.V
theorem zjv : ∀ {t : Bs} (r : Bs), (124 : UInt8) ∉ t → Lib.index (t ++ (orT ++ r)) orT = (t.length : Int)
 | [], r, _ => by
  show Lib.index (32 :: 124 :: 124 :: 32 :: r) orT = 0
  unfold Lib.index
  simp [orT, List.isPrefixOf]
 | [b], r, h => by
  rw [List.mem_singleton] at h
  show Lib.index (b :: (orT ++ r)) orT = 1
  unfold Lib.index
  have h1 : orT.isPrefixOf (b :: (orT ++ r)) = false := by simp [orT, List.isPrefixOf]
  have h2 := zjv (t := []) r (by simp)
  rw [List.nil_append] at h2
  rw [h1, h2]
  simp
 | b :: c :: t, r, h => by
  rw [List.mem_cons, List.mem_cons, not_or, not_or] at h
  have h2 := zjv (t := c :: t) r (by rw [List.mem_cons, not_or]; exact ⟨h.2.1, h.2.2⟩)
  have h1 : orT.isPrefixOf (b :: c :: t ++ (orT ++ r)) = false := by
   have hc : ((124 : UInt8) == c) = false := by simpa using h.2.1
   simp [orT, List.isPrefixOf, hc]
  rw [List.cons_append]
  unfold Lib.index
  rw [← List.cons_append, h1, h2]
  have h3 : (((c :: t).length : Int) == -1) = false := by rw [beq_eq_false_iff_ne]; omega
  rw [h3]
  simp
theorem zq4 : ∀ {t : Bs}, (124 : UInt8) ∉ t → Lib.index t orT = -1
 | [], _ => rfl
 | [b], _ => by
  unfold Lib.index
  simp [orT, List.isPrefixOf, Lib.index]
 | b :: c :: t, h => by
  rw [List.mem_cons, List.mem_cons, not_or, not_or] at h
  have h2 := zq4 (t := c :: t) (by rw [List.mem_cons, not_or]; exact ⟨h.2.1, h.2.2⟩)
  have h1 : orT.isPrefixOf (b :: c :: t) = false := by
   have hc : ((124 : UInt8) == c) = false := by simpa using h.2.1
   simp [orT, List.isPrefixOf, hc]
  unfold Lib.index
  rw [h1, h2]
  simp
theorem zfc : ∀ (r : List Bs) (x : Bs), (∀ y ∈ x :: r, (124 : UInt8) ∉ y) → Lib.split (Lib.join (x :: r) orT) orT = x :: r
 | [], x, h => by
  rw [Lib.join_one]
  unfold Lib.split
  rw [Lib.count_miss (zq4 (h x (by simp)))]
  rfl
 | y :: r, x, h => by
  have ih := zfc r y (fun z hz => h z (List.mem_cons_of_mem _ hz))
  have e : Lib.join (x :: y :: r) orT = x ++ (orT ++ Lib.join (y :: r) orT) := by
   rw [Lib.join_cons, Lib.join_cons]
   simp [Lib.joinTail, List.append_assoc]
  have hi := zjv (t := x) (Lib.join (y :: r) orT) (h x (by simp))
  rw [e]
  unfold Lib.split at ih ⊢
  rw [Lib.count_hit (by simp [orT]) hi, Nat.add_comm]
  unfold Lib.splitK
  have hne : ¬ (Lib.index (x ++ (orT ++ Lib.join (y :: r) orT)) orT == -1) = true := by rw [hi, beq_iff_eq]; omega
  rw [if_neg hne, hi]
  have ed : (x ++ (orT ++ Lib.join (y :: r) orT)).drop (x.length + orT.length) = Lib.join (y :: r) orT := by
   rw [← List.append_assoc, List.drop_left' (by simp)]
  simp only [Int.toNat_natCast, Nat.add_zero]
  rw [ed, ih, List.take_left' rfl]
def opT (k : Nat) : Bs := if k = 0 then [62, 61] else if k = 1 then [60, 61] else if k = 2 then [61] else if k = 3 then [60] else [62]
theorem valid_len {n : Int} {v : Bs} (h : valid n v = true) : 1 ≤ v.length ∧ v.length ≤ 64 := by
 unfold valid at h
 rw [Bool.and_eq_true, Bool.and_eq_true] at h
 exact ⟨by simpa using h.1.1, by simpa using h.1.2⟩
theorem opOf_op {n : Int} {v : Bs} {k : Nat} (hk : k < 5) (hv : valid n v = true) : opOf (opT k ++ v) = some (k, v) := by
 have hl := (valid_len hv).1
 have h61 : (61 : UInt8) ∉ v := zeo hv (by decide +kernel)
 obtain ⟨b, u, rfl⟩ : ∃ b u, v = b :: u := by
  rcases v with _ | ⟨b, u⟩
  ·simp at hl
  ·exact ⟨b, u, rfl⟩
 have hb : ¬ b = 61 := fun e => h61 (by rw [e]; simp)
 have h5 : k = 0 ∨ k = 1 ∨ k = 2 ∨ k = 3 ∨ k = 4 := by omega
 rcases h5 with rfl | rfl | rfl | rfl | rfl <;> simp [opOf, opT, hb]
theorem zk1 {n : Int} {v : Bs} {k : Nat} (hk : k < 5) (hv : valid n v = true) : jk n (opT k ++ v) = some (ke k v) := by
 unfold jk
 rw [opOf_op hk hv]
 simp [hv]
theorem zd4 {n : Int} {v : Bs} {k : Nat} (hv : valid n v = true) {c : UInt8} (hc : verB c = false) (h1 : c ≠ 60) (h2 : c ≠ 61) (h3 : c ≠ 62) : c ∉ opT k ++ v := by
 have := zeo hv hc
 rw [List.mem_append, not_or]
 refine ⟨?_, this⟩
 unfold opT
 repeat' split
 all_goals simp [h1, h2, h3]
theorem zts {v : Bs} (k : Nat) : ∃ b u, opT k ++ v = b :: u ∧ b ≠ 110 ∧ b ≠ 42 := by
 unfold opT
 repeat' split
 all_goals exact ⟨_, _, rfl, by decide, by decide⟩
theorem zku {n : Int} {v : Bs} (k : Nat) (hv : valid n v = true) : (opT k ++ v).length ≤ 66 := by
 have := (valid_len hv).2
 unfold opT
 rw [List.length_append]
 repeat' split
 all_goals (simp; omega)
theorem zhg {c : UInt8} : ∀ {a : Bs} (b : Bs), c ∉ a → ze c (a ++ c :: b) = a :: ze c b
 | [], b, _ => by simp [ze]
 | d :: a, b, h => by
  rw [List.mem_cons, not_or] at h
  have h1 : (d == c) = false := by simpa using fun e => h.1 e.symm
  rw [List.cons_append, ze, h1, zhg b h.2]
  simp
theorem ztj {n : Int} {a : List Itv} (ha : Ok n a) : opL n andF [noI] a = a := by
 refine zo0 andF (ok_all ha.sch) ha ha ?_ (fun q => ?_) (fun e he => ?_)
 ·show _ = (zq [noI] && zq a)
  rw [show zq [noI] = true from rfl, Bool.true_and]
 ·show _ = (inS n [noI] q && inS n a q)
  rw [show inS n [noI] q = true from rfl, Bool.true_and]
 ·exact zgp (L := zh [noI] ++ zh a) (show asc (poss n (zh a)) from ha.asc) e he
theorem zow {n : Int} {x : Itv} (h : Ok n [x]) (q : Pos) : inS n [x] q = inI n q x := by
 rw [zc1 h.sch q h.bnd h.ord]; simp
theorem and_two {n : Int} {x : Itv} (hx : Ok n [x]) (hl : x.lk ≠ 0) (hh : x.hk ≠ 0) (ha : Ok n [⟨x.lo, x.lk, [], 0⟩]) (hb : Ok n [⟨[], 0, x.hi, x.hk⟩]) :
  opL n andF [⟨x.lo, x.lk, [], 0⟩] [⟨[], 0, x.hi, x.hk⟩] = [x] := by
 have hcut : zh [(⟨x.lo, x.lk, [], 0⟩ : Itv)] ++ zh [(⟨[], 0, x.hi, x.hk⟩ : Itv)] = zh [x] := by
  simp [zh, hl, hh, Itv.low, Itv.high]
 refine zo0 andF ha hb hx ?_ (fun q => ?_) (fun e he => ?_)
 ·simp [zq, andF, hl]
 ·rw [zow ha, zow hb, zow hx]
  simp only [inI, andF, hl, hh, Itv.low, Itv.high, decide_true, decide_false, Bool.false_or, Bool.true_or, Bool.and_true, Bool.true_and]
  rfl
 ·rw [hcut]
  exact zgp hx.asc e he
theorem zje {n : Int} {v : Bs} {k : Nat} (hk : k < 5) (hn : scheme n = true) (hv : valid n v = true) : altP n (opT k ++ v) = some [ke k v] := by
 obtain ⟨b, u, e, h1, h2⟩ := zts (v := v) k
 unfold altP
 rw [if_neg (by rw [e]; simp [zcr, h1]), if_neg (by rw [e]; simp [h2]), ju (zd4 hv (by decide +kernel) (by decide) (by decide) (by decide))]
 unfold xl xl
 rw [zk1 hk hv]
 simp only
 rw [ztj (zd3 hn hv)]
theorem zu5 {n : Int} {v u : Bs} {k j : Nat} (hk : k < 5) (hj : j < 5) (hn : scheme n = true) (hv : valid n v = true) (hu : valid n u = true) : altP n (opT k ++ v ++ 32 :: (opT j ++ u)) = some (opL n andF [ke k v] [ke j u]) := by
 obtain ⟨b, t, e, h1, h2⟩ := zts (v := v) k
 unfold altP
 rw [if_neg (by rw [e]; simp [zcr, h1]), if_neg (by rw [e]; simp [h2]), zhg _ (zd4 hv (by decide +kernel) (by decide) (by decide) (by decide)), ju (zd4 hu (by decide +kernel) (by decide) (by decide) (by decide))]
 unfold xl xl xl
 rw [zk1 hk hv, zk1 hj hu]
 simp only
 rw [ztj (zd3 hn hv)]
theorem low_cond {n : Int} {x : Itv} (h : zj n x = true) (hl : x.lk ≠ 0) : ∃ k, k < 5 ∧ valid n x.lo = true ∧ lowT x = [opT k ++ x.lo] ∧ ke k x.lo = ⟨x.lo, x.lk, [], 0⟩ := by
 have hv : valid n x.lo = true := xy h hl
 unfold zj at h
 rw [Bool.and_eq_true] at h
 rcases (xd h.1 hl).1 with e | e
 ·exact ⟨0, by omega, hv, by simp [lowT, e, opT], by simp [ke, e]⟩
 ·exact ⟨4, by omega, hv, by simp [lowT, e, opT], by simp [ke, e]⟩
theorem zmb {n : Int} {x : Itv} (h : zj n x = true) (hl : x.hk ≠ 0) : ∃ k, k < 5 ∧ valid n x.hi = true ∧ yz x = [opT k ++ x.hi] ∧ ke k x.hi = ⟨[], 0, x.hi, x.hk⟩ := by
 have hv : valid n x.hi = true := jp h hl
 unfold zj at h
 rw [Bool.and_eq_true] at h
 rcases (xd h.2 hl).1 with e | e
 ·exact ⟨1, by omega, hv, by simp [yz, e, opT], by simp [ke, e]⟩
 ·exact ⟨3, by omega, hv, by simp [yz, e, opT], by simp [ke, e]⟩
theorem low_none {n : Int} {x : Itv} (h : zj n x = true) (hl : x.lk = 0) : x.lo = [] ∧ lowT x = [] := by
 unfold zj at h
 rw [Bool.and_eq_true] at h
 exact ⟨zck h.1 hl, by simp [lowT, hl]⟩
theorem zmw {n : Int} {x : Itv} (h : zj n x = true) (hl : x.hk = 0) : x.hi = [] ∧ yz x = [] := by
 unfold zj at h
 rw [Bool.and_eq_true] at h
 exact ⟨zck h.2 hl, by simp [yz, hl]⟩
structure Back (n : Int) (x : Itv) : Prop where
 alt : altP n (zv x) = some [x]
 bar : (124 : UInt8) ∉ zv x
 len : (zv x).length ≤ 133
theorem zgt {n : Int} {x : Itv} (h : Ok n [x]) : Back n x := by
 have hn := h.sch
 have hb := h.bnd x (by simp)
 by_cases hl : x.lk = 0
 ·obtain ⟨e1, e2⟩ := low_none hb hl
  by_cases hh : x.hk = 0
  ·obtain ⟨e3, e4⟩ := zmw hb hh
   have e : x = noI := by cases x; simp_all [noI]
   have et : zv x = [42] := by unfold zv; rw [if_pos ⟨hl, hh⟩]
   exact ⟨by rw [et, e]; rfl, by rw [et]; decide, by rw [et]; decide⟩
  ·obtain ⟨k, hk, hv, e3, e4⟩ := zmb hb hh
   have et : zv x = opT k ++ x.hi := by
    unfold zv
    rw [if_neg (fun g => hh g.2), if_neg (fun g => by have := g.1; omega), e2, e3, List.nil_append, Lib.join_one]
   have e : (⟨[], 0, x.hi, x.hk⟩ : Itv) = x := by cases x; simp_all
   exact ⟨by rw [et, zje hk hn hv, e4, e], by rw [et]; exact zd4 hv (by decide +kernel) (by decide) (by decide) (by decide), by rw [et]; have := zku k hv; omega⟩
 ·obtain ⟨k, hk, hv, e1, e2⟩ := low_cond hb hl
  by_cases hh : x.hk = 0
  ·obtain ⟨e3, e4⟩ := zmw hb hh
   have et : zv x = opT k ++ x.lo := by
    unfold zv
    rw [if_neg (fun g => hl g.1), if_neg (fun g => by have := g.2.1; omega), e1, e4, List.append_nil, Lib.join_one]
   have e : (⟨x.lo, x.lk, [], 0⟩ : Itv) = x := by cases x; simp_all
   exact ⟨by rw [et, zje hk hn hv, e2, e], by rw [et]; exact zd4 hv (by decide +kernel) (by decide) (by decide) (by decide), by rw [et]; have := zku k hv; omega⟩
  ·by_cases hq : x.lk = 1 ∧ x.hk = 1 ∧ x.lo = x.hi
   ·have et : zv x = opT 2 ++ x.lo := by
     unfold zv
     rw [if_neg (fun g => hl g.1), if_pos hq]
     rfl
    have e : ke 2 x.lo = x := by
     obtain ⟨q1, q2, q3⟩ := hq
     cases x; simp_all [ke]
    exact ⟨by rw [et, zje (by omega) hn hv, e], by rw [et]; exact zd4 hv (by decide +kernel) (by decide) (by decide) (by decide), by rw [et]; have := zku 2 hv; omega⟩
   ·obtain ⟨j, hj, hu, e3, e4⟩ := zmb hb hh
    have et : zv x = opT k ++ x.lo ++ 32 :: (opT j ++ x.hi) := by
     unfold zv
     rw [if_neg (fun g => hl g.1), if_neg hq, e1, e3]
     show Lib.join [_, _] [32] = _
     rw [Lib.join_cons]
     simp [Lib.joinTail]
    have a1 := zd3 (k := k) hn hv
    have a2 := zd3 (k := j) hn hu
    rw [e2] at a1
    rw [e4] at a2
    refine ⟨by rw [et, zu5 hk hj hn hv hu, e2, e4, and_two h hl hh a1 a2], ?_, ?_⟩
    ·rw [et]
     have b1 := zd4 (k := k) hv (c := 124) (by decide +kernel) (by decide) (by decide) (by decide)
     have b2 := zd4 (k := j) hu (c := 124) (by decide +kernel) (by decide) (by decide) (by decide)
     rw [List.mem_append, List.mem_cons, not_or, not_or]
     exact ⟨b1, by decide, b2⟩
    ·rw [et]
     have b1 := zku k hv
     have b2 := zku j hu
     rw [List.length_append, List.length_cons]
     omega
theorem ok_pre {n : Int} {a b : List Itv} (h : Ok n (a ++ b)) : Ok n a := by
 refine ⟨h.sch, by have := h.len; rw [List.length_append] at this; omega, fun x hx => h.bnd x (by simp [hx]), zs3 (fun k hk => ?_)⟩
 have := zj8 h.ord k (by rw [List.length_append]; omega)
 unfold okAt at this ⊢
 have e : ∀ j, j ≤ k → (a ++ b).getD j noI = a.getD j noI := fun j hj => by
  rw [List.getD_eq_getElem?_getD, List.getD_eq_getElem?_getD, List.getElem?_append_left (by omega)]
 rwa [e k (by omega), e (k - 1) (by omega)] at this
theorem zpa {n : Int} {a : List Itv} (h : Ok n a) {x : Itv} (hx : x ∈ a) : Ok n [x] := by
 obtain ⟨k, hk, rfl⟩ := List.getElem_of_mem hx
 have := zj8 h.ord k hk
 unfold okAt at this
 rw [Bool.and_eq_true] at this
 refine ⟨h.sch, by simp, fun y hy => by rw [List.mem_singleton.1 hy]; exact h.bnd _ hx, ⟨?_, ⟨(fun z hz => by cases hz), trivial⟩⟩⟩
 have := this.1
 rwa [List.getD_eq_getElem?_getD, List.getElem?_eq_getElem hk] at this
theorem zs7 {n : Int} {a : List Itv} {x : Itv} (h : Ok n (a ++ [x])) : opL n orF a [x] = a ++ [x] := by
 have ha := ok_pre h
 have hx := zpa h (x := x) (by simp)
 refine zo0 orF ha hx h ?_ (fun q => ?_) (fun e he => ?_)
 ·unfold zq orF; rw [List.any_append]
 ·rw [zc1 h.sch q h.bnd h.ord, zc1 ha.sch q ha.bnd ha.ord, zc1 hx.sch q hx.bnd hx.ord, List.any_append]
  rfl
 ·rw [← zac]
  exact zgp h.asc e he
theorem zk3 {n : Int} : ∀ (r a : List Itv), Ok n (a ++ r) → qu n a (r.map fun x => [x]) = some (a ++ r)
 | [], a, _ => by simp [qu]
 | x :: r, a, h => by
  have h1 : Ok n (a ++ [x] ++ r) := by rw [List.append_assoc]; exact h
  have h2 := ok_pre h1
  rw [List.map_cons]
  unfold qu
  rw [zs7 h2, if_pos h2.len, zk3 r (a ++ [x]) h1, List.append_assoc]
  rfl
theorem zmj {n : Int} : ∀ (l : List Itv), (∀ x ∈ l, Back n x) → xx n (l.map zv) = some (l.map fun x => [x])
 | [], _ => rfl
 | x :: l, h => by
  rw [List.map_cons, List.map_cons]
  unfold xx
  rw [(h x (by simp)).alt, zmj l (fun y hy => h y (by simp [hy]))]
theorem lens_le {l : List Bs} {m : Nat} : (∀ x ∈ l, x.length ≤ m) → Lib.lens l ≤ l.length * m := by
 intro h
 induction l with
 | nil => simp [Lib.lens]
 | cons x l ih =>
  have h1 := h x (by simp)
  have h2 := ih (fun y hy => h y (by simp [hy]))
  unfold Lib.lens at h2 ⊢
  rw [List.map_cons, List.sum_cons, List.length_cons, Nat.add_mul]
  omega
theorem zoq {r : List Bs} {x : Bs} {m : Nat} (h : ∀ y ∈ x :: r, y.length ≤ m) : (Lib.join (x :: r) orT).length ≤ (r.length + 1) * (m + 4) := by
 have h1 := lens_le h
 rw [Lib.join_length]
 rw [List.length_cons] at h1
 rw [show orT.length = 4 from rfl]
 have : (r.length + 1) * (m + 4) = (r.length + 1) * m + (r.length + 1) * 4 := Nat.mul_add _ _ _
 omega
theorem nil_nil {n : Int} (h : scheme n = true) : opL n orF [] [] = [] := zo0 orF (zd7 h) (zd7 h) (zd7 h) rfl (fun q => rfl) (fun e he => by cases he)
theorem zsb {n : Int} {l : List Itv} (h : Ok n l) : xr n (xj l) = (some l, 0) := by
 have hn := h.sch
 rcases l with _ | ⟨x, r⟩
 ·unfold xr
  rw [if_pos hn, if_pos (by decide)]
  have e : Lib.split (xj []) orT = [zcr] := by
   have := zfc [] zcr (by decide)
   rwa [Lib.join_one] at this
  rw [e]
  have e2 : xx n [zcr] = some [[]] := rfl
  rw [e2]
  simp only
  unfold qu qu
  rw [nil_nil hn]
  rfl
 ·have hb : ∀ y ∈ x :: r, Back n y := fun y hy => zgt (zpa h hy)
  have e : xj (x :: r) = Lib.join (zv x :: r.map zv) orT := rfl
  have hbar : ∀ y ∈ zv x :: r.map zv, (124 : UInt8) ∉ y := by
   intro y hy
   rw [← List.map_cons (f := zv), List.mem_map] at hy
   obtain ⟨z, hz, rfl⟩ := hy
   exact (hb z hz).bar
  have hle : ∀ y ∈ zv x :: r.map zv, y.length ≤ 133 := by
   intro y hy
   rw [← List.map_cons (f := zv), List.mem_map] at hy
   obtain ⟨z, hz, rfl⟩ := hy
   exact (hb z hz).len
  have h1 := zoq hle
  have h2 := h.len
  rw [List.length_map] at h1
  rw [List.length_cons] at h2
  unfold xr
  rw [if_pos hn, e, if_pos (by omega), zfc _ _ hbar, ← List.map_cons (f := zv), zmj _ hb]
  have := zk3 (n := n) (x :: r) [] h
  simp only [this, List.nil_append]
end Go.Proofs.YtiloljoancdcbaaGreatDoor.V
namespace Go.Proofs.YtiloljoancdcbaaGreatDoor.V
def uw (x : Bs) : Bool := !(x == []) && !(x == [46]) && !(x == [46, 46])
def wh (s : Bs) : Bool := (ze 47 s).all uw
def xc (s : Bs) : Bool := decide (1 ≤ s.length) && decide (s.length ≤ 200) && !decide ((0 : UInt8) ∈ s) && wh s
theorem zst {s : Bs} (h : (47 : UInt8) ∉ s) : wh s = uw s := by
 unfold wh; rw [ju h]; simp
theorem zsl {s : Bs} (h : (47 : UInt8) ∈ s) : wh s = (uw (s.takeWhile (· != 47)) && wh (s.drop ((s.takeWhile (· != 47)).length + 1))) := by
 unfold wh; rw [vx h]; simp
theorem zvk (s : Bs) : wh s = if (cut1 47 s).2.2 then uw (cut1 47 s).1 && wh (cut1 47 s).2.1 else uw (cut1 47 s).1 := by
 unfold cut1
 by_cases h : (47 : UInt8) ∈ s
 ·rw [if_pos h]; simp only [if_true]; exact zsl h
 ·rw [if_neg h]; simp only [Bool.false_eq_true, if_false]; exact zst h
theorem zf8 (x : Bs) : (x = [] ∧ uw x = false) ∨ (x = [46] ∧ uw x = false) ∨ (x = [46, 46] ∧ uw x = false) ∨ ((x == []) = false ∧ (x == [46]) = false ∧ (x == [46, 46]) = false ∧ uw x = true) := by
 unfold uw
 by_cases h1 : x = []
 ·subst h1; exact .inl ⟨rfl, rfl⟩
 ·by_cases h2 : x = [46]
  ·subst h2; exact .inr (.inl ⟨rfl, rfl⟩)
  ·by_cases h3 : x = [46, 46]
   ·subst h3; exact .inr (.inr (.inl ⟨rfl, rfl⟩))
   ·have e1 : (x == []) = false := beq_eq_false_iff_ne.2 h1
    have e2 : (x == [46]) = false := beq_eq_false_iff_ne.2 h2
    have e3 : (x == [46, 46]) = false := beq_eq_false_iff_ne.2 h3
    exact .inr (.inr (.inr ⟨e1, e2, e3, by rw [e1, e2, e3]; rfl⟩))
end Go.Proofs.YtiloljoancdcbaaGreatDoor.V
namespace Go.Proofs.YtiloljoancdcbaaGreatDoor.V
end Go.Proofs.YtiloljoancdcbaaGreatDoor.V
namespace Go.Proofs.YtiloljoancdcbaaGreatDoor.V
def qe (n : Int) : Bs := if n = 1 then [115, 101, 109, 118, 101, 114] else if n = 2 then [100, 101, 98, 105, 97, 110] else if n = 3 then [100, 111, 116, 116, 101, 100] else []
def kq (s : Bs) : Int := if s = qe 1 then 1 else if s = qe 2 then 2 else if s = qe 3 then 3 else 0
theorem zhd {n : Int} (h : n = 1 ∨ n = 2 ∨ n = 3) : kq (qe n) = n := by
 rcases h with rfl | rfl | rfl <;> decide
theorem zud {s : Bs} {k : Nat} (h1 : 1 ≤ k) (h3 : k ≤ 3) (he : s = qe k) : kq s = k := by
 subst he; exact zhd (by omega)
theorem zu7 {s : Bs} (h : ∀ j : Nat, 1 ≤ j → j < 4 → ¬ s = qe j) : kq s = 0 := by
 have a : ¬ s = qe 1 := h 1 (by omega) (by omega)
 have b : ¬ s = qe 2 := h 2 (by omega) (by omega)
 have c : ¬ s = qe 3 := h 3 (by omega) (by omega)
 unfold kq; rw [if_neg a, if_neg b, if_neg c]
theorem zd6 (n : Int) : (qe n).length ≤ 6 := by
 unfold qe
 repeat' split
 all_goals decide
end Go.Proofs.YtiloljoancdcbaaGreatDoor.V
namespace Go.Proofs.YtiloljoancdcbaaGreatDoor
namespace V
def nmA (c : UInt8) : Bool := (decide (97 ≤ c.toNat) && decide (c.toNat ≤ 122)) || (decide (48 ≤ c.toNat) && decide (c.toNat ≤ 57))
def nmP (c : UInt8) : Bool := decide (c.toNat = 46) || (decide (c.toNat = 95) || decide (c.toNat = 45))
def nmAt (j : Nat) (c : UInt8) : Bool := nmA c || (decide (0 < j) && nmP c)
def NameP (s : Bs) : Prop := 1 ≤ s.length ∧ s.length ≤ 64 ∧ ∀ j (h : j < s.length), nmAt j s[j] = true
instance (s : Bs) : Decidable (NameP s) := by unfold NameP; infer_instance
def xq (s : Bs) : Bool := decide (NameP s)
theorem zo5 {s : Bs} {k : Nat} (hk : k < s.length) (h : nmAt k s[k] = false) : xq s = false := decide_eq_false fun hp => by rw [hp.2.2 k hk] at h; cases h
theorem name_len {s : Bs} (h : xq s = true) : 1 ≤ s.length ∧ s.length ≤ 64 := ⟨(of_decide_eq_true h).1, (of_decide_eq_true h).2.1⟩
end V
end Go.Proofs.YtiloljoancdcbaaGreatDoor
