/-
  Lemmas for the law.
-/
import Derived.Test.YtnhfaincdabdkaaGreatDoorC37x06
import Derived.Test.YtnhfaincdabdkaaGreatDoorC37x01
import Derived.Lib.Join
import Derived.Lib.Split
import Derived.Lib.CountLaws
set_option linter.all false
namespace Go.Proofs.YtnhfaincdabdkaaGreatDoor.V
def lowT (x : Itv) : List Bs := if x.lk = 1 then [[62, 61] ++ x.lo] else if x.lk = 2 then [[62] ++ x.lo] else []
def xr (x : Itv) : List Bs := if x.hk = 1 then [[60, 61] ++ x.hi] else if x.hk = 2 then [[60] ++ x.hi] else []
def zr (x : Itv) : Bs :=
 if x.lk = 0 ∧ x.hk = 0 then [42] else if x.lk = 1 ∧ x.hk = 1 ∧ x.lo = x.hi then [61] ++ x.lo else Lib.join (lowT x ++ xr x) [32]
def zbv : Bs := [110, 111, 110, 101]
def orT : Bs := [32, 124, 124, 32]
def kn (l : List Itv) : Bs := if l.isEmpty then zbv else Lib.join (l.map zr) orT
def ky (n : Int) (l : List Itv) : Bs × Int := if okR n l then (kn l, 0) else ([], 1)
def opOf (s : Bs) : Option (Nat × Bs) :=
 if s.take 2 = [62, 61] then some (0, s.drop 2) else if s.take 2 = [60, 61] then some (1, s.drop 2) else if s.take 1 = [61] then some (2, s.drop 1) else if s.take 1 = [60] then some (3, s.drop 1) else if s.take 1 = [62] then some (4, s.drop 1) else none
def xi (k : Nat) (v : Bs) : Itv :=
 if k = 0 then ⟨v, 1, [], 0⟩ else if k = 1 then ⟨[], 0, v, 1⟩ else if k = 2 then ⟨v, 1, v, 1⟩ else if k = 3 then ⟨[], 0, v, 2⟩ else ⟨v, 2, [], 0⟩
def zba (n : Int) (s : Bs) : Option Itv := match opOf s with | none => none | some (k, v) => if valid n v then some (xi k v) else none
def yo (n : Int) (out : List Itv) : List Bs → Option (List Itv)
 | [] => some out
 | c :: r => match zba n c with | none => none | some x => yo n (opL n andF out [x]) r
def altP (n : Int) (s : Bs) : Option (List Itv) := if s = zbv then some [] else if s = [42] then some [noI] else yo n [noI] (ze 32 s)
def xx (n : Int) : List Bs → Option (List (List Itv))
 | [] => some []
 | s :: r => match altP n s with | none => none | some x => match xx n r with | none => none | some xs => some (x :: xs)
def jq (n : Int) (out : List Itv) : List (List Itv) → Option (List Itv)
 | [] => some out
 | x :: r => if (opL n orF out x).length ≤ 32 then jq n (opL n orF out x) r else none
def xp (n : Int) (s : Bs) : Option (List Itv) × Int :=
 if scheme n then (if s.length ≤ 8192 then (match xx n (Lib.split s orT) with | none => (none, 2) | some xs => match jq n [] xs with | none => (none, 3) | some l => (some l, 0)) else (none, 3)) else (none, 14)
theorem zch {n : Int} {k : Nat} {v : Bs} (hn : scheme n = true) (hv : valid n v = true) : Ok n [xi k v] := by
 have hc : cmpV n v v = 0 := (zr4 hn hv hv hv).2.1
 have hb : zl n (xi k v) = true ∧ xm n (xi k v) = true := by
  unfold xi zl ji xm
  repeat' split
  all_goals simp_all [cutC, Itv.low, Itv.high]
 exact ⟨hn, by simp, (fun x hx => by rw [List.mem_singleton.1 hx]; exact hb.1), hb.2, (fun z hz => by cases hz), trivial⟩
theorem zno {n : Int} (hn : scheme n = true) {s : Bs} {x : Itv} (h : zba n s = some x) : Ok n [x] := by
 unfold zba at h
 split at h
 ·cases h
 ·split at h
  ·cases h
   exact zch hn ‹_›
  ·cases h
def Convex (n : Int) (a : List Itv) : Prop := (∀ p q r, plt p q → plt q r → inS n a p = true → inS n a r = true → inS n a q = true) ∧ (zo a = true → ∀ q r, plt q r → inS n a r = true → inS n a q = true)
theorem zhf {n : Int} {a : List Itv} (ha : Ok n a) (h : a.length ≤ 1) : Convex n a := by
 rcases a with _ | ⟨x, _ | ⟨y, l⟩⟩
 ·exact ⟨(fun p q r _ _ h => by cases h), (fun h => by cases h)⟩
 ·have e : ∀ q, inS n [x] q = inI n q x := fun q => by rw [zcr ha.sch q ha.bnd ha.ord]; simp
  constructor
  ·intro p q r h1 h2 h3 h4
   rw [e] at h3 h4 ⊢
   unfold inI at h3 h4 ⊢
   simp only [Bool.and_eq_true, Bool.or_eq_true, decide_eq_true_eq, Bool.not_eq_true', decide_eq_false_iff_not] at h3 h4 ⊢
   refine ⟨h3.1.imp id fun g gq => g (zz h1 gq), h4.2.imp id fun g => zz h2 g⟩
  ·intro hf q r h2 h4
   rw [e] at h4 ⊢
   unfold inI at h4 ⊢
   have hk : x.lk = 0 := by simpa [zo] using hf
   simp only [Bool.and_eq_true, Bool.or_eq_true, decide_eq_true_eq, Bool.not_eq_true', decide_eq_false_iff_not] at h4 ⊢
   exact ⟨.inl hk, h4.2.imp id fun g => zz h2 g⟩
 ·simp at h
theorem zp3 {n : Int} {x : Bool} {R : List Cut} (ha : asc (poss n R)) (h1 : ∀ p q r, plt p q → plt q r → mem x (poss n R) p = true → mem x (poss n R) r = true → mem x (poss n R) q = true) (h2 : x = true → ∀ q r, plt q r → mem x (poss n R) r = true → mem x (poss n R) q = true) :
  (ofC (start x) R).length ≤ 1 := by
 cases x
 ·rcases R with _ | ⟨c, _ | ⟨d, _ | ⟨e, R⟩⟩⟩
  ·simp [start, ofC]
  ·simp [start, ofC]
  ·simp [start, ofC]
  ·exfalso
   obtain ⟨a1, a2⟩ := List.pairwise_cons.1 (show asc (pos n c :: poss n (d :: e :: R)) from ha)
   obtain ⟨b1, b2⟩ := List.pairwise_cons.1 (show asc (pos n d :: poss n (e :: R)) from a2)
   obtain ⟨c1, c2⟩ := List.pairwise_cons.1 (show asc (pos n e :: poss n R) from b2)
   have hcd := a1 (pos n d) (by simp [poss])
   have hde := b1 (pos n e) (by simp [poss])
   have hce := zz hcd hde
   have m1 : mem false (poss n (c :: d :: e :: R)) (pos n c) = true := by
    show mem false (pos n c :: pos n d :: pos n e :: poss n R) _ = true
    rw [mem_cons, if_neg (qi _), mem_cons, if_pos hcd]; rfl
   have m2 : mem false (poss n (c :: d :: e :: R)) (pos n d) = false := by
    show mem false (pos n c :: pos n d :: pos n e :: poss n R) _ = false
    rw [mem_cons, if_neg (zcs hcd), mem_cons, if_neg (qi _), mem_cons, if_pos hde]; rfl
   have m3 : mem false (poss n (c :: d :: e :: R)) (pos n e) = true := by
    show mem false (pos n c :: pos n d :: pos n e :: poss n R) _ = true
    rw [mem_cons, if_neg (zcs hce), mem_cons, if_neg (zcs hde), mem_cons, if_neg (qi _), vp c1]; rfl
   rw [h1 _ _ _ hcd hde m1 m3] at m2
   cases m2
 ·rcases R with _ | ⟨c, _ | ⟨d, R⟩⟩
  ·simp [start, ofC]
  ·simp [start, ofC]
  ·exfalso
   obtain ⟨a1, a2⟩ := List.pairwise_cons.1 (show asc (pos n c :: poss n (d :: R)) from ha)
   obtain ⟨b1, b2⟩ := List.pairwise_cons.1 (show asc (pos n d :: poss n R) from a2)
   have hcd := a1 (pos n d) (by simp [poss])
   have m1 : mem true (poss n (c :: d :: R)) (pos n c) = false := by
    show mem true (pos n c :: pos n d :: poss n R) _ = false
    rw [mem_cons, if_neg (qi _), mem_cons, if_pos hcd]; rfl
   have m3 : mem true (poss n (c :: d :: R)) (pos n d) = true := by
    show mem true (pos n c :: pos n d :: poss n R) _ = true
    rw [mem_cons, if_neg (zcs hcd), mem_cons, if_neg (qi _), vp b1]; rfl
   rw [h2 rfl _ _ hcd m3] at m1
   cases m1
structure One (n : Int) (a : List Itv) : Prop where
 ok : Ok n a
 one : a.length ≤ 1
theorem One.and {n : Int} {a b : List Itv} (ha : One n a) (hb : One n b) : One n (opL n andF a b) := by
 have h : (opL n andF a b).length ≤ 1 := by
  have ca := zhf ha.ok ha.one
  have cb := zhf hb.ok hb.one
  have hco := zcb andF ha.ok hb.ok
  have both : ∀ q, mem (andF (zo a) (zo b)) (poss n (comb n andF (zo a) (zo b) (andF (zo a) (zo b)) (zm a) (zm b))) q = true ↔ inS n a q = true ∧ inS n b q = true := fun q => by
   rw [hco.val]
   show andF (inS n a q) (inS n b q) = true ↔ _
   unfold andF
   rw [Bool.and_eq_true]
  refine zp3 hco.asc (fun p q r h1 h2 h3 h4 => ?_) (fun hx q r h1 h2 => ?_)
  ·rw [both] at h3 h4 ⊢
   exact ⟨ca.1 p q r h1 h2 h3.1 h4.1, cb.1 p q r h1 h2 h3.2 h4.2⟩
  ·rw [both] at h2 ⊢
   unfold andF at hx
   rw [Bool.and_eq_true] at hx
   exact ⟨ca.2 hx.1 q r h1 h2.1, cb.2 hx.2 q r h1 h2.2⟩
 exact ⟨zpa _ ha.ok hb.ok (by omega), h⟩
theorem one_nil {n : Int} (h : scheme n = true) : One n [] := ⟨zdv h, by simp⟩
theorem zlw {n : Int} (h : scheme n = true) : One n [noI] := ⟨ok_all h, by simp⟩
theorem One.few {n : Int} {a : List Itv} (h : One n a) : Few n a 2 := ⟨h.ok, by have := uw a; have := h.one; omega⟩
theorem zkp {n : Int} (hn : scheme n = true) : ∀ {l : List Bs} {out r : List Itv}, One n out → yo n out l = some r → One n r
 | [], out, r, h, e => by cases e; exact h
 | c :: l, out, r, h, e => by
  unfold yo at e
  split at e
  ·cases e
  ·rename_i x hx
   exact zkp hn (h.and ⟨zno hn hx, by simp⟩) e
theorem altP_one {n : Int} (hn : scheme n = true) {s : Bs} {r : List Itv} (e : altP n s = some r) : One n r := by
 unfold altP at e
 split at e
 ·cases e; exact one_nil hn
 ·split at e
  ·cases e; exact zlw hn
  ·exact zkp hn (zlw hn) e
theorem zff {n : Int} (hn : scheme n = true) : ∀ {l : List Bs} {xs : List (List Itv)}, xx n l = some xs → xs.length = l.length ∧ ∀ x ∈ xs, One n x
 | [], xs, e => by cases e; exact ⟨rfl, fun x hx => by cases hx⟩
 | s :: l, xs, e => by
  unfold xx at e
  split at e
  ·cases e
  ·rename_i x hx
   split at e
   ·cases e
   ·rename_i ys hys
    cases e
    obtain ⟨i1, i2⟩ := zff hn hys
    refine ⟨by rw [List.length_cons, List.length_cons, i1], fun y hy => ?_⟩
    rcases List.mem_cons.1 hy with rfl | hy
    ·exact altP_one hn hx
    ·exact i2 y hy
theorem ziz {n : Int} : ∀ {xs : List (List Itv)} {out r : List Itv}, Ok n out → (∀ x ∈ xs, One n x) → jq n out xs = some r → Ok n r
 | [], out, r, h, _, e => by cases e; exact h
 | x :: xs, out, r, h, hx, e => by
  unfold jq at e
  split at e
  ·rename_i h32
   exact ziz (zpa _ h (hx x (by simp)).ok h32) (fun y hy => hx y (by simp [hy])) e
  ·cases e
theorem zpl {n : Int} {s : Bs} {l : List Itv} (h : (xp n s).1 = some l) : Ok n l ∧ (xp n s).2 = 0 := by
 unfold xp at h ⊢
 split at h
 ·rename_i hn
  rw [if_pos hn]
  split at h
  ·rename_i hl
   rw [if_pos hl]
   split at h
   ·cases h
   ·rename_i xs hxs
    split at h
    ·cases h
    ·rename_i u hu
     cases h
     exact ⟨ziz (zdv hn) (zff hn hxs).2 hu, rfl⟩
  ·cases h
 ·cases h
theorem zma {n : Int} (f : Bool → Bool → Bool) {a b c : List Itv} (ha : Ok n a) (hb : Ok n b) (hc : Ok n c) (h1 : zo c = f (zo a) (zo b)) (h2 : ∀ q, inS n c q = f (inS n a q) (inS n b q)) (h3 : ∀ e ∈ zm c, Least n (zm a ++ zm b) e) : opL n f a b = c := by
 have hco := zcb f ha hb
 have e : comb n f (zo a) (zo b) (f (zo a) (zo b)) (zm a) (zm b) = zm c := by
  refine zft (L := zm a ++ zm b) (zq4 (x := f (zo a) (zo b)) hco.asc hc.asc (fun q => ?_)) (um ha.sch f _ _ _ _ _ _ (Nat.le_refl _) ha.cuts hb.cuts ha.asc hb.asc) h3
  rw [hco.val]
  have := h2 q
  unfold inS at this
  rw [← h1]
  exact this.symm
 unfold opL
 rw [e, ← h1]
 exact hc.norm
theorem zrr {n : Int} : ∀ (L : List Cut), asc (poss n L) → ∀ c, c ∈ L → ∀ d, d ∈ L → pos n d = pos n c → d = c
 | [], _, c, hc, _, _, _ => by cases hc
 | e :: L, h, c, hc, d, hd, hp => by
  obtain ⟨a1, a2⟩ := List.pairwise_cons.1 (show asc (pos n e :: poss n L) from h)
  rcases List.mem_cons.1 hc with e1 | g1
  ·rcases List.mem_cons.1 hd with e2 | g2
   ·rw [e1, e2]
   ·have := a1 _ (List.mem_map.2 ⟨d, g2, rfl⟩)
    rw [hp, e1] at this
    exact absurd this (qi _)
  ·rcases List.mem_cons.1 hd with e2 | g2
   ·have := a1 _ (List.mem_map.2 ⟨c, g1, rfl⟩)
    rw [← hp, e2] at this
    exact absurd this (qi _)
   ·exact zrr L a2 c g1 d g2 hp
theorem ze1 {n : Int} {L : List Cut} (h : asc (poss n L)) : ∀ c ∈ L, Least n L c := fun c hc =>
 ⟨hc, fun d hd hp => by rw [zrr L h c hc d hd hp, ye]; omega⟩
end Go.Proofs.YtnhfaincdabdkaaGreatDoor.V
namespace Go.Proofs.YtnhfaincdabdkaaGreatDoor.V
def chkP (n : Int) (a : List Itv) (m : Int) (b : List Itv) : Int := if okR n a && okR m b then (if n = m then 0 else 14) else 1
def limP (n : Int) (l : List Itv) : Int × List Itv × Int := if l.length ≤ 32 then (n, l, 0) else (0, [], 3)
def opP (f : Bool → Bool → Bool) (n : Int) (a : List Itv) (m : Int) (b : List Itv) : Int × List Itv × Int := if chkP n a m b = 0 then limP n (opL n f a b) else (0, [], chkP n a m b)
theorem zsw {n m : Int} {a b : List Itv} (h : chkP n a m b = 0) : Ok n a ∧ Ok n b ∧ n = m := by
 unfold chkP at h
 split at h
 ·rename_i h1
  rw [Bool.and_eq_true] at h1
  split at h
  ·rename_i h2
   subst h2
   exact ⟨zbx h1.1, zbx h1.2, rfl⟩
  ·cases h
 ·cases h
theorem chk_of {n : Int} {a b : List Itv} (ha : Ok n a) (hb : Ok n b) : chkP n a n b = 0 := by
 unfold chkP
 rw [of_ok ha, of_ok hb]
 simp
end Go.Proofs.YtnhfaincdabdkaaGreatDoor.V
namespace Go.Proofs.YtnhfaincdabdkaaGreatDoor.V
theorem zhg : ∀ {t : Bs} (r : Bs), (124 : UInt8) ∉ t → Lib.index (t ++ (orT ++ r)) orT = (t.length : Int)
 | [], r, _ => by
  show Lib.index (32 :: 124 :: 124 :: 32 :: r) orT = 0
  unfold Lib.index
  simp [orT, List.isPrefixOf]
 | [b], r, h => by
  rw [List.mem_singleton] at h
  show Lib.index (b :: (orT ++ r)) orT = 1
  unfold Lib.index
  have h1 : orT.isPrefixOf (b :: (orT ++ r)) = false := by simp [orT, List.isPrefixOf]
  have h2 := zhg (t := []) r (by simp)
  rw [List.nil_append] at h2
  rw [h1, h2]
  simp
 | b :: c :: t, r, h => by
  rw [List.mem_cons, List.mem_cons, not_or, not_or] at h
  have h2 := zhg (t := c :: t) r (by rw [List.mem_cons, not_or]; exact ⟨h.2.1, h.2.2⟩)
  have h1 : orT.isPrefixOf (b :: c :: t ++ (orT ++ r)) = false := by
   have hc : ((124 : UInt8) == c) = false := by simpa using h.2.1
   simp [orT, List.isPrefixOf, hc]
  rw [List.cons_append]
  unfold Lib.index
  rw [← List.cons_append, h1, h2]
  have h3 : (((c :: t).length : Int) == -1) = false := by rw [beq_eq_false_iff_ne]; omega
  rw [h3]
  simp
theorem zoh : ∀ {t : Bs}, (124 : UInt8) ∉ t → Lib.index t orT = -1
 | [], _ => rfl
 | [b], _ => by
  unfold Lib.index
  simp [orT, List.isPrefixOf, Lib.index]
 | b :: c :: t, h => by
  rw [List.mem_cons, List.mem_cons, not_or, not_or] at h
  have h2 := zoh (t := c :: t) (by rw [List.mem_cons, not_or]; exact ⟨h.2.1, h.2.2⟩)
  have h1 : orT.isPrefixOf (b :: c :: t) = false := by
   have hc : ((124 : UInt8) == c) = false := by simpa using h.2.1
   simp [orT, List.isPrefixOf, hc]
  unfold Lib.index
  rw [h1, h2]
  simp
theorem zdj : ∀ (r : List Bs) (x : Bs), (∀ y ∈ x :: r, (124 : UInt8) ∉ y) → Lib.split (Lib.join (x :: r) orT) orT = x :: r
 | [], x, h => by
  rw [Lib.join_one]
  unfold Lib.split
  rw [Lib.count_miss (zoh (h x (by simp)))]
  rfl
 | y :: r, x, h => by
  have ih := zdj r y (fun z hz => h z (List.mem_cons_of_mem _ hz))
  have e : Lib.join (x :: y :: r) orT = x ++ (orT ++ Lib.join (y :: r) orT) := by
   rw [Lib.join_cons, Lib.join_cons]
   simp [Lib.joinTail, List.append_assoc]
  have hi := zhg (t := x) (Lib.join (y :: r) orT) (h x (by simp))
  rw [e]
  unfold Lib.split at ih ⊢
  rw [Lib.count_hit (by simp [orT]) hi, Nat.add_comm]
  unfold Lib.splitK
  have hne : ¬ (Lib.index (x ++ (orT ++ Lib.join (y :: r) orT)) orT == -1) = true := by rw [hi, beq_iff_eq]; omega
  rw [if_neg hne, hi]
  have ed : (x ++ (orT ++ Lib.join (y :: r) orT)).drop (x.length + orT.length) = Lib.join (y :: r) orT := by
   rw [← List.append_assoc, List.drop_left' (by simp)]
  simp only [Int.toNat_natCast, Nat.add_zero]
  rw [ed, ih, List.take_left' rfl]
def opT (k : Nat) : Bs := if k = 0 then [62, 61] else if k = 1 then [60, 61] else if k = 2 then [61] else if k = 3 then [60] else [62]
theorem valid_len {n : Int} {v : Bs} (h : valid n v = true) : 1 ≤ v.length ∧ v.length ≤ 64 := by
 unfold valid at h
 rw [Bool.and_eq_true, Bool.and_eq_true] at h
 exact ⟨by simpa using h.1.1, by simpa using h.1.2⟩
theorem opOf_op {n : Int} {v : Bs} {k : Nat} (hk : k < 5) (hv : valid n v = true) : opOf (opT k ++ v) = some (k, v) := by
 have hl := (valid_len hv).1
 have h61 : (61 : UInt8) ∉ v := zj9 hv (by decide +kernel)
 obtain ⟨b, u, rfl⟩ : ∃ b u, v = b :: u := by
  rcases v with _ | ⟨b, u⟩
  ·simp at hl
  ·exact ⟨b, u, rfl⟩
 have hb : ¬ b = 61 := fun e => h61 (by rw [e]; simp)
 have h5 : k = 0 ∨ k = 1 ∨ k = 2 ∨ k = 3 ∨ k = 4 := by omega
 rcases h5 with rfl | rfl | rfl | rfl | rfl <;> simp [opOf, opT, hb]
theorem zif {n : Int} {v : Bs} {k : Nat} (hk : k < 5) (hv : valid n v = true) : zba n (opT k ++ v) = some (xi k v) := by
 unfold zba
 rw [opOf_op hk hv]
 simp [hv]
theorem zal {n : Int} {v : Bs} {k : Nat} (hv : valid n v = true) {c : UInt8} (hc : verB c = false) (h1 : c ≠ 60) (h2 : c ≠ 61) (h3 : c ≠ 62) : c ∉ opT k ++ v := by
 have := zj9 hv hc
 rw [List.mem_append, not_or]
 refine ⟨?_, this⟩
 unfold opT
 repeat' split
 all_goals simp [h1, h2, h3]
theorem zrb {v : Bs} (k : Nat) : ∃ b u, opT k ++ v = b :: u ∧ b ≠ 110 ∧ b ≠ 42 := by
 unfold opT
 repeat' split
 all_goals exact ⟨_, _, rfl, by decide, by decide⟩
theorem zce {n : Int} {v : Bs} (k : Nat) (hv : valid n v = true) : (opT k ++ v).length ≤ 66 := by
 have := (valid_len hv).2
 unfold opT
 rw [List.length_append]
 repeat' split
 all_goals (simp; omega)
theorem zfo {c : UInt8} : ∀ {a : Bs} (b : Bs), c ∉ a → ze c (a ++ c :: b) = a :: ze c b
 | [], b, _ => by simp [ze]
 | d :: a, b, h => by
  rw [List.mem_cons, not_or] at h
  have h1 : (d == c) = false := by simpa using fun e => h.1 e.symm
  rw [List.cons_append, ze, h1, zfo b h.2]
  simp
theorem zq2 {n : Int} {a : List Itv} (ha : Ok n a) : opL n andF [noI] a = a := by
 refine zma andF (ok_all ha.sch) ha ha ?_ (fun q => ?_) (fun e he => ?_)
 ·show _ = (zo [noI] && zo a)
  rw [show zo [noI] = true from rfl, Bool.true_and]
 ·show _ = (inS n [noI] q && inS n a q)
  rw [show inS n [noI] q = true from rfl, Bool.true_and]
 ·exact ze1 (L := zm [noI] ++ zm a) (show asc (poss n (zm a)) from ha.asc) e he
theorem zl7 {n : Int} {x : Itv} (h : Ok n [x]) (q : Pos) : inS n [x] q = inI n q x := by
 rw [zcr h.sch q h.bnd h.ord]; simp
theorem and_two {n : Int} {x : Itv} (hx : Ok n [x]) (hl : x.lk ≠ 0) (hh : x.hk ≠ 0) (ha : Ok n [⟨x.lo, x.lk, [], 0⟩]) (hb : Ok n [⟨[], 0, x.hi, x.hk⟩]) :
  opL n andF [⟨x.lo, x.lk, [], 0⟩] [⟨[], 0, x.hi, x.hk⟩] = [x] := by
 have hcut : zm [(⟨x.lo, x.lk, [], 0⟩ : Itv)] ++ zm [(⟨[], 0, x.hi, x.hk⟩ : Itv)] = zm [x] := by
  simp [zm, hl, hh, Itv.low, Itv.high]
 refine zma andF ha hb hx ?_ (fun q => ?_) (fun e he => ?_)
 ·simp [zo, andF, hl]
 ·rw [zl7 ha, zl7 hb, zl7 hx]
  simp only [inI, andF, hl, hh, Itv.low, Itv.high, decide_true, decide_false, Bool.false_or, Bool.true_or, Bool.and_true, Bool.true_and]
  rfl
 ·rw [hcut]
  exact ze1 hx.asc e he
theorem zd2 {n : Int} {v : Bs} {k : Nat} (hk : k < 5) (hn : scheme n = true) (hv : valid n v = true) : altP n (opT k ++ v) = some [xi k v] := by
 obtain ⟨b, u, e, h1, h2⟩ := zrb (v := v) k
 unfold altP
 rw [if_neg (by rw [e]; simp [zbv, h1]), if_neg (by rw [e]; simp [h2]), jl (zal hv (by decide +kernel) (by decide) (by decide) (by decide))]
 unfold yo yo
 rw [zif hk hv]
 simp only
 rw [zq2 (zch hn hv)]
theorem zkn {n : Int} {v u : Bs} {k j : Nat} (hk : k < 5) (hj : j < 5) (hn : scheme n = true) (hv : valid n v = true) (hu : valid n u = true) : altP n (opT k ++ v ++ 32 :: (opT j ++ u)) = some (opL n andF [xi k v] [xi j u]) := by
 obtain ⟨b, t, e, h1, h2⟩ := zrb (v := v) k
 unfold altP
 rw [if_neg (by rw [e]; simp [zbv, h1]), if_neg (by rw [e]; simp [h2]), zfo _ (zal hv (by decide +kernel) (by decide) (by decide) (by decide)), jl (zal hu (by decide +kernel) (by decide) (by decide) (by decide))]
 unfold yo yo yo
 rw [zif hk hv, zif hj hu]
 simp only
 rw [zq2 (zch hn hv)]
theorem low_cond {n : Int} {x : Itv} (h : zl n x = true) (hl : x.lk ≠ 0) : ∃ k, k < 5 ∧ valid n x.lo = true ∧ lowT x = [opT k ++ x.lo] ∧ xi k x.lo = ⟨x.lo, x.lk, [], 0⟩ := by
 have hv : valid n x.lo = true := xn h hl
 unfold zl at h
 rw [Bool.and_eq_true] at h
 rcases (ki h.1 hl).1 with e | e
 ·exact ⟨0, by omega, hv, by simp [lowT, e, opT], by simp [xi, e]⟩
 ·exact ⟨4, by omega, hv, by simp [lowT, e, opT], by simp [xi, e]⟩
theorem zjp {n : Int} {x : Itv} (h : zl n x = true) (hl : x.hk ≠ 0) : ∃ k, k < 5 ∧ valid n x.hi = true ∧ xr x = [opT k ++ x.hi] ∧ xi k x.hi = ⟨[], 0, x.hi, x.hk⟩ := by
 have hv : valid n x.hi = true := jz h hl
 unfold zl at h
 rw [Bool.and_eq_true] at h
 rcases (ki h.2 hl).1 with e | e
 ·exact ⟨1, by omega, hv, by simp [xr, e, opT], by simp [xi, e]⟩
 ·exact ⟨3, by omega, hv, by simp [xr, e, opT], by simp [xi, e]⟩
theorem low_none {n : Int} {x : Itv} (h : zl n x = true) (hl : x.lk = 0) : x.lo = [] ∧ lowT x = [] := by
 unfold zl at h
 rw [Bool.and_eq_true] at h
 exact ⟨za1 h.1 hl, by simp [lowT, hl]⟩
theorem zj6 {n : Int} {x : Itv} (h : zl n x = true) (hl : x.hk = 0) : x.hi = [] ∧ xr x = [] := by
 unfold zl at h
 rw [Bool.and_eq_true] at h
 exact ⟨za1 h.2 hl, by simp [xr, hl]⟩
structure Back (n : Int) (x : Itv) : Prop where
 alt : altP n (zr x) = some [x]
 bar : (124 : UInt8) ∉ zr x
 len : (zr x).length ≤ 133
theorem ze3 {n : Int} {x : Itv} (h : Ok n [x]) : Back n x := by
 have hn := h.sch
 have hb := h.bnd x (by simp)
 by_cases hl : x.lk = 0
 ·obtain ⟨e1, e2⟩ := low_none hb hl
  by_cases hh : x.hk = 0
  ·obtain ⟨e3, e4⟩ := zj6 hb hh
   have e : x = noI := by cases x; simp_all [noI]
   have et : zr x = [42] := by unfold zr; rw [if_pos ⟨hl, hh⟩]
   exact ⟨by rw [et, e]; rfl, by rw [et]; decide, by rw [et]; decide⟩
  ·obtain ⟨k, hk, hv, e3, e4⟩ := zjp hb hh
   have et : zr x = opT k ++ x.hi := by
    unfold zr
    rw [if_neg (fun g => hh g.2), if_neg (fun g => by have := g.1; omega), e2, e3, List.nil_append, Lib.join_one]
   have e : (⟨[], 0, x.hi, x.hk⟩ : Itv) = x := by cases x; simp_all
   exact ⟨by rw [et, zd2 hk hn hv, e4, e], by rw [et]; exact zal hv (by decide +kernel) (by decide) (by decide) (by decide), by rw [et]; have := zce k hv; omega⟩
 ·obtain ⟨k, hk, hv, e1, e2⟩ := low_cond hb hl
  by_cases hh : x.hk = 0
  ·obtain ⟨e3, e4⟩ := zj6 hb hh
   have et : zr x = opT k ++ x.lo := by
    unfold zr
    rw [if_neg (fun g => hl g.1), if_neg (fun g => by have := g.2.1; omega), e1, e4, List.append_nil, Lib.join_one]
   have e : (⟨x.lo, x.lk, [], 0⟩ : Itv) = x := by cases x; simp_all
   exact ⟨by rw [et, zd2 hk hn hv, e2, e], by rw [et]; exact zal hv (by decide +kernel) (by decide) (by decide) (by decide), by rw [et]; have := zce k hv; omega⟩
  ·by_cases hq : x.lk = 1 ∧ x.hk = 1 ∧ x.lo = x.hi
   ·have et : zr x = opT 2 ++ x.lo := by
     unfold zr
     rw [if_neg (fun g => hl g.1), if_pos hq]
     rfl
    have e : xi 2 x.lo = x := by
     obtain ⟨q1, q2, q3⟩ := hq
     cases x; simp_all [xi]
    exact ⟨by rw [et, zd2 (by omega) hn hv, e], by rw [et]; exact zal hv (by decide +kernel) (by decide) (by decide) (by decide), by rw [et]; have := zce 2 hv; omega⟩
   ·obtain ⟨j, hj, hu, e3, e4⟩ := zjp hb hh
    have et : zr x = opT k ++ x.lo ++ 32 :: (opT j ++ x.hi) := by
     unfold zr
     rw [if_neg (fun g => hl g.1), if_neg hq, e1, e3]
     show Lib.join [_, _] [32] = _
     rw [Lib.join_cons]
     simp [Lib.joinTail]
    have a1 := zch (k := k) hn hv
    have a2 := zch (k := j) hn hu
    rw [e2] at a1
    rw [e4] at a2
    refine ⟨by rw [et, zkn hk hj hn hv hu, e2, e4, and_two h hl hh a1 a2], ?_, ?_⟩
    ·rw [et]
     have b1 := zal (k := k) hv (c := 124) (by decide +kernel) (by decide) (by decide) (by decide)
     have b2 := zal (k := j) hu (c := 124) (by decide +kernel) (by decide) (by decide) (by decide)
     rw [List.mem_append, List.mem_cons, not_or, not_or]
     exact ⟨b1, by decide, b2⟩
    ·rw [et]
     have b1 := zce k hv
     have b2 := zce j hu
     rw [List.length_append, List.length_cons]
     omega
theorem ok_pre {n : Int} {a b : List Itv} (h : Ok n (a ++ b)) : Ok n a := by
 refine ⟨h.sch, by have := h.len; rw [List.length_append] at this; omega, fun x hx => h.bnd x (by simp [hx]), zqn (fun k hk => ?_)⟩
 have := zht h.ord k (by rw [List.length_append]; omega)
 unfold okAt at this ⊢
 have e : ∀ j, j ≤ k → (a ++ b).getD j noI = a.getD j noI := fun j hj => by
  rw [List.getD_eq_getElem?_getD, List.getD_eq_getElem?_getD, List.getElem?_append_left (by omega)]
 rwa [e k (by omega), e (k - 1) (by omega)] at this
theorem zmk {n : Int} {a : List Itv} (h : Ok n a) {x : Itv} (hx : x ∈ a) : Ok n [x] := by
 obtain ⟨k, hk, rfl⟩ := List.getElem_of_mem hx
 have := zht h.ord k hk
 unfold okAt at this
 rw [Bool.and_eq_true] at this
 refine ⟨h.sch, by simp, fun y hy => by rw [List.mem_singleton.1 hy]; exact h.bnd _ hx, ⟨?_, ⟨(fun z hz => by cases hz), trivial⟩⟩⟩
 have := this.1
 rwa [List.getD_eq_getElem?_getD, List.getElem?_eq_getElem hk] at this
theorem zqs {n : Int} {a : List Itv} {x : Itv} (h : Ok n (a ++ [x])) : opL n orF a [x] = a ++ [x] := by
 have ha := ok_pre h
 have hx := zmk h (x := x) (by simp)
 refine zma orF ha hx h ?_ (fun q => ?_) (fun e he => ?_)
 ·unfold zo orF; rw [List.any_append]
 ·rw [zcr h.sch q h.bnd h.ord, zcr ha.sch q ha.bnd ha.ord, zcr hx.sch q hx.bnd hx.ord, List.any_append]
  rfl
 ·rw [← zhn]
  exact ze1 h.asc e he
theorem zih {n : Int} : ∀ (r a : List Itv), Ok n (a ++ r) → jq n a (r.map fun x => [x]) = some (a ++ r)
 | [], a, _ => by simp [jq]
 | x :: r, a, h => by
  have h1 : Ok n (a ++ [x] ++ r) := by rw [List.append_assoc]; exact h
  have h2 := ok_pre h1
  rw [List.map_cons]
  unfold jq
  rw [zqs h2, if_pos h2.len, zih r (a ++ [x]) h1, List.append_assoc]
  rfl
theorem zjv {n : Int} : ∀ (l : List Itv), (∀ x ∈ l, Back n x) → xx n (l.map zr) = some (l.map fun x => [x])
 | [], _ => rfl
 | x :: l, h => by
  rw [List.map_cons, List.map_cons]
  unfold xx
  rw [(h x (by simp)).alt, zjv l (fun y hy => h y (by simp [hy]))]
theorem lens_le {l : List Bs} {m : Nat} : (∀ x ∈ l, x.length ≤ m) → Lib.lens l ≤ l.length * m := by
 intro h
 induction l with
 | nil => simp [Lib.lens]
 | cons x l ih =>
  have h1 := h x (by simp)
  have h2 := ih (fun y hy => h y (by simp [hy]))
  unfold Lib.lens at h2 ⊢
  rw [List.map_cons, List.sum_cons, List.length_cons, Nat.add_mul]
  omega
theorem zl0 {r : List Bs} {x : Bs} {m : Nat} (h : ∀ y ∈ x :: r, y.length ≤ m) : (Lib.join (x :: r) orT).length ≤ (r.length + 1) * (m + 4) := by
 have h1 := lens_le h
 rw [Lib.join_length]
 rw [List.length_cons] at h1
 rw [show orT.length = 4 from rfl]
 have : (r.length + 1) * (m + 4) = (r.length + 1) * m + (r.length + 1) * 4 := Nat.mul_add _ _ _
 omega
theorem nil_nil {n : Int} (h : scheme n = true) : opL n orF [] [] = [] := zma orF (zdv h) (zdv h) (zdv h) rfl (fun q => rfl) (fun e he => by cases he)
theorem zpw {n : Int} {l : List Itv} (h : Ok n l) : xp n (kn l) = (some l, 0) := by
 have hn := h.sch
 rcases l with _ | ⟨x, r⟩
 ·unfold xp
  rw [if_pos hn, if_pos (by decide)]
  have e : Lib.split (kn []) orT = [zbv] := by
   have := zdj [] zbv (by decide)
   rwa [Lib.join_one] at this
  rw [e]
  have e2 : xx n [zbv] = some [[]] := rfl
  rw [e2]
  simp only
  unfold jq jq
  rw [nil_nil hn]
  rfl
 ·have hb : ∀ y ∈ x :: r, Back n y := fun y hy => ze3 (zmk h hy)
  have e : kn (x :: r) = Lib.join (zr x :: r.map zr) orT := rfl
  have hbar : ∀ y ∈ zr x :: r.map zr, (124 : UInt8) ∉ y := by
   intro y hy
   rw [← List.map_cons (f := zr), List.mem_map] at hy
   obtain ⟨z, hz, rfl⟩ := hy
   exact (hb z hz).bar
  have hle : ∀ y ∈ zr x :: r.map zr, y.length ≤ 133 := by
   intro y hy
   rw [← List.map_cons (f := zr), List.mem_map] at hy
   obtain ⟨z, hz, rfl⟩ := hy
   exact (hb z hz).len
  have h1 := zl0 hle
  have h2 := h.len
  rw [List.length_map] at h1
  rw [List.length_cons] at h2
  unfold xp
  rw [if_pos hn, e, if_pos (by omega), zdj _ _ hbar, ← List.map_cons (f := zr), zjv _ hb]
  have := zih (n := n) (x :: r) [] h
  simp only [this, List.nil_append]
def AltM (n : Int) (s : Bs) : Prop := s = zbv ∨ s = [42] ∨ (∃ k v, k < 5 ∧ valid n v = true ∧ s = opT k ++ v) ∨ ∃ k v j u, k < 5 ∧ j < 5 ∧ valid n v = true ∧ valid n u = true ∧ s = opT k ++ v ++ 32 :: (opT j ++ u)
theorem AltM.ok {n : Int} (hn : scheme n = true) {s : Bs} (h : AltM n s) : (124 : UInt8) ∉ s ∧ s.length ≤ 133 ∧ ∃ a, altP n s = some a := by
 rcases h with rfl | rfl | ⟨k, v, hk, hv, rfl⟩ | ⟨k, v, j, u, hk, hj, hv, hu, rfl⟩
 ·exact ⟨by decide, by decide, _, rfl⟩
 ·exact ⟨by decide, by decide, _, rfl⟩
 ·exact ⟨zal hv (by decide +kernel) (by decide) (by decide) (by decide), by have := zce k hv; omega, _, zd2 hk hn hv⟩
 ·have b1 := zal (k := k) hv (c := 124) (by decide +kernel) (by decide) (by decide) (by decide)
  have b2 := zal (k := j) hu (c := 124) (by decide +kernel) (by decide) (by decide) (by decide)
  have c1 := zce k hv
  have c2 := zce j hu
  refine ⟨by rw [List.mem_append, List.mem_cons, not_or, not_or]; exact ⟨b1, by decide, b2⟩, by rw [List.length_append, List.length_cons]; omega, _, zkn hk hj hn hv hu⟩
end Go.Proofs.YtnhfaincdabdkaaGreatDoor.V
namespace Go.Proofs.YtnhfaincdabdkaaGreatDoor.V
def yi (x : Bs) : Bool := !(x == []) && !(x == [46]) && !(x == [46, 46])
def ug (s : Bs) : Bool := (ze 47 s).all yi
def kl (s : Bs) : Bool := decide (1 ≤ s.length) && decide (s.length ≤ 200) && !decide ((0 : UInt8) ∈ s) && ug s
theorem zqd {s : Bs} (h : (47 : UInt8) ∉ s) : ug s = yi s := by
 unfold ug; rw [jl h]; simp
theorem zp5 {s : Bs} (h : (47 : UInt8) ∈ s) : ug s = (yi (s.takeWhile (· != 47)) && ug (s.drop ((s.takeWhile (· != 47)).length + 1))) := by
 unfold ug; rw [ud h]; simp
theorem zs0 (s : Bs) : ug s = if (cut1 47 s).2.2 then yi (cut1 47 s).1 && ug (cut1 47 s).2.1 else yi (cut1 47 s).1 := by
 unfold cut1
 by_cases h : (47 : UInt8) ∈ s
 ·rw [if_pos h]; simp only [if_true]; exact zp5 h
 ·rw [if_neg h]; simp only [Bool.false_eq_true, if_false]; exact zqd h
theorem zek (x : Bs) : (x = [] ∧ yi x = false) ∨ (x = [46] ∧ yi x = false) ∨ (x = [46, 46] ∧ yi x = false) ∨ ((x == []) = false ∧ (x == [46]) = false ∧ (x == [46, 46]) = false ∧ yi x = true) := by
 unfold yi
 by_cases h1 : x = []
 ·subst h1; exact .inl ⟨rfl, rfl⟩
 ·by_cases h2 : x = [46]
  ·subst h2; exact .inr (.inl ⟨rfl, rfl⟩)
  ·by_cases h3 : x = [46, 46]
   ·subst h3; exact .inr (.inr (.inl ⟨rfl, rfl⟩))
   ·have e1 : (x == []) = false := beq_eq_false_iff_ne.2 h1
    have e2 : (x == [46]) = false := beq_eq_false_iff_ne.2 h2
    have e3 : (x == [46, 46]) = false := beq_eq_false_iff_ne.2 h3
    exact .inr (.inr (.inr ⟨e1, e2, e3, by rw [e1, e2, e3]; rfl⟩))
end Go.Proofs.YtnhfaincdabdkaaGreatDoor.V
namespace Go.Proofs.YtnhfaincdabdkaaGreatDoor.V
end Go.Proofs.YtnhfaincdabdkaaGreatDoor.V
namespace Go.Proofs.YtnhfaincdabdkaaGreatDoor.V
def qb (n : Int) : Bs := if n = 1 then [115, 101, 109, 118, 101, 114] else if n = 2 then [100, 101, 98, 105, 97, 110] else if n = 3 then [100, 111, 116, 116, 101, 100] else []
def kb (s : Bs) : Int := if s = qb 1 then 1 else if s = qb 2 then 2 else if s = qb 3 then 3 else 0
theorem zfn {n : Int} (h : n = 1 ∨ n = 2 ∨ n = 3) : kb (qb n) = n := by
 rcases h with rfl | rfl | rfl <;> decide
theorem zrv {s : Bs} {k : Nat} (h1 : 1 ≤ k) (h3 : k ≤ 3) (he : s = qb k) : kb s = k := by
 subst he; exact zfn (by omega)
theorem zsp {s : Bs} (h : ∀ j : Nat, 1 ≤ j → j < 4 → ¬ s = qb j) : kb s = 0 := by
 have a : ¬ s = qb 1 := h 1 (by omega) (by omega)
 have b : ¬ s = qb 2 := h 2 (by omega) (by omega)
 have c : ¬ s = qb 3 := h 3 (by omega) (by omega)
 unfold kb; rw [if_neg a, if_neg b, if_neg c]
theorem zci (n : Int) : (qb n).length ≤ 6 := by
 unfold qb
 repeat' split
 all_goals decide
end Go.Proofs.YtnhfaincdabdkaaGreatDoor.V
namespace Go.Proofs.YtnhfaincdabdkaaGreatDoor
namespace V
def nmA (c : UInt8) : Bool := (decide (97 ≤ c.toNat) && decide (c.toNat ≤ 122)) || (decide (48 ≤ c.toNat) && decide (c.toNat ≤ 57))
def nmP (c : UInt8) : Bool := decide (c.toNat = 46) || (decide (c.toNat = 95) || decide (c.toNat = 45))
def nmAt (j : Nat) (c : UInt8) : Bool := nmA c || (decide (0 < j) && nmP c)
def NameP (s : Bs) : Prop := 1 ≤ s.length ∧ s.length ≤ 64 ∧ ∀ j (h : j < s.length), nmAt j s[j] = true
instance (s : Bs) : Decidable (NameP s) := by unfold NameP; infer_instance
def kw (s : Bs) : Bool := decide (NameP s)
theorem zmf {s : Bs} {k : Nat} (hk : k < s.length) (h : nmAt k s[k] = false) : kw s = false := decide_eq_false fun hp => by rw [hp.2.2 k hk] at h; cases h
theorem name_len {s : Bs} (h : kw s = true) : 1 ≤ s.length ∧ s.length ≤ 64 := ⟨(of_decide_eq_true h).1, (of_decide_eq_true h).2.1⟩
end V
end Go.Proofs.YtnhfaincdabdkaaGreatDoor
