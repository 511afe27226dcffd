import Derived.Test.YtcfbkcapbbhmpaaGreatDoorC39x08
import Derived.Test.YtcfbkcapbbhmpaaGreatDoorC39x01
import Derived.Lib.Join
import Derived.Lib.Split
import Derived.Lib.CountLaws
import Derived.Lib.ItoaNum
set_option linter.all false
namespace Go.Proofs.YtcfbkcapbbhmpaaGreatDoor.V
def lowT (x : Itv) : List Bs := if x.lk = 1 then [[62, 61] ++ x.lo] else if x.lk = 2 then [[62] ++ x.lo] else []
def ui (x : Itv) : List Bs := if x.hk = 1 then [[60, 61] ++ x.hi] else if x.hk = 2 then [[60] ++ x.hi] else []
def zw (x : Itv) : Bs :=
 if x.lk = 0 ∧ x.hk = 0 then [42] else if x.lk = 1 ∧ x.hk = 1 ∧ x.lo = x.hi then [61] ++ x.lo else Lib.join (lowT x ++ ui x) [32]
def zc3 : Bs := [110, 111, 110, 101]
def orT : Bs := [32, 124, 124, 32]
def xm (l : List Itv) : Bs := if l.isEmpty then zc3 else Lib.join (l.map zw) orT
def yk (n : Int) (l : List Itv) : Bs × Int := if okR n l then (xm l, 0) else ([], 1)
def opOf (s : Bs) : Option (Nat × Bs) :=
 if s.take 2 = [62, 61] then some (0, s.drop 2) else if s.take 2 = [60, 61] then some (1, s.drop 2) else if s.take 1 = [61] then some (2, s.drop 1) else if s.take 1 = [60] then some (3, s.drop 1) else if s.take 1 = [62] then some (4, s.drop 1) else none
def ki (k : Nat) (v : Bs) : Itv :=
 if k = 0 then ⟨v, 1, [], 0⟩ else if k = 1 then ⟨[], 0, v, 1⟩ else if k = 2 then ⟨v, 1, v, 1⟩ else if k = 3 then ⟨[], 0, v, 2⟩ else ⟨v, 2, [], 0⟩
def jr (n : Int) (s : Bs) : Option Itv := match opOf s with | none => none | some (k, v) => if valid n v then some (ki k v) else none
def xo (n : Int) (out : List Itv) : List Bs → Option (List Itv)
 | [] => some out
 | c :: r => match jr n c with | none => none | some x => xo n (opL n andF out [x]) r
def altP (n : Int) (s : Bs) : Option (List Itv) := if s = zc3 then some [] else if s = [42] then some [noI] else xo n [noI] (zd 32 s)
def ya (n : Int) : List Bs → Option (List (List Itv))
 | [] => some []
 | s :: r => match altP n s with | none => none | some x => match ya n r with | none => none | some xs => some (x :: xs)
def jb (n : Int) (out : List Itv) : List (List Itv) → Option (List Itv)
 | [] => some out
 | x :: r => if (opL n orF out x).length ≤ 32 then jb n (opL n orF out x) r else none
def xw (n : Int) (s : Bs) : Option (List Itv) × Int :=
 if scheme n then (if s.length ≤ 8192 then (match ya n (Lib.split s orT) with | none => (none, 2) | some xs => match jb n [] xs with | none => (none, 3) | some l => (some l, 0)) else (none, 3)) else (none, 14)
theorem zej {n : Int} {k : Nat} {v : Bs} (hn : scheme n = true) (hv : valid n v = true) : Ok n [ki k v] := by
 have hc : cmpV n v v = 0 := (zvh hn hv hv hv).2.1
 have hb : zj n (ki k v) = true ∧ uf n (ki k v) = true := by
  unfold ki zj jz uf
  repeat' split
  all_goals simp_all [cutC, Itv.low, Itv.high]
 exact ⟨hn, by simp, (fun x hx => by rw [List.mem_singleton.1 hx]; exact hb.1), hb.2, (fun z hz => by cases hz), trivial⟩
theorem zkw {n : Int} (hn : scheme n = true) {s : Bs} {x : Itv} (h : jr n s = some x) : Ok n [x] := by
 unfold jr at h
 split at h
 ·cases h
 ·split at h
  ·cases h
   exact zej hn ‹_›
  ·cases h
def Convex (n : Int) (a : List Itv) : Prop := (∀ p q r, plt p q → plt q r → inS n a p = true → inS n a r = true → inS n a q = true) ∧ (zr a = true → ∀ q r, plt q r → inS n a r = true → inS n a q = true)
theorem zkv {n : Int} {a : List Itv} (ha : Ok n a) (h : a.length ≤ 1) : Convex n a := by
 rcases a with _ | ⟨x, _ | ⟨y, l⟩⟩
 ·exact ⟨(fun p q r _ _ h => by cases h), (fun h => by cases h)⟩
 ·have e : ∀ q, inS n [x] q = inI n q x := fun q => by rw [zde ha.sch q ha.bnd ha.ord]; simp
  constructor
  ·intro p q r h1 h2 h3 h4
   rw [e] at h3 h4 ⊢
   unfold inI at h3 h4 ⊢
   simp only [Bool.and_eq_true, Bool.or_eq_true, decide_eq_true_eq, Bool.not_eq_true', decide_eq_false_iff_not] at h3 h4 ⊢
   refine ⟨h3.1.imp id fun g gq => g (qe h1 gq), h4.2.imp id fun g => qe h2 g⟩
  ·intro hf q r h2 h4
   rw [e] at h4 ⊢
   unfold inI at h4 ⊢
   have hk : x.lk = 0 := by simpa [zr] using hf
   simp only [Bool.and_eq_true, Bool.or_eq_true, decide_eq_true_eq, Bool.not_eq_true', decide_eq_false_iff_not] at h4 ⊢
   exact ⟨.inl hk, h4.2.imp id fun g => qe h2 g⟩
 ·simp at h
theorem zth {n : Int} {x : Bool} {R : List Cut} (ha : asc (poss n R)) (h1 : ∀ p q r, plt p q → plt q r → mem x (poss n R) p = true → mem x (poss n R) r = true → mem x (poss n R) q = true) (h2 : x = true → ∀ q r, plt q r → mem x (poss n R) r = true → mem x (poss n R) q = true) :
  (ofC (start x) R).length ≤ 1 := by
 cases x
 ·rcases R with _ | ⟨c, _ | ⟨d, _ | ⟨e, R⟩⟩⟩
  ·simp [start, ofC]
  ·simp [start, ofC]
  ·simp [start, ofC]
  ·exfalso
   obtain ⟨a1, a2⟩ := List.pairwise_cons.1 (show asc (pos n c :: poss n (d :: e :: R)) from ha)
   obtain ⟨b1, b2⟩ := List.pairwise_cons.1 (show asc (pos n d :: poss n (e :: R)) from a2)
   obtain ⟨c1, c2⟩ := List.pairwise_cons.1 (show asc (pos n e :: poss n R) from b2)
   have hcd := a1 (pos n d) (by simp [poss])
   have hde := b1 (pos n e) (by simp [poss])
   have hce := qe hcd hde
   have m1 : mem false (poss n (c :: d :: e :: R)) (pos n c) = true := by
    show mem false (pos n c :: pos n d :: pos n e :: poss n R) _ = true
    rw [mem_cons, if_neg (qc _), mem_cons, if_pos hcd]; rfl
   have m2 : mem false (poss n (c :: d :: e :: R)) (pos n d) = false := by
    show mem false (pos n c :: pos n d :: pos n e :: poss n R) _ = false
    rw [mem_cons, if_neg (zac hcd), mem_cons, if_neg (qc _), mem_cons, if_pos hde]; rfl
   have m3 : mem false (poss n (c :: d :: e :: R)) (pos n e) = true := by
    show mem false (pos n c :: pos n d :: pos n e :: poss n R) _ = true
    rw [mem_cons, if_neg (zac hce), mem_cons, if_neg (zac hde), mem_cons, if_neg (qc _), vd c1]; rfl
   rw [h1 _ _ _ hcd hde m1 m3] at m2
   cases m2
 ·rcases R with _ | ⟨c, _ | ⟨d, R⟩⟩
  ·simp [start, ofC]
  ·simp [start, ofC]
  ·exfalso
   obtain ⟨a1, a2⟩ := List.pairwise_cons.1 (show asc (pos n c :: poss n (d :: R)) from ha)
   obtain ⟨b1, b2⟩ := List.pairwise_cons.1 (show asc (pos n d :: poss n R) from a2)
   have hcd := a1 (pos n d) (by simp [poss])
   have m1 : mem true (poss n (c :: d :: R)) (pos n c) = false := by
    show mem true (pos n c :: pos n d :: poss n R) _ = false
    rw [mem_cons, if_neg (qc _), mem_cons, if_pos hcd]; rfl
   have m3 : mem true (poss n (c :: d :: R)) (pos n d) = true := by
    show mem true (pos n c :: pos n d :: poss n R) _ = true
    rw [mem_cons, if_neg (zac hcd), mem_cons, if_neg (qc _), vd b1]; rfl
   rw [h2 rfl _ _ hcd m3] at m1
   cases m1
structure One (n : Int) (a : List Itv) : Prop where
 ok : Ok n a
 one : a.length ≤ 1
theorem One.and {n : Int} {a b : List Itv} (ha : One n a) (hb : One n b) : One n (opL n andF a b) := by
 have h : (opL n andF a b).length ≤ 1 := by
  have ca := zkv ha.ok ha.one
  have cb := zkv hb.ok hb.one
  have hco := zax andF ha.ok hb.ok
  have both : ∀ q, mem (andF (zr a) (zr b)) (poss n (comb n andF (zr a) (zr b) (andF (zr a) (zr b)) (zh a) (zh b))) q = true ↔ inS n a q = true ∧ inS n b q = true := fun q => by
   rw [hco.val]
   show andF (inS n a q) (inS n b q) = true ↔ _
   unfold andF
   rw [Bool.and_eq_true]
  refine zth hco.asc (fun p q r h1 h2 h3 h4 => ?_) (fun hx q r h1 h2 => ?_)
  ·rw [both] at h3 h4 ⊢
   exact ⟨ca.1 p q r h1 h2 h3.1 h4.1, cb.1 p q r h1 h2 h3.2 h4.2⟩
  ·rw [both] at h2 ⊢
   unfold andF at hx
   rw [Bool.and_eq_true] at hx
   exact ⟨ca.2 hx.1 q r h1 h2.1, cb.2 hx.2 q r h1 h2.2⟩
 exact ⟨zj4 _ ha.ok hb.ok (by omega), h⟩
theorem one_nil {n : Int} (h : scheme n = true) : One n [] := ⟨zen h, by simp⟩
theorem zjp {n : Int} (h : scheme n = true) : One n [noI] := ⟨ok_all h, by simp⟩
theorem One.few {n : Int} {a : List Itv} (h : One n a) : Few n a 2 := ⟨h.ok, by have := zam a; have := h.one; omega⟩
theorem zol {n : Int} (hn : scheme n = true) : ∀ {l : List Bs} {out r : List Itv}, One n out → xo n out l = some r → One n r
 | [], out, r, h, e => by cases e; exact h
 | c :: l, out, r, h, e => by
  unfold xo at e
  split at e
  ·cases e
  ·rename_i x hx
   exact zol hn (h.and ⟨zkw hn hx, by simp⟩) e
theorem altP_one {n : Int} (hn : scheme n = true) {s : Bs} {r : List Itv} (e : altP n s = some r) : One n r := by
 unfold altP at e
 split at e
 ·cases e; exact one_nil hn
 ·split at e
  ·cases e; exact zjp hn
  ·exact zol hn (zjp hn) e
theorem zfa {n : Int} (hn : scheme n = true) : ∀ {l : List Bs} {xs : List (List Itv)}, ya n l = some xs → xs.length = l.length ∧ ∀ x ∈ xs, One n x
 | [], xs, e => by cases e; exact ⟨rfl, fun x hx => by cases hx⟩
 | s :: l, xs, e => by
  unfold ya at e
  split at e
  ·cases e
  ·rename_i x hx
   split at e
   ·cases e
   ·rename_i ys hys
    cases e
    obtain ⟨i1, i2⟩ := zfa hn hys
    refine ⟨by rw [List.length_cons, List.length_cons, i1], fun y hy => ?_⟩
    rcases List.mem_cons.1 hy with rfl | hy
    ·exact altP_one hn hx
    ·exact i2 y hy
theorem zml {n : Int} : ∀ {xs : List (List Itv)} {out r : List Itv}, Ok n out → (∀ x ∈ xs, One n x) → jb n out xs = some r → Ok n r
 | [], out, r, h, _, e => by cases e; exact h
 | x :: xs, out, r, h, hx, e => by
  unfold jb at e
  split at e
  ·rename_i h32
   exact zml (zj4 _ h (hx x (by simp)).ok h32) (fun y hy => hx y (by simp [hy])) e
  ·cases e
theorem zkl {n : Int} {s : Bs} {l : List Itv} (h : (xw n s).1 = some l) : Ok n l ∧ (xw n s).2 = 0 := by
 unfold xw at h ⊢
 split at h
 ·rename_i hn
  rw [if_pos hn]
  split at h
  ·rename_i hl
   rw [if_pos hl]
   split at h
   ·cases h
   ·rename_i xs hxs
    split at h
    ·cases h
    ·rename_i u hu
     cases h
     exact ⟨zml (zen hn) (zfa hn hxs).2 hu, rfl⟩
  ·cases h
 ·cases h
theorem zp5 {n : Int} (f : Bool → Bool → Bool) {a b c : List Itv} (ha : Ok n a) (hb : Ok n b) (hc : Ok n c) (h1 : zr c = f (zr a) (zr b)) (h2 : ∀ q, inS n c q = f (inS n a q) (inS n b q)) (h3 : ∀ e ∈ zh c, Least n (zh a ++ zh b) e) : opL n f a b = c := by
 have hco := zax f ha hb
 have e : comb n f (zr a) (zr b) (f (zr a) (zr b)) (zh a) (zh b) = zh c := by
  refine zd0 (L := zh a ++ zh b) (zpp (x := f (zr a) (zr b)) hco.asc hc.asc (fun q => ?_)) (vi ha.sch f _ _ _ _ _ _ (Nat.le_refl _) ha.cuts hb.cuts ha.asc hb.asc) h3
  rw [hco.val]
  have := h2 q
  unfold inS at this
  rw [← h1]
  exact this.symm
 unfold opL
 rw [e, ← h1]
 exact hc.norm
theorem zu3 {n : Int} : ∀ (L : List Cut), asc (poss n L) → ∀ c, c ∈ L → ∀ d, d ∈ L → pos n d = pos n c → d = c
 | [], _, c, hc, _, _, _ => by cases hc
 | e :: L, h, c, hc, d, hd, hp => by
  obtain ⟨a1, a2⟩ := List.pairwise_cons.1 (show asc (pos n e :: poss n L) from h)
  rcases List.mem_cons.1 hc with e1 | g1
  ·rcases List.mem_cons.1 hd with e2 | g2
   ·rw [e1, e2]
   ·have := a1 _ (List.mem_map.2 ⟨d, g2, rfl⟩)
    rw [hp, e1] at this
    exact absurd this (qc _)
  ·rcases List.mem_cons.1 hd with e2 | g2
   ·have := a1 _ (List.mem_map.2 ⟨c, g1, rfl⟩)
    rw [← hp, e2] at this
    exact absurd this (qc _)
   ·exact zu3 L a2 c g1 d g2 hp
theorem zhg {n : Int} {L : List Cut} (h : asc (poss n L)) : ∀ c ∈ L, Least n L c := fun c hc =>
 ⟨hc, fun d hd hp => by rw [zu3 L h c hc d hd hp, uy]; omega⟩
end Go.Proofs.YtcfbkcapbbhmpaaGreatDoor.V
namespace Go.Proofs.YtcfbkcapbbhmpaaGreatDoor.V
def chkP (n : Int) (a : List Itv) (m : Int) (b : List Itv) : Int := if okR n a && okR m b then (if n = m then 0 else 14) else 1
def limP (n : Int) (l : List Itv) : Int × List Itv × Int := if l.length ≤ 32 then (n, l, 0) else (0, [], 3)
def opP (f : Bool → Bool → Bool) (n : Int) (a : List Itv) (m : Int) (b : List Itv) : Int × List Itv × Int := if chkP n a m b = 0 then limP n (opL n f a b) else (0, [], chkP n a m b)
theorem zv4 {n m : Int} {a b : List Itv} (h : chkP n a m b = 0) : Ok n a ∧ Ok n b ∧ n = m := by
 unfold chkP at h
 split at h
 ·rename_i h1
  rw [Bool.and_eq_true] at h1
  split at h
  ·rename_i h2
   subst h2
   exact ⟨zab h1.1, zab h1.2, rfl⟩
  ·cases h
 ·cases h
theorem zpy {n : Int} {a b : List Itv} (ha : Ok n a) (hb : Ok n b) : chkP n a n b = 0 := by
 unfold chkP
 rw [of_ok ha, of_ok hb]
 simp
theorem opP_few {n : Int} {a b : List Itv} {j k : Nat} (f : Bool → Bool → Bool) (ha : Few n a j) (hb : Few n b k) (h : j + k ≤ 31) : opP f n a n b = (n, opL n f a b, 0) := by
 unfold opP limP
 rw [if_pos (zpy ha.ok hb.ok), if_pos (ha.op hb f h).len]
end Go.Proofs.YtcfbkcapbbhmpaaGreatDoor.V
namespace Go.Proofs.YtcfbkcapbbhmpaaGreatDoor.V
theorem zkx : ∀ {t : Bs} (r : Bs), (124 : UInt8) ∉ t → Lib.index (t ++ (orT ++ r)) orT = (t.length : Int)
 | [], r, _ => by
  show Lib.index (32 :: 124 :: 124 :: 32 :: r) orT = 0
  unfold Lib.index
  simp [orT, List.isPrefixOf]
 | [b], r, h => by
  rw [List.mem_singleton] at h
  show Lib.index (b :: (orT ++ r)) orT = 1
  unfold Lib.index
  have h1 : orT.isPrefixOf (b :: (orT ++ r)) = false := by simp [orT, List.isPrefixOf]
  have h2 := zkx (t := []) r (by simp)
  rw [List.nil_append] at h2
  rw [h1, h2]
  simp
 | b :: c :: t, r, h => by
  rw [List.mem_cons, List.mem_cons, not_or, not_or] at h
  have h2 := zkx (t := c :: t) r (by rw [List.mem_cons, not_or]; exact ⟨h.2.1, h.2.2⟩)
  have h1 : orT.isPrefixOf (b :: c :: t ++ (orT ++ r)) = false := by
   have hc : ((124 : UInt8) == c) = false := by simpa using h.2.1
   simp [orT, List.isPrefixOf, hc]
  rw [List.cons_append]
  unfold Lib.index
  rw [← List.cons_append, h1, h2]
  have h3 : (((c :: t).length : Int) == -1) = false := by rw [beq_eq_false_iff_ne]; omega
  rw [h3]
  simp
theorem zr4 : ∀ {t : Bs}, (124 : UInt8) ∉ t → Lib.index t orT = -1
 | [], _ => rfl
 | [b], _ => by
  unfold Lib.index
  simp [orT, List.isPrefixOf, Lib.index]
 | b :: c :: t, h => by
  rw [List.mem_cons, List.mem_cons, not_or, not_or] at h
  have h2 := zr4 (t := c :: t) (by rw [List.mem_cons, not_or]; exact ⟨h.2.1, h.2.2⟩)
  have h1 : orT.isPrefixOf (b :: c :: t) = false := by
   have hc : ((124 : UInt8) == c) = false := by simpa using h.2.1
   simp [orT, List.isPrefixOf, hc]
  unfold Lib.index
  rw [h1, h2]
  simp
theorem zfu : ∀ (r : List Bs) (x : Bs), (∀ y ∈ x :: r, (124 : UInt8) ∉ y) → Lib.split (Lib.join (x :: r) orT) orT = x :: r
 | [], x, h => by
  rw [Lib.join_one]
  unfold Lib.split
  rw [Lib.count_miss (zr4 (h x (by simp)))]
  rfl
 | y :: r, x, h => by
  have ih := zfu r y (fun z hz => h z (List.mem_cons_of_mem _ hz))
  have e : Lib.join (x :: y :: r) orT = x ++ (orT ++ Lib.join (y :: r) orT) := by
   rw [Lib.join_cons, Lib.join_cons]
   simp [Lib.joinTail, List.append_assoc]
  have hi := zkx (t := x) (Lib.join (y :: r) orT) (h x (by simp))
  rw [e]
  unfold Lib.split at ih ⊢
  rw [Lib.count_hit (by simp [orT]) hi, Nat.add_comm]
  unfold Lib.splitK
  have hne : ¬ (Lib.index (x ++ (orT ++ Lib.join (y :: r) orT)) orT == -1) = true := by rw [hi, beq_iff_eq]; omega
  rw [if_neg hne, hi]
  have ed : (x ++ (orT ++ Lib.join (y :: r) orT)).drop (x.length + orT.length) = Lib.join (y :: r) orT := by
   rw [← List.append_assoc, List.drop_left' (by simp)]
  simp only [Int.toNat_natCast, Nat.add_zero]
  rw [ed, ih, List.take_left' rfl]
def opT (k : Nat) : Bs := if k = 0 then [62, 61] else if k = 1 then [60, 61] else if k = 2 then [61] else if k = 3 then [60] else [62]
theorem valid_len {n : Int} {v : Bs} (h : valid n v = true) : 1 ≤ v.length ∧ v.length ≤ 64 := by
 unfold valid at h
 rw [Bool.and_eq_true, Bool.and_eq_true] at h
 exact ⟨by simpa using h.1.1, by simpa using h.1.2⟩
theorem opOf_op {n : Int} {v : Bs} {k : Nat} (hk : k < 5) (hv : valid n v = true) : opOf (opT k ++ v) = some (k, v) := by
 have hl := (valid_len hv).1
 have h61 : (61 : UInt8) ∉ v := ze5 hv (by decide +kernel)
 obtain ⟨b, u, rfl⟩ : ∃ b u, v = b :: u := by
  rcases v with _ | ⟨b, u⟩
  ·simp at hl
  ·exact ⟨b, u, rfl⟩
 have hb : ¬ b = 61 := fun e => h61 (by rw [e]; simp)
 have h5 : k = 0 ∨ k = 1 ∨ k = 2 ∨ k = 3 ∨ k = 4 := by omega
 rcases h5 with rfl | rfl | rfl | rfl | rfl <;> simp [opOf, opT, hb]
theorem zl6 {n : Int} {v : Bs} {k : Nat} (hk : k < 5) (hv : valid n v = true) : jr n (opT k ++ v) = some (ki k v) := by
 unfold jr
 rw [opOf_op hk hv]
 simp [hv]
theorem zek {n : Int} {v : Bs} {k : Nat} (hv : valid n v = true) {c : UInt8} (hc : verB c = false) (h1 : c ≠ 60) (h2 : c ≠ 61) (h3 : c ≠ 62) : c ∉ opT k ++ v := by
 have := ze5 hv hc
 rw [List.mem_append, not_or]
 refine ⟨?_, this⟩
 unfold opT
 repeat' split
 all_goals simp [h1, h2, h3]
theorem zun {v : Bs} (k : Nat) : ∃ b u, opT k ++ v = b :: u ∧ b ≠ 110 ∧ b ≠ 42 := by
 unfold opT
 repeat' split
 all_goals exact ⟨_, _, rfl, by decide, by decide⟩
theorem zl0 {n : Int} {v : Bs} (k : Nat) (hv : valid n v = true) : (opT k ++ v).length ≤ 66 := by
 have := (valid_len hv).2
 unfold opT
 rw [List.length_append]
 repeat' split
 all_goals (simp; omega)
theorem zic {c : UInt8} : ∀ {a : Bs} (b : Bs), c ∉ a → zd c (a ++ c :: b) = a :: zd c b
 | [], b, _ => by simp [zd]
 | d :: a, b, h => by
  rw [List.mem_cons, not_or] at h
  have h1 : (d == c) = false := by simpa using fun e => h.1 e.symm
  rw [List.cons_append, zd, h1, zic b h.2]
  simp
theorem zue {n : Int} {a : List Itv} (ha : Ok n a) : opL n andF [noI] a = a := by
 refine zp5 andF (ok_all ha.sch) ha ha ?_ (fun q => ?_) (fun e he => ?_)
 ·show _ = (zr [noI] && zr a)
  rw [show zr [noI] = true from rfl, Bool.true_and]
 ·show _ = (inS n [noI] q && inS n a q)
  rw [show inS n [noI] q = true from rfl, Bool.true_and]
 ·exact zhg (L := zh [noI] ++ zh a) (show asc (poss n (zh a)) from ha.asc) e he
theorem zp1 {n : Int} {x : Itv} (h : Ok n [x]) (q : Pos) : inS n [x] q = inI n q x := by
 rw [zde h.sch q h.bnd h.ord]; simp
theorem and_two {n : Int} {x : Itv} (hx : Ok n [x]) (hl : x.lk ≠ 0) (hh : x.hk ≠ 0) (ha : Ok n [⟨x.lo, x.lk, [], 0⟩]) (hb : Ok n [⟨[], 0, x.hi, x.hk⟩]) :
  opL n andF [⟨x.lo, x.lk, [], 0⟩] [⟨[], 0, x.hi, x.hk⟩] = [x] := by
 have hcut : zh [(⟨x.lo, x.lk, [], 0⟩ : Itv)] ++ zh [(⟨[], 0, x.hi, x.hk⟩ : Itv)] = zh [x] := by
  simp [zh, hl, hh, Itv.low, Itv.high]
 refine zp5 andF ha hb hx ?_ (fun q => ?_) (fun e he => ?_)
 ·simp [zr, andF, hl]
 ·rw [zp1 ha, zp1 hb, zp1 hx]
  simp only [inI, andF, hl, hh, Itv.low, Itv.high, decide_true, decide_false, Bool.false_or, Bool.true_or, Bool.and_true, Bool.true_and]
  rfl
 ·rw [hcut]
  exact zhg hx.asc e he
theorem zke {n : Int} {v : Bs} {k : Nat} (hk : k < 5) (hn : scheme n = true) (hv : valid n v = true) : altP n (opT k ++ v) = some [ki k v] := by
 obtain ⟨b, u, e, h1, h2⟩ := zun (v := v) k
 unfold altP
 rw [if_neg (by rw [e]; simp [zc3, h1]), if_neg (by rw [e]; simp [h2]), ka (zek hv (by decide +kernel) (by decide) (by decide) (by decide))]
 unfold xo xo
 rw [zl6 hk hv]
 simp only
 rw [zue (zej hn hv)]
theorem zvv {n : Int} {v u : Bs} {k j : Nat} (hk : k < 5) (hj : j < 5) (hn : scheme n = true) (hv : valid n v = true) (hu : valid n u = true) : altP n (opT k ++ v ++ 32 :: (opT j ++ u)) = some (opL n andF [ki k v] [ki j u]) := by
 obtain ⟨b, t, e, h1, h2⟩ := zun (v := v) k
 unfold altP
 rw [if_neg (by rw [e]; simp [zc3, h1]), if_neg (by rw [e]; simp [h2]), zic _ (zek hv (by decide +kernel) (by decide) (by decide) (by decide)), ka (zek hu (by decide +kernel) (by decide) (by decide) (by decide))]
 unfold xo xo xo
 rw [zl6 hk hv, zl6 hj hu]
 simp only
 rw [zue (zej hn hv)]
theorem low_cond {n : Int} {x : Itv} (h : zj n x = true) (hl : x.lk ≠ 0) : ∃ k, k < 5 ∧ valid n x.lo = true ∧ lowT x = [opT k ++ x.lo] ∧ ki k x.lo = ⟨x.lo, x.lk, [], 0⟩ := by
 have hv : valid n x.lo = true := ye h hl
 unfold zj at h
 rw [Bool.and_eq_true] at h
 rcases (xh h.1 hl).1 with e | e
 ·exact ⟨0, by omega, hv, by simp [lowT, e, opT], by simp [ki, e]⟩
 ·exact ⟨4, by omega, hv, by simp [lowT, e, opT], by simp [ki, e]⟩
theorem zne {n : Int} {x : Itv} (h : zj n x = true) (hl : x.hk ≠ 0) : ∃ k, k < 5 ∧ valid n x.hi = true ∧ ui x = [opT k ++ x.hi] ∧ ki k x.hi = ⟨[], 0, x.hi, x.hk⟩ := by
 have hv : valid n x.hi = true := jx h hl
 unfold zj at h
 rw [Bool.and_eq_true] at h
 rcases (xh h.2 hl).1 with e | e
 ·exact ⟨1, by omega, hv, by simp [ui, e, opT], by simp [ki, e]⟩
 ·exact ⟨3, by omega, hv, by simp [ui, e, opT], by simp [ki, e]⟩
theorem low_none {n : Int} {x : Itv} (h : zj n x = true) (hl : x.lk = 0) : x.lo = [] ∧ lowT x = [] := by
 unfold zj at h
 rw [Bool.and_eq_true] at h
 exact ⟨zcx h.1 hl, by simp [lowT, hl]⟩
theorem znz {n : Int} {x : Itv} (h : zj n x = true) (hl : x.hk = 0) : x.hi = [] ∧ ui x = [] := by
 unfold zj at h
 rw [Bool.and_eq_true] at h
 exact ⟨zcx h.2 hl, by simp [ui, hl]⟩
structure Back (n : Int) (x : Itv) : Prop where
 alt : altP n (zw x) = some [x]
 bar : (124 : UInt8) ∉ zw x
 len : (zw x).length ≤ 133
theorem zhl {n : Int} {x : Itv} (h : Ok n [x]) : Back n x := by
 have hn := h.sch
 have hb := h.bnd x (by simp)
 by_cases hl : x.lk = 0
 ·obtain ⟨e1, e2⟩ := low_none hb hl
  by_cases hh : x.hk = 0
  ·obtain ⟨e3, e4⟩ := znz hb hh
   have e : x = noI := by cases x; simp_all [noI]
   have et : zw x = [42] := by unfold zw; rw [if_pos ⟨hl, hh⟩]
   exact ⟨by rw [et, e]; rfl, by rw [et]; decide, by rw [et]; decide⟩
  ·obtain ⟨k, hk, hv, e3, e4⟩ := zne hb hh
   have et : zw x = opT k ++ x.hi := by
    unfold zw
    rw [if_neg (fun g => hh g.2), if_neg (fun g => by have := g.1; omega), e2, e3, List.nil_append, Lib.join_one]
   have e : (⟨[], 0, x.hi, x.hk⟩ : Itv) = x := by cases x; simp_all
   exact ⟨by rw [et, zke hk hn hv, e4, e], by rw [et]; exact zek hv (by decide +kernel) (by decide) (by decide) (by decide), by rw [et]; have := zl0 k hv; omega⟩
 ·obtain ⟨k, hk, hv, e1, e2⟩ := low_cond hb hl
  by_cases hh : x.hk = 0
  ·obtain ⟨e3, e4⟩ := znz hb hh
   have et : zw x = opT k ++ x.lo := by
    unfold zw
    rw [if_neg (fun g => hl g.1), if_neg (fun g => by have := g.2.1; omega), e1, e4, List.append_nil, Lib.join_one]
   have e : (⟨x.lo, x.lk, [], 0⟩ : Itv) = x := by cases x; simp_all
   exact ⟨by rw [et, zke hk hn hv, e2, e], by rw [et]; exact zek hv (by decide +kernel) (by decide) (by decide) (by decide), by rw [et]; have := zl0 k hv; omega⟩
  ·by_cases hq : x.lk = 1 ∧ x.hk = 1 ∧ x.lo = x.hi
   ·have et : zw x = opT 2 ++ x.lo := by
     unfold zw
     rw [if_neg (fun g => hl g.1), if_pos hq]
     rfl
    have e : ki 2 x.lo = x := by
     obtain ⟨q1, q2, q3⟩ := hq
     cases x; simp_all [ki]
    exact ⟨by rw [et, zke (by omega) hn hv, e], by rw [et]; exact zek hv (by decide +kernel) (by decide) (by decide) (by decide), by rw [et]; have := zl0 2 hv; omega⟩
   ·obtain ⟨j, hj, hu, e3, e4⟩ := zne hb hh
    have et : zw x = opT k ++ x.lo ++ 32 :: (opT j ++ x.hi) := by
     unfold zw
     rw [if_neg (fun g => hl g.1), if_neg hq, e1, e3]
     show Lib.join [_, _] [32] = _
     rw [Lib.join_cons]
     simp [Lib.joinTail]
    have a1 := zej (k := k) hn hv
    have a2 := zej (k := j) hn hu
    rw [e2] at a1
    rw [e4] at a2
    refine ⟨by rw [et, zvv hk hj hn hv hu, e2, e4, and_two h hl hh a1 a2], ?_, ?_⟩
    ·rw [et]
     have b1 := zek (k := k) hv (c := 124) (by decide +kernel) (by decide) (by decide) (by decide)
     have b2 := zek (k := j) hu (c := 124) (by decide +kernel) (by decide) (by decide) (by decide)
     rw [List.mem_append, List.mem_cons, not_or, not_or]
     exact ⟨b1, by decide, b2⟩
    ·rw [et]
     have b1 := zl0 k hv
     have b2 := zl0 j hu
     rw [List.length_append, List.length_cons]
     omega
theorem ok_pre {n : Int} {a b : List Itv} (h : Ok n (a ++ b)) : Ok n a := by
 refine ⟨h.sch, by have := h.len; rw [List.length_append] at this; omega, fun x hx => h.bnd x (by simp [hx]), ztz (fun k hk => ?_)⟩
 have := zle h.ord k (by rw [List.length_append]; omega)
 unfold okAt at this ⊢
 have e : ∀ j, j ≤ k → (a ++ b).getD j noI = a.getD j noI := fun j hj => by
  rw [List.getD_eq_getElem?_getD, List.getD_eq_getElem?_getD, List.getElem?_append_left (by omega)]
 rwa [e k (by omega), e (k - 1) (by omega)] at this
theorem zqe {n : Int} {a : List Itv} (h : Ok n a) {x : Itv} (hx : x ∈ a) : Ok n [x] := by
 obtain ⟨k, hk, rfl⟩ := List.getElem_of_mem hx
 have := zle h.ord k hk
 unfold okAt at this
 rw [Bool.and_eq_true] at this
 refine ⟨h.sch, by simp, fun y hy => by rw [List.mem_singleton.1 hy]; exact h.bnd _ hx, ⟨?_, ⟨(fun z hz => by cases hz), trivial⟩⟩⟩
 have := this.1
 rwa [List.getD_eq_getElem?_getD, List.getElem?_eq_getElem hk] at this
theorem zt3 {n : Int} {a : List Itv} {x : Itv} (h : Ok n (a ++ [x])) : opL n orF a [x] = a ++ [x] := by
 have ha := ok_pre h
 have hx := zqe h (x := x) (by simp)
 refine zp5 orF ha hx h ?_ (fun q => ?_) (fun e he => ?_)
 ·unfold zr orF; rw [List.any_append]
 ·rw [zde h.sch q h.bnd h.ord, zde ha.sch q ha.bnd ha.ord, zde hx.sch q hx.bnd hx.ord, List.any_append]
  rfl
 ·rw [← zaf]
  exact zhg h.asc e he
theorem zl8 {n : Int} : ∀ (r a : List Itv), Ok n (a ++ r) → jb n a (r.map fun x => [x]) = some (a ++ r)
 | [], a, _ => by simp [jb]
 | x :: r, a, h => by
  have h1 : Ok n (a ++ [x] ++ r) := by rw [List.append_assoc]; exact h
  have h2 := ok_pre h1
  rw [List.map_cons]
  unfold jb
  rw [zt3 h2, if_pos h2.len, zl8 r (a ++ [x]) h1, List.append_assoc]
  rfl
theorem znm {n : Int} : ∀ (l : List Itv), (∀ x ∈ l, Back n x) → ya n (l.map zw) = some (l.map fun x => [x])
 | [], _ => rfl
 | x :: l, h => by
  rw [List.map_cons, List.map_cons]
  unfold ya
  rw [(h x (by simp)).alt, znm l (fun y hy => h y (by simp [hy]))]
theorem lens_le {l : List Bs} {m : Nat} : (∀ x ∈ l, x.length ≤ m) → Lib.lens l ≤ l.length * m := by
 intro h
 induction l with
 | nil => simp [Lib.lens]
 | cons x l ih =>
  have h1 := h x (by simp)
  have h2 := ih (fun y hy => h y (by simp [hy]))
  unfold Lib.lens at h2 ⊢
  rw [List.map_cons, List.sum_cons, List.length_cons, Nat.add_mul]
  omega
theorem zpu {r : List Bs} {x : Bs} {m : Nat} (h : ∀ y ∈ x :: r, y.length ≤ m) : (Lib.join (x :: r) orT).length ≤ (r.length + 1) * (m + 4) := by
 have h1 := lens_le h
 rw [Lib.join_length]
 rw [List.length_cons] at h1
 rw [show orT.length = 4 from rfl]
 have : (r.length + 1) * (m + 4) = (r.length + 1) * m + (r.length + 1) * 4 := Nat.mul_add _ _ _
 omega
theorem nil_nil {n : Int} (h : scheme n = true) : opL n orF [] [] = [] := zp5 orF (zen h) (zen h) (zen h) rfl (fun q => rfl) (fun e he => by cases he)
theorem zs9 {n : Int} {l : List Itv} (h : Ok n l) : xw n (xm l) = (some l, 0) := by
 have hn := h.sch
 rcases l with _ | ⟨x, r⟩
 ·unfold xw
  rw [if_pos hn, if_pos (by decide)]
  have e : Lib.split (xm []) orT = [zc3] := by
   have := zfu [] zc3 (by decide)
   rwa [Lib.join_one] at this
  rw [e]
  have e2 : ya n [zc3] = some [[]] := rfl
  rw [e2]
  simp only
  unfold jb jb
  rw [nil_nil hn]
  rfl
 ·have hb : ∀ y ∈ x :: r, Back n y := fun y hy => zhl (zqe h hy)
  have e : xm (x :: r) = Lib.join (zw x :: r.map zw) orT := rfl
  have hbar : ∀ y ∈ zw x :: r.map zw, (124 : UInt8) ∉ y := by
   intro y hy
   rw [← List.map_cons (f := zw), List.mem_map] at hy
   obtain ⟨z, hz, rfl⟩ := hy
   exact (hb z hz).bar
  have hle : ∀ y ∈ zw x :: r.map zw, y.length ≤ 133 := by
   intro y hy
   rw [← List.map_cons (f := zw), List.mem_map] at hy
   obtain ⟨z, hz, rfl⟩ := hy
   exact (hb z hz).len
  have h1 := zpu hle
  have h2 := h.len
  rw [List.length_map] at h1
  rw [List.length_cons] at h2
  unfold xw
  rw [if_pos hn, e, if_pos (by omega), zfu _ _ hbar, ← List.map_cons (f := zw), znm _ hb]
  have := zl8 (n := n) (x :: r) [] h
  simp only [this, List.nil_append]
end Go.Proofs.YtcfbkcapbbhmpaaGreatDoor.V
namespace Go.Proofs.YtcfbkcapbbhmpaaGreatDoor.V
def vh (x : Bs) : Bool := !(x == []) && !(x == [46]) && !(x == [46, 46])
def wi (s : Bs) : Bool := (zd 47 s).all vh
def xg (s : Bs) : Bool := decide (1 ≤ s.length) && decide (s.length ≤ 200) && !decide ((0 : UInt8) ∈ s) && wi s
theorem ztq {s : Bs} (h : (47 : UInt8) ∉ s) : wi s = vh s := by
 unfold wi; rw [ka h]; simp
theorem ztj {s : Bs} (h : (47 : UInt8) ∈ s) : wi s = (vh (s.takeWhile (· != 47)) && wi (s.drop ((s.takeWhile (· != 47)).length + 1))) := by
 unfold wi; rw [vz h]; simp
theorem zv7 (s : Bs) : wi s = if (cut1 47 s).2.2 then vh (cut1 47 s).1 && wi (cut1 47 s).2.1 else vh (cut1 47 s).1 := by
 unfold cut1
 by_cases h : (47 : UInt8) ∈ s
 ·rw [if_pos h]; simp only [if_true]; exact ztj h
 ·rw [if_neg h]; simp only [Bool.false_eq_true, if_false]; exact ztq h
theorem zgt (x : Bs) : (x = [] ∧ vh x = false) ∨ (x = [46] ∧ vh x = false) ∨ (x = [46, 46] ∧ vh x = false) ∨ ((x == []) = false ∧ (x == [46]) = false ∧ (x == [46, 46]) = false ∧ vh x = true) := by
 unfold vh
 by_cases h1 : x = []
 ·subst h1; exact .inl ⟨rfl, rfl⟩
 ·by_cases h2 : x = [46]
  ·subst h2; exact .inr (.inl ⟨rfl, rfl⟩)
  ·by_cases h3 : x = [46, 46]
   ·subst h3; exact .inr (.inr (.inl ⟨rfl, rfl⟩))
   ·have e1 : (x == []) = false := beq_eq_false_iff_ne.2 h1
    have e2 : (x == [46]) = false := beq_eq_false_iff_ne.2 h2
    have e3 : (x == [46, 46]) = false := beq_eq_false_iff_ne.2 h3
    exact .inr (.inr (.inr ⟨e1, e2, e3, by rw [e1, e2, e3]; rfl⟩))
end Go.Proofs.YtcfbkcapbbhmpaaGreatDoor.V
namespace Go.Proofs.YtcfbkcapbbhmpaaGreatDoor.V
end Go.Proofs.YtcfbkcapbbhmpaaGreatDoor.V
namespace Go.Proofs.YtcfbkcapbbhmpaaGreatDoor.V
def qb (n : Int) : Bs := if n = 1 then [115, 101, 109, 118, 101, 114] else if n = 2 then [100, 101, 98, 105, 97, 110] else if n = 3 then [100, 111, 116, 116, 101, 100] else []
def qh (s : Bs) : Int := if s = qb 1 then 1 else if s = qb 2 then 2 else if s = qb 3 then 3 else 0
theorem zh8 {n : Int} (h : n = 1 ∨ n = 2 ∨ n = 3) : qh (qb n) = n := by
 rcases h with rfl | rfl | rfl <;> decide
theorem znb {s : Bs} {k : Nat} (h1 : 1 ≤ k) (h3 : k ≤ 3) (he : s = qb k) : qh s = k := by
 subst he; exact zh8 (by omega)
theorem zoj {s : Bs} (h : ∀ j : Nat, 1 ≤ j → j < 4 → ¬ s = qb j) : qh s = 0 := by
 have a : ¬ s = qb 1 := h 1 (by omega) (by omega)
 have b : ¬ s = qb 2 := h 2 (by omega) (by omega)
 have c : ¬ s = qb 3 := h 3 (by omega) (by omega)
 unfold qh; rw [if_neg a, if_neg b, if_neg c]
theorem zel (n : Int) : (qb n).length ≤ 6 := by
 unfold qb
 repeat' split
 all_goals decide
end Go.Proofs.YtcfbkcapbbhmpaaGreatDoor.V
namespace Go.Proofs.YtcfbkcapbbhmpaaGreatDoor
namespace V
def nmA (c : UInt8) : Bool := (decide (97 ≤ c.toNat) && decide (c.toNat ≤ 122)) || (decide (48 ≤ c.toNat) && decide (c.toNat ≤ 57))
def nmP (c : UInt8) : Bool := decide (c.toNat = 46) || (decide (c.toNat = 95) || decide (c.toNat = 45))
def nmAt (j : Nat) (c : UInt8) : Bool := nmA c || (decide (0 < j) && nmP c)
def NameP (s : Bs) : Prop := 1 ≤ s.length ∧ s.length ≤ 64 ∧ ∀ j (h : j < s.length), nmAt j s[j] = true
instance (s : Bs) : Decidable (NameP s) := by unfold NameP; infer_instance
def xu (s : Bs) : Bool := decide (NameP s)
theorem zp9 {s : Bs} {k : Nat} (hk : k < s.length) (h : nmAt k s[k] = false) : xu s = false := decide_eq_false fun hp => by rw [hp.2.2 k hk] at h; cases h
theorem name_len {s : Bs} (h : xu s = true) : 1 ≤ s.length ∧ s.length ≤ 64 := ⟨(of_decide_eq_true h).1, (of_decide_eq_true h).2.1⟩
end V
open Go.RowKit
namespace V
def jd (c : UInt8) : Bool := decide (33 ≤ c.toNat) && (decide (c.toNat ≤ 125) && !decide (c.toNat = 37))
def digU : Bs := [48, 49, 50, 51, 52, 53, 54, 55, 56, 57, 65, 66, 67, 68, 69, 70]
def encB (c : UInt8) : Bs := if jd c = true then [c] else [37, digU.getD (c.toNat / 16) 0, digU.getD (c.toNat % 16) 0]
def word (w : Bs) : Bs := if w.isEmpty then [126] else w.flatMap encB
def uk (c : UInt8) : Nat := if jd c = true then 1 else 3
def ww (w : Bs) : Nat := max ((w.map uk).sum) 1
theorem encB_len (c : UInt8) : (encB c).length = uk c := by unfold encB uk; split <;> rfl
theorem zv8 (c : UInt8) : 1 ≤ uk c := by unfold uk; split <;> omega
theorem sizeC_le (c : UInt8) : uk c ≤ 3 := by unfold uk; split <;> omega
theorem zkz : ∀ w : Bs, (w.flatMap encB).length = (w.map uk).sum
 | [] => rfl
 | c :: w => by rw [List.flatMap_cons, List.length_append, encB_len, zkz w, List.map_cons, List.sum_cons]
theorem sum_le (w : Bs) : (w.map uk).sum ≤ 3 * w.length := by
 induction w with
 | nil => simp
 | cons c w ih => rw [List.map_cons, List.sum_cons, List.length_cons]; have := sizeC_le c; omega
theorem le_sum (w : Bs) : w.length ≤ (w.map uk).sum := by
 induction w with
 | nil => simp
 | cons c w ih => rw [List.map_cons, List.sum_cons, List.length_cons]; have := zv8 c; omega
theorem vx (w : Bs) : (word w).length = ww w := by
 unfold word ww
 cases w with
 | nil => rfl
 | cons c r =>
  rw [List.isEmpty_cons, if_neg (by decide), zkz]
  have := le_sum (c :: r)
  rw [List.length_cons] at this
  omega
theorem xy (w : Bs) : ww w ≤ 3 * w.length + 1 := by
 unfold ww
 have := sum_le w
 omega
def jt (l : List Bs) (k : Nat) : Bs := (List.range k).flatMap fun i => (if i = 0 then [] else [32]) ++ word (l.getD i [])
def line (l : List Bs) : Bs := jt l l.length ++ [10]
def zb4 (ls : List (List Bs)) (k : Nat) : Bs := (ls.take k).flatMap line
def doc (ls : List (List Bs)) : Bs := ls.flatMap line
def jl (l : List Bs) (k : Nat) : Nat := ((l.take k).map fun w => ww w + 1).sum
def jp (ls : List (List Bs)) (k : Nat) : Nat := ((ls.take k).map fun l => jl l l.length).sum
theorem zav (l : List Bs) (k : Nat) : jt l (k + 1) = jt l k ++ ((if k = 0 then [] else [32]) ++ word (l.getD k [])) := by
 unfold jt
 rw [List.range_succ, List.flatMap_append]
 simp
theorem _root_.Go.Proofs.YtcfbkcapbbhmpaaGreatDoor.z1f {P : Prop} (h : P := by
 rw [List.take_succ_eq_append_getElem h, List.map_append, List.sum_append]
 simp) : P := h
theorem zcf {l : List Bs} {k : Nat} (h : k < l.length) : jl l (k + 1) = jl l k + (ww l[k] + 1) := by
 unfold jl
 exact z1f
theorem zdj {ls : List (List Bs)} {k : Nat} (h : k < ls.length) : zb4 ls (k + 1) = zb4 ls k ++ line ls[k] := by
 unfold zb4
 rw [List.take_succ_eq_append_getElem h, List.flatMap_append]
 simp
theorem yt {ls : List (List Bs)} {k : Nat} (h : k < ls.length) : jp ls (k + 1) = jp ls k + jl ls[k] ls[k].length := by
 unfold jp
 exact z1f
theorem zfb (ls : List (List Bs)) : zb4 ls ls.length = doc ls := by unfold zb4 doc; rw [List.take_length]
theorem zbt {l : List Bs} : ∀ k, k ≤ l.length → (jt l k).length + 1 ≤ jl l k + 1 ∧ (0 < k → (jt l k).length + 1 = jl l k)
 | 0, _ => ⟨by simp [jt, jl], fun h => by omega⟩
 | k + 1, h => by
  have ih := zbt (l := l) k (by omega)
  rw [zav, zcf (by omega), List.length_append, List.length_append, vx, List.getD_eq_getElem?_getD, List.getElem?_eq_getElem (by omega)]
  simp only [Option.getD_some]
  by_cases hk : k = 0
  ·subst hk
   have : (jt l 0).length = 0 := rfl
   have h2 : jl l 0 = 0 := rfl
   simp
   omega
  ·have := ih.2 (by omega)
   rw [if_neg hk, List.length_singleton]
   omega
theorem zgu {l : List Bs} (h : 0 < l.length) : (line l).length = jl l l.length := by
 unfold line
 rw [List.length_append, List.length_singleton]
 exact (zbt l.length (Nat.le_refl _)).2 h
theorem zbq {l : List Bs} {j k : Nat} (h : j ≤ k) (hk : k ≤ l.length) : jl l j ≤ jl l k := by
 induction k with
 | zero => obtain rfl : j = 0 := by omega
           exact Nat.le_refl _
 | succ k ih =>
  rcases Nat.lt_or_ge k j with hj | hj
  ·obtain rfl : j = k + 1 := by omega
   exact Nat.le_refl _
  ·rw [zcf (by omega)]
   have := ih hj (by omega)
   omega
theorem zcy {ls : List (List Bs)} {j k : Nat} (h : j ≤ k) (hk : k ≤ ls.length) : jp ls j ≤ jp ls k := by
 induction k with
 | zero => obtain rfl : j = 0 := by omega
           exact Nat.le_refl _
 | succ k ih =>
  rcases Nat.lt_or_ge k j with hj | hj
  ·obtain rfl : j = k + 1 := by omega
   exact Nat.le_refl _
  ·rw [yt (by omega)]
   have := ih hj (by omega)
   omega
theorem ze3 {ls : List (List Bs)} (hw : ∀ l ∈ ls, 0 < l.length) : ∀ k, k ≤ ls.length → (zb4 ls k).length = jp ls k
 | 0, _ => rfl
 | k + 1, h => by
  rw [zdj (by omega), yt (by omega), List.length_append, ze3 hw k (by omega), zgu (hw _ (List.getElem_mem (by omega)))]
structure DocOk (ls : List (List Bs)) : Prop where
 lines : ls.length ≤ 1000
 line : ∀ l ∈ ls, 0 < l.length ∧ l.length ≤ 120 ∧ ∀ w ∈ l, w.length ≤ 32768
 size : jp ls ls.length ≤ 262144
end V
open Go.RowKit
namespace V
def hexV (c : UInt8) : Option Nat := if 48 ≤ c.toNat ∧ c.toNat ≤ 57 then some (c.toNat - 48) else if 65 ≤ c.toNat ∧ c.toNat ≤ 70 then some (c.toNat - 55) else none
def qv : Bs → Option Bs
 | [] => some []
 | c :: r => if jd c = true then (qv r).map (c :: ·) else if c = 37 then
   match r with
   | a :: b :: r' => match hexV a, hexV b with
    | some x, some y => if jd (UInt8.ofNat (16 * x + y)) = true then none else (qv r').map (UInt8.ofNat (16 * x + y) :: ·)
    | _, _ => none
   | _ => none
  else none
def unwR (s : Bs) : Option Bs := if s = [126] then some [] else match qv s with | some w => if w = [] then none else some w | none => none
def escB : Bs → Option Bs
 | a :: b :: r' => match hexV a, hexV b with
  | some x, some y => if jd (UInt8.ofNat (16 * x + y)) = true then none else (qv r').map (UInt8.ofNat (16 * x + y) :: ·)
  | _, _ => none
 | _ => none
theorem zga (c : UInt8) (r : Bs) : qv (c :: r) = if jd c = true then (qv r).map (c :: ·) else if c = 37 then escB r else none := by
 match r with
 | [] => rfl
 | [_] => rfl
 | _ :: _ :: _ => rfl
theorem zd9 {c : UInt8} {r : Bs} (h : jd c = true) : qv (c :: r) = (qv r).map (c :: ·) := by rw [zga, if_pos h]
theorem zm9 {c : UInt8} {r : Bs} (h : jd c = false) (hc : c ≠ 37) : qv (c :: r) = none := by
 rw [zga, if_neg (by rw [h]; decide), if_neg hc]
theorem zox (r : Bs) : qv (37 :: r) = escB r := by rw [zga, if_neg (by decide), if_pos rfl]
theorem zeb {r : Bs} (h : r.length < 2) : qv (37 :: r) = none := by
 rw [zox]
 match r, h with
 | [], _ => rfl
 | [_], _ => rfl
theorem zhh {a b : UInt8} {r : Bs} (h : hexV a = none ∨ hexV b = none) : qv (37 :: a :: b :: r) = none := by
 rw [zox, escB]
 rcases h with h | h
 ·simp [h]
 ·cases ha : hexV a <;> simp [h]
theorem zhw {a b : UInt8} {r : Bs} {x y : Nat} (ha : hexV a = some x) (hb : hexV b = some y) : qv (37 :: a :: b :: r) = if jd (UInt8.ofNat (16 * x + y)) = true then none else (qv r).map (UInt8.ofNat (16 * x + y) :: ·) := by
 rw [zox, escB]
 simp [ha, hb]
theorem zeu {c : UInt8} {x : Nat} (h : hexV c = some x) : x < 16 := by
 unfold hexV at h
 split at h
 ·cases h; omega
 ·split at h
  ·cases h; omega
  ·cases h
theorem hexV_dig : ∀ n : Fin 256, (match hexV (UInt8.ofNat n.val) with | some x => decide (digU.getD x 0 = UInt8.ofNat n.val) | none => true) = true := by decide +kernel
theorem zno {c : UInt8} {x : Nat} (h : hexV c = some x) : digU.getD x 0 = c := by
 have := hexV_dig ⟨c.toNat, c.toNat_lt⟩
 simp only [UInt8.ofNat_toNat, h, decide_eq_true_eq] at this
 exact this
theorem enc_esc {a b : UInt8} {x y : Nat} (ha : hexV a = some x) (hb : hexV b = some y) (hp : jd (UInt8.ofNat (16 * x + y)) = false) : encB (UInt8.ofNat (16 * x + y)) = [37, a, b] := by
 have hx := zeu ha
 have hy := zeu hb
 unfold encB
 have e : (UInt8.ofNat (16 * x + y)).toNat = 16 * x + y := by simp; omega
 rw [hp, if_neg (by decide), e, show (16 * x + y) / 16 = x by omega, show (16 * x + y) % 16 = y by omega, zno ha, zno hb]
theorem zhs : ∀ (k : Nat) (s w : Bs), s.length ≤ k → qv s = some w → w.flatMap encB = s
 | _, [], w, _, h => by rw [qv] at h; cases h; rfl
 | 0, c :: r, w, hk, _ => by simp at hk
 | k + 1, c :: r, w, hk, h => by
  rw [List.length_cons] at hk
  rcases hp : jd c with _ | _
  ·by_cases hc : c = 37
   ·subst hc
    match r, h with
    | [], h => rw [zeb (by simp)] at h; cases h
    | [_], h => rw [zeb (by simp)] at h; cases h
    | a :: b :: r', h =>
     cases ha : hexV a with
     | none => rw [zhh (.inl ha)] at h; cases h
     | some x =>
      cases hb : hexV b with
      | none => rw [zhh (.inr hb)] at h; cases h
      | some y =>
       rw [zhw ha hb] at h
       split at h
       ·cases h
       ·rename_i hq
        have hq : jd (UInt8.ofNat (16 * x + y)) = false := by simpa using hq
        cases hr : qv r' with
        | none => rw [hr] at h; cases h
        | some w' =>
         rw [hr] at h
         simp only [Option.map_some, Option.some.injEq] at h
         subst h
         simp only [List.length_cons] at hk
         rw [List.flatMap_cons, zhs k r' w' (by omega) hr, enc_esc ha hb hq]
         rfl
   ·rw [zm9 hp hc] at h; cases h
  ·rw [zd9 hp] at h
   cases hr : qv r with
   | none => rw [hr] at h; cases h
   | some w' =>
    rw [hr] at h
    simp only [Option.map_some, Option.some.injEq] at h
    subst h
    rw [List.flatMap_cons, zhs k r w' (by omega) hr]
    unfold encB
    rw [if_pos hp]
    rfl
theorem znk {s w : Bs} (h : unwR s = some w) : word w = s := by
 unfold unwR at h
 split at h
 ·rename_i e
  cases h
  rw [e]; rfl
 ·cases hq : qv s with
  | none => rw [hq] at h; cases h
  | some v =>
   rw [hq] at h
   simp only at h
   split at h
   ·cases h
   ·rename_i hv
    cases h
    unfold word
    rw [if_neg (by simpa using hv)]
    exact zhs _ s _ (Nat.le_refl _) hq
theorem unw_at {s : Bs} {k : Nat} {out : Bs} (h : qv s = (qv (s.drop k)).map (out ++ ·)) (hk : k < s.length) :
  (jd s[k] = true → qv s = (qv (s.drop (k + 1))).map ((out ++ [s[k]]) ++ ·)) ∧
  (jd s[k] = false → s[k] ≠ 37 → qv s = none) ∧
  (s[k] = 37 → s.length < k + 3 → qv s = none) ∧
  (∀ h3 : k + 2 < s.length, s[k] = 37 → (hexV s[k + 1] = none ∨ hexV s[k + 2] = none) → qv s = none) ∧
  (∀ (h3 : k + 2 < s.length) x y, s[k] = 37 → hexV s[k + 1] = some x → hexV s[k + 2] = some y → (jd (UInt8.ofNat (16 * x + y)) = true → qv s = none) ∧ (jd (UInt8.ofNat (16 * x + y)) = false → qv s = (qv (s.drop (k + 3))).map ((out ++ [UInt8.ofNat (16 * x + y)]) ++ ·))) := by
 have hd := List.drop_eq_getElem_cons hk
 refine ⟨fun hp => ?_, fun hp hc => ?_, fun hc hl => ?_, fun h3 hc hb => ?_, fun h3 x y hc hx hy => ?_⟩
 ·rw [h, hd, zd9 hp]
  cases qv (s.drop (k + 1)) <;> simp
 ·rw [h, hd, zm9 hp hc]; rfl
 ·rw [h, hd, hc, zeb (by simp; omega)]; rfl
 ·have h1 := List.drop_eq_getElem_cons (show k + 1 < s.length by omega)
  have h2 := List.drop_eq_getElem_cons h3
  rw [h, hd, hc, h1, h2, zhh hb]; rfl
 ·have h1 := List.drop_eq_getElem_cons (show k + 1 < s.length by omega)
  have h2 := List.drop_eq_getElem_cons h3
  rw [hd, hc, h1, h2, zhw hx hy] at h
  refine ⟨fun hp => ?_, fun hp => ?_⟩
  ·rw [h, if_pos hp]; rfl
  ·rw [h, if_neg (by rw [hp]; decide)]
   cases qv (s.drop (k + 3)) <;> simp
end V
open Go.RowKit
namespace V
def qg : List Bs → Option (List Bs)
 | [] => some []
 | s :: r => match unwR s with | none => none | some w => (qg r).map (w :: ·)
def chk (l : List Bs) : Int := if l.length = 0 then 1 else if 120 < l.length then 3 else if (l.all fun w => decide (w.length ≤ 32768)) = true then 0 else 3
def jo : List Bs → Option (List (List Bs))
 | [] => none
 | [x] => if x = [] then some [] else none
 | x :: y :: r => match qg (zd 32 x) with | none => none | some l => if chk l = 0 then (jo (y :: r)).map (l :: ·) else none
def decP (b : Bs) : List (List Bs) × Int := if 262144 < b.length then ([], 3) else match jo (zd 10 b) with | some ls => if ls.length ≤ 1000 then (ls, 0) else ([], 2) | none => ([], 2)
def xd : List Bs → Option (List (List Bs))
 | [] => some []
 | x :: r => match qg (zd 32 x) with | none => none | some l => (xd r).map (l :: ·)
def zx : List (List Bs) → Int
 | [] => 0
 | l :: r => if chk l = 0 then zx r else chk l
def encE (ls : List (List Bs)) : Int := if 1000 < ls.length then 3 else if zx ls = 0 then (if 262144 < jp ls ls.length then 3 else 0) else zx ls
theorem zc5 {l : List Bs} : chk l = 0 ↔ 0 < l.length ∧ l.length ≤ 120 ∧ ∀ w ∈ l, w.length ≤ 32768 := by
 unfold chk
 split
 ·simp; omega
 ·split
  ·simp; omega
  ·split
   ·rename_i h
    simp only [List.all_eq_true, decide_eq_true_eq] at h
    exact ⟨fun _ => ⟨by omega, by omega, h⟩, fun _ => rfl⟩
   ·rename_i h
    simp only [List.all_eq_true, decide_eq_true_eq] at h
    exact ⟨fun e => by simp at e, fun e => absurd e.2.2 h⟩
theorem ut : ∀ {ls : List (List Bs)}, zx ls = 0 ↔ ∀ l ∈ ls, chk l = 0
 | [] => by simp [zx]
 | l :: r => by
  unfold zx
  split
  ·rename_i h
   rw [ut]
   simp [h]
  ·rename_i h
   simp [h]
theorem zi1 {ls : List (List Bs)} {k : Nat} (hk : k < ls.length) (h : zx ls = zx (ls.drop k)) : (chk ls[k] = 0 → zx ls = zx (ls.drop (k + 1))) ∧ (¬ chk ls[k] = 0 → zx ls = chk ls[k]) := by
 rw [List.drop_eq_getElem_cons hk, zx] at h
 refine ⟨fun e => ?_, fun e => ?_⟩
 ·rw [h, if_pos e]
 ·rw [h, if_neg e]
theorem zho {ls : List (List Bs)} (h : encE ls = 0) : DocOk ls := by
 unfold encE at h
 split at h
 ·cases h
 ·split at h
  ·rename_i h1 h2
   split at h
   ·cases h
   ·exact ⟨by omega, fun l hl => zc5.1 (ut.1 h2 l hl), by omega⟩
  ·rename_i h2
   exact absurd h h2
theorem zcd {x : Bs} {t : List Bs} (h : t ≠ []) : jo (x :: t) = match qg (zd 32 x) with | none => none | some l => if chk l = 0 then (jo t).map (l :: ·) else none := by
 cases t with
 | nil => exact absurd rfl h
 | cons y r => rfl
theorem zd6 : ∀ rows : List Bs, jo (rows ++ [[]]) = match xd rows with | none => none | some ls => if zx ls = 0 then some ls else none
 | [] => by simp [jo, xd, zx]
 | x :: r => by
  rw [List.cons_append, zcd (by simp), xd, zd6 r]
  cases hw : qg (zd 32 x) with
  | none => rfl
  | some l =>
   simp only
   cases hr : xd r with
   | none => simp
   | some ls =>
    simp only [Option.map_some]
    by_cases h1 : chk l = 0
    ·have e : zx (l :: ls) = zx ls := by rw [zx, if_pos h1]
     simp only [e, h1, if_true]
     by_cases h2 : zx ls = 0
     ·simp [h2]
     ·simp [h2]
    ·have e : zx (l :: ls) = chk l := by rw [zx, if_neg h1]
     simp [e, h1]
theorem zi7 (c : UInt8) : ∀ b : Bs, zd c (b ++ [c]) = zd c b ++ [[]]
 | [] => by simp [zd]
 | a :: b => by
  rw [List.cons_append, zd, zd, zi7 c b]
  split
  ·rfl
  ·cases hq : zd c b with
   | nil => exact absurd hq (zb5 c b)
   | cons y r => rfl
theorem zg2 (c : UInt8) : ∀ {b : Bs}, b ≠ [] → b.getLast? ≠ some c → ∃ t x, zd c b = t ++ [x] ∧ x ≠ []
 | [], h, _ => absurd rfl h
 | [a], _, h => by
  have : (a == c) = false := by rw [beq_eq_false_iff_ne]; intro e; subst e; simp at h
  exact ⟨[], [a], by simp [zd, this], by simp⟩
 | a :: a2 :: b, _, h => by
  obtain ⟨t, x, he, hx⟩ := zg2 c (b := a2 :: b) (by simp) (by simpa using h)
  rw [zd, he]
  split
  ·exact ⟨[] :: t, x, rfl, hx⟩
  ·cases t with
   | nil => exact ⟨[], a :: x, rfl, by simp⟩
   | cons y r => exact ⟨(a :: y) :: r, x, rfl, hx⟩
theorem zj6 : ∀ (t : List Bs) {x : Bs}, x ≠ [] → jo (t ++ [x]) = none
 | [], x, h => by simp [jo, h]
 | y :: t, x, h => by
  rw [List.cons_append, zcd (by simp), zj6 t h]
  cases qg (zd 32 y) with
  | none => rfl
  | some l => simp
theorem zlw : ∀ {r : List Bs} {l : List Bs}, qg r = some l → l.length = r.length ∧ (l.map fun w => ww w + 1).sum = (r.map fun s => s.length + 1).sum
 | [], l, h => by cases h; exact ⟨rfl, rfl⟩
 | s :: r, l, h => by
  rw [qg] at h
  cases hs : unwR s with
  | none => rw [hs] at h; cases h
  | some w =>
   rw [hs] at h
   simp only at h
   cases hr : qg r with
   | none => rw [hr] at h; cases h
   | some l' =>
    rw [hr] at h
    cases h
    have ih := zlw hr
    have hw := vx w
    rw [znk hs] at hw
    simp only [List.length_cons, List.map_cons, List.sum_cons, ih.1, ih.2, hw]
    exact ⟨trivial, trivial⟩
theorem zdx (c : UInt8) : ∀ s : Bs, ((zd c s).map fun x => x.length + 1).sum = s.length + 1
 | [] => by simp [zd]
 | a :: s => by
  have ih := zdx c s
  rw [zd]
  split
  ·simp [ih]; omega
  ·cases hq : zd c s with
   | nil => exact absurd hq (zb5 c s)
   | cons y r =>
    rw [hq] at ih
    simp only [List.map_cons, List.sum_cons, List.length_cons] at ih ⊢
    omega
theorem line_sz {x : Bs} {l : List Bs} (h : qg (zd 32 x) = some l) : jl l l.length = x.length + 1 := by
 unfold jl
 rw [List.take_length, (zlw h).2, zdx]
theorem zud : ∀ {r : List Bs} {ls : List (List Bs)}, xd r = some ls → (ls.map fun l => jl l l.length).sum = (r.map fun s => s.length + 1).sum
 | [], ls, h => by cases h; rfl
 | x :: r, ls, h => by
  rw [xd] at h
  cases hs : qg (zd 32 x) with
  | none => rw [hs] at h; cases h
  | some l =>
   rw [hs] at h
   simp only at h
   cases hr : xd r with
   | none => rw [hr] at h; cases h
   | some ls' =>
    rw [hr] at h
    cases h
    simp only [List.map_cons, List.sum_cons, zud hr, line_sz hs]
theorem doc_sz {b : Bs} {ls : List (List Bs)} (h : xd (zd 10 b) = some ls) : jp ls ls.length = b.length + 1 := by
 unfold jp
 rw [List.take_length, zud h, zdx]
theorem decP_ref {b : Bs} (hl : (b ++ [10]).length ≤ 262144) : decP (b ++ [10]) = match xd (zd 10 b) with | none => ([], 2) | some ls => if encE ls = 0 then (ls, 0) else ([], 2) := by
 unfold decP
 rw [if_neg (by omega), zi7, zd6]
 cases hr : xd (zd 10 b) with
 | none => rfl
 | some ls =>
  simp only
  have hz := doc_sz hr
  have hlen : (b ++ [(10 : UInt8)]).length = b.length + 1 := by simp
  unfold encE
  by_cases h1 : zx ls = 0
  ·rw [if_pos h1, if_pos h1, if_neg (show ¬ 262144 < jp ls ls.length by omega)]
   simp only
   by_cases h2 : ls.length ≤ 1000
   ·rw [if_pos h2, if_neg (show ¬ 1000 < ls.length by omega), if_pos rfl]
   ·rw [if_neg h2, if_pos (show 1000 < ls.length by omega), if_neg (by decide)]
  ·rw [if_neg h1, if_neg h1]
   simp only
   by_cases h2 : 1000 < ls.length
   ·rw [if_pos h2, if_neg (by decide)]
   ·rw [if_neg h2, if_neg h1]
theorem zfy : decP [] = ([], 0) := by simp [decP, zd, jo]
theorem zu8 {b : Bs} (h0 : b ≠ []) (h : b.getLast? ≠ some 10) (hl : b.length ≤ 262144) : decP b = ([], 2) := by
 obtain ⟨t, x, he, hx⟩ := zg2 10 h0 h
 unfold decP
 rw [if_neg (by omega), he, zj6 t hx]
end V
open Go.RowKit
namespace V
structure Aff where
 sch : Int
 name : Bs
 rs : Int
 its : List Itv
structure Adv where
 id : Bs
 rev : Int
 sev : Int
 aff : List Aff
def zA : Aff := ⟨0, [], 0, []⟩
def zV : Adv := ⟨[], 0, 0, []⟩
def affC (a b : Aff) : Int := orI [Lib.compareInt a.sch b.sch, Lib.compareBytes a.name b.name]
def zdr (n : Int) (r : Int) (l : List Itv) : Bool := decide (r = n) && (decide (1 ≤ l.length) && okR r l)
def kh (a : Aff) : Bool := xg a.name && zdr a.sch a.rs a.its
def zcb (l : List Aff) (i : Nat) (a : Aff) : Bool := (decide (i = 0) || decide (affC (l.getD (i - 1) zA) a < 0)) && kh a
def yu (l : List Aff) : Nat → Bool
 | 0 => true
 | k + 1 => yu l k && match l[k]? with | some a => zcb l k a | none => true
def zhb (id : Bs) (rev sev : Int) (n : Nat) : Bool := xu id && (decide (1 ≤ rev) && (decide (rev ≤ 1099511627776) && (decide (1 ≤ sev) && (decide (sev ≤ 10) && decide (n ≤ 16)))))
def qp (x : Adv) : Bool := zhb x.id x.rev x.sev x.aff.length && yu x.aff x.aff.length
theorem zb3 {l : List Aff} {k : Nat} (h : k < l.length) : yu l (k + 1) = (yu l k && zcb l k l[k]) := by
 show (yu l k && match l[k]? with | some a => zcb l k a | none => true) = _
 rw [List.getElem?_eq_getElem h]
theorem zh4 {l : List Aff} : ∀ {m k : Nat}, k ≤ m → yu l k = false → yu l m = false
 | 0, k, h, e => by obtain rfl : k = 0 := by omega
                    exact e
 | m + 1, k, h, e => by
  by_cases hk : k = m + 1
  ·subst hk; exact e
  ·have := zh4 (m := m) (by omega) e
   show (yu l m && _) = false
   rw [this]; rfl
theorem zrs {l : List Aff} {k : Nat} (h : k < l.length) (ha : zcb l k l[k] = false) : yu l l.length = false :=
 zh4 (k := k + 1) (by omega) (by rw [zb3 h, ha, Bool.and_false])
theorem zk8 {l : List Aff} : ∀ {m : Nat}, yu l m = true → ∀ k (hk : k < l.length), k < m → zcb l k l[k] = true
 | 0, _, k, _, h => absurd h (Nat.not_lt_zero _)
 | m + 1, h, k, hk, hm => by
  by_cases hml : m < l.length
  ·rw [zb3 hml, Bool.and_eq_true] at h
   by_cases e : k = m
   ·subst e; exact h.2
   ·exact zk8 h.1 k hk (by omega)
  ·have h2 : (yu l m && match l[m]? with | some a => zcb l m a | none => true) = true := h
   rw [Bool.and_eq_true] at h2
   exact zk8 h2.1 k hk (by omega)
structure AdvP (x : Adv) : Prop where
 id : xu x.id = true
 rev0 : 1 ≤ x.rev
 rev1 : x.rev ≤ 1099511627776
 sev0 : 1 ≤ x.sev
 sev1 : x.sev ≤ 10
 len : x.aff.length ≤ 16
 all : yu x.aff x.aff.length = true
theorem jh {x : Adv} (h : qp x = true) : AdvP x := by
 unfold qp zhb at h
 simp only [Bool.and_eq_true, decide_eq_true_eq] at h
 exact ⟨h.1.1, h.1.2.1, h.1.2.2.1, h.1.2.2.2.1, h.1.2.2.2.2.1, h.1.2.2.2.2.2, h.2⟩
theorem AdvP.sound {x : Adv} (h : AdvP x) {a : Aff} (ha : a ∈ x.aff) : kh a = true := by
 obtain ⟨k, hk, rfl⟩ := List.mem_iff_getElem.1 ha
 have := zk8 h.all k hk hk
 unfold zcb at this
 rw [Bool.and_eq_true] at this
 exact this.2
theorem yq {a : Aff} (h : kh a = true) : xg a.name = true ∧ a.rs = a.sch ∧ 1 ≤ a.its.length ∧ okR a.sch a.its = true := by
 unfold kh zdr at h
 simp only [Bool.and_eq_true, decide_eq_true_eq] at h
 exact ⟨h.1, h.2.1, h.2.2.1, by have := h.2.2.2; rwa [h.2.1] at this⟩
theorem okR_sch {n : Int} {l : List Itv} (h : okR n l = true) : n = 1 ∨ n = 2 ∨ n = 3 := by
 have := (zab h).sch
 unfold scheme at this
 simp only [Bool.or_eq_true, beq_iff_eq] at this
 omega
theorem zfv {s : Bs} (h : xg s = true) : s.length ≤ 200 := by
 unfold xg at h
 simp only [Bool.and_eq_true, decide_eq_true_eq] at h
 exact h.1.1.2
def advW : Bs := [97, 100, 118, 105, 115, 111, 114, 121]
def affW : Bs := [97, 102, 102, 101, 99, 116, 115]
def xp (x : Adv) : List Bs := [advW, x.id, Lib.decDigits x.rev.toNat, Lib.decDigits x.sev.toNat]
def uw (a : Aff) : List Bs := [affW, qb a.sch, a.name, xm a.its]
def jw (x : Adv) (k : Nat) : List (List Bs) := xp x :: (x.aff.take k).map uw
theorem zfo {x : Adv} {k : Nat} (h : k < x.aff.length) : jw x (k + 1) = jw x k ++ [uw x.aff[k]] := by
 unfold jw
 rw [List.take_succ_eq_append_getElem h, List.map_append]
 rfl
def qi (x : Adv) : List (List Bs) := jw x x.aff.length
def encV (x : Adv) : Bs × Int := if qp x = true then (if encE (qi x) = 0 then (doc (qi x), 0) else ([], encE (qi x))) else ([], 1)
end V
end Go.Proofs.YtcfbkcapbbhmpaaGreatDoor
namespace Go.Proofs.YtcfbkcapbbhmpaaGreatDoor.V
def EcOk (n : Int) (x : Ec) : Prop := x = ebot ∨ x = etop ∨ ∃ c : Cut, valid n c.1 = true ∧ x = eat c
theorem zbc {n : Int} {x : Itv} (h : zj n x = true) : EcOk n (eLow x) := by
 by_cases hk : x.lk = 0
 ·exact .inl (zce hk)
 ·exact .inr (.inr ⟨x.low, ye h hk, zbk h hk⟩)
theorem zbr {n : Int} {x : Itv} (h : zj n x = true) : EcOk n (ky x) := by
 by_cases hk : x.hk = 0
 ·exact .inr (.inl (zaw hk))
 ·exact .inr (.inr ⟨x.high, jx h hk, vw h hk⟩)
theorem zse {n : Int} {x : Itv} (h : zj n x = true) : decide (ecmp n (eLow x) (ky x) < 0) = uf n x := by
 unfold uf
 by_cases h1 : x.lk = 0
 ·rw [zce h1, decide_eq_true h1, Bool.true_or]
  refine decide_eq_true ?_
  by_cases h2 : x.hk = 0
  ·rw [zaw h2]; unfold ecmp ebot etop; simp
  ·rw [vw h h2]; unfold ecmp ebot eat; simp
 ·rw [decide_eq_false h1, Bool.false_or]
  by_cases h2 : x.hk = 0
  ·rw [decide_eq_true h2, Bool.true_or, zbk h h1, zaw h2]
   exact decide_eq_true (by unfold ecmp eat etop; simp)
  ·rw [decide_eq_false h2, Bool.false_or, zbk h h1, vw h h2, zev]
theorem zvi {n : Int} {y x : Itv} (hy : zj n y = true) (hx : zj n x = true) : decide (ecmp n (ky y) (eLow x) < 0) = vy n y x := by
 unfold vy
 by_cases h1 : y.hk = 0
 ·rw [zaw h1, decide_eq_true h1]
  refine decide_eq_false ?_
  by_cases h2 : x.lk = 0
  ·rw [zce h2]; unfold ecmp etop ebot; simp
  ·rw [zbk hx h2]; unfold ecmp etop eat; simp
 ·rw [decide_eq_false h1]
  by_cases h2 : x.lk = 0
  ·rw [decide_eq_true h2, vw hy h1, zce h2]
   exact decide_eq_false (by unfold ecmp eat ebot; simp)
  ·rw [decide_eq_false h2, vw hy h1, zbk hx h2, zev]
   rfl
end Go.Proofs.YtcfbkcapbbhmpaaGreatDoor.V
namespace Go.Proofs.YtcfbkcapbbhmpaaGreatDoor.V
theorem zjr {n : Int} {x : Ec} (hx : EcOk n x) : ∀ {l : List Ec}, (∀ y ∈ l, EcOk n y) → ∀ y ∈ radd n x l, EcOk n y
 | [], _, y, hy => by
  rw [radd] at hy
  rw [List.mem_singleton.1 hy]; exact hx
 | z :: l, h, y, hy => by
  have ih := zjr hx (l := l) (fun y hy => h y (by simp [hy]))
  unfold radd at hy
  split at hy
  ·rcases List.mem_cons.1 hy with rfl | hy
   ·exact h _ (by simp)
   ·exact ih y hy
  ·split at hy
   ·rcases List.mem_cons.1 hy with rfl | hy
    ·split
     ·exact h _ (by simp)
     ·exact hx
    ·exact h y (by simp [hy])
   ·rcases List.mem_cons.1 hy with rfl | hy
    ·exact hx
    ·exact h y hy
theorem zct (n : Int) (x : Ec) : ∀ l : List Ec, (radd n x l).length ≤ l.length + 1 ∧ 0 < (radd n x l).length
 | [] => by simp [radd]
 | z :: l => by
  have ih := zct n x l
  unfold radd
  split
  ·simp; omega
  ·split
   ·simp
   ·simp
theorem addI_ok {n : Int} {x : Itv} (hx : zj n x = true) {l : List Ec} (h : ∀ y ∈ l, EcOk n y) : ∀ y ∈ addI n l x, EcOk n y :=
 zjr (zbr hx) (zjr (zbc hx) h)
theorem addI_len (n : Int) (l : List Ec) (x : Itv) : (addI n l x).length ≤ l.length + 2 := by
 have h1 := (zct n (eLow x) l).1
 have h2 := (zct n (ky x) (radd n (eLow x) l)).1
 unfold addI
 omega
theorem zp4 {n : Int} : ∀ {m : List Itv} {l : List Ec}, (∀ x ∈ m, zj n x = true) → (∀ y ∈ l, EcOk n y) → ∀ y ∈ m.foldl (addI n) l, EcOk n y
 | [], _, _, h => h
 | x :: m, l, hm, h => zp4 (m := m) (fun z hz => hm z (by simp [hz])) (addI_ok (hm x (by simp)) h)
theorem zl5 (n : Int) : ∀ (m : List Itv) (l : List Ec), (m.foldl (addI n) l).length ≤ l.length + 2 * m.length
 | [], l => by simp
 | x :: m, l => by
  have h1 := zl5 n m (addI n l x)
  have h2 := addI_len n l x
  rw [List.foldl_cons, List.length_cons]
  omega
theorem zlp (n : Int) : ∀ (m : List Itv) (l : List Ec), 0 < l.length → 0 < (m.foldl (addI n) l).length
 | [], _l, h => h
 | x :: m, l, _h => zlp n m (addI n l x) (zct n _ _).2
theorem zvd {n : Int} {m : List Itv} {k : Nat} (l : List Ec) (h : k < m.length) : (m.take (k + 1)).foldl (addI n) l = radd n (ky m[k]) (radd n (eLow m[k]) ((m.take k).foldl (addI n) l)) := by
 rw [List.take_succ_eq_append_getElem h, List.foldl_append]
 rfl
theorem ends_ok (n : Int) : ∀ y ∈ [ebot, etop], EcOk n y := by
 intro y hy
 simp at hy
 rcases hy with rfl | rfl
 ·exact .inl rfl
 ·exact .inr (.inl rfl)
theorem EcOk.side {n : Int} {x : Ec} (h : EcOk n x) : 0 ≤ x.s ∧ x.s ≤ 1 := by
 rcases h with rfl | rfl | ⟨c, _, rfl⟩
 ·simp [ebot]
 ·simp [etop]
 ·unfold eat; split <;> simp
theorem _root_.Go.Proofs.YtcfbkcapbbhmpaaGreatDoor.zz7 {P : Prop} (h : P := by
 rw [List.drop_eq_getElem_cons (by omega : i < C.length), List.drop_eq_getElem_cons hi]
 rw [rrun]
 simp [hn]) : P := h
theorem zva {h : Ec → Ec → Bool} {C : List Ec} {i : Nat} (hi : i + 1 < C.length) (hn : h C[i] C[i + 1] = false) : rrun h none (C.drop i) = rrun h none (C.drop (i + 1)) := by
 exact zz7
theorem zu7 {h : Ec → Ec → Bool} {C : List Ec} {i : Nat} (hi : i + 1 < C.length) (hn : h C[i] C[i + 1] = true) : rrun h none (C.drop i) = rrun h (some C[i]) (C.drop (i + 1)) := by
 exact zz7
theorem rrun_on {h : Ec → Ec → Bool} {C : List Ec} {i : Nat} {f : Ec} (hi : i + 1 < C.length) (hn : h C[i] C[i + 1] = true) : rrun h (some f) (C.drop i) = rrun h (some f) (C.drop (i + 1)) := by
 exact zz7
theorem rrun_end {h : Ec → Ec → Bool} {C : List Ec} {i : Nat} (hi : ¬ i + 1 < C.length) : rrun h none (C.drop i) = [] := by
 have hl : (C.drop i).length ≤ 1 := by rw [List.length_drop]; omega
 rcases hd : C.drop i with _ | ⟨e, _ | ⟨e', l⟩⟩
 ·rfl
 ·rfl
 ·rw [hd] at hl; simp at hl
theorem zsr {h : Ec → Ec → Bool} {C : List Ec} {i : Nat} {f : Ec} (hi : i < C.length) (hn : ∀ hj : i + 1 < C.length, h C[i] C[i + 1] = false) : rrun h (some f) (C.drop i) = btw f C[i] :: rrun h none (C.drop i) := by
 by_cases hj : i + 1 < C.length
 ·have := hn hj
  rw [List.drop_eq_getElem_cons hi, List.drop_eq_getElem_cons hj, rrun, rrun]
  simp [this]
 ·rw [List.drop_eq_getElem_cons hi, List.drop_eq_nil_of_le (by omega), rrun, rrun]
end Go.Proofs.YtcfbkcapbbhmpaaGreatDoor.V
