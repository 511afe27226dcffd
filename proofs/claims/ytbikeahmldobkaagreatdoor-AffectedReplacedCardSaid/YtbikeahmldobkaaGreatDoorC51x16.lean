/-
  Lemmas for the law.
-/
import Derived.Test.YtbikeahmldobkaaGreatDoorC51x13
set_option linter.all false
namespace Go.Proofs.YtbikeahmldobkaaGreatDoor.V
structure Itv where
 lo : Bs
 lk : Int
 hi : Bs
 hk : Int
def Itv.low (x : Itv) : Cut := (x.lo, decide (x.lk = 2))
def Itv.high (x : Itv) : Cut := (x.hi, decide (x.hk = 1))
def jg (n : Int) (v : Bs) (k : Int) : Bool := if k = 0 then v.isEmpty else (decide (k = 1) || decide (k = 2)) && valid n v
def xw (n : Int) (x : Itv) : Bool := decide (x.lk = 0) || (decide (x.hk = 0) || decide (cutC n x.low x.high < 0))
def zap (n : Int) (y x : Itv) : Bool := !decide (y.hk = 0) && (!decide (x.lk = 0) && decide (cutC n y.high x.low < 0))
def zt (n : Int) (x : Itv) : Bool := jg n x.lo x.lk && jg n x.hi x.hk
def noI : Itv := ⟨[], 0, [], 0⟩
def okAt (n : Int) (l : List Itv) (k : Nat) : Bool := xw n (l.getD k noI) && (decide (k = 0) || zap n (l.getD (k - 1) noI) (l.getD k noI))
def ordB (n : Int) (l : List Itv) : Bool := (List.range l.length).all (okAt n l)
def okR (n : Int) (l : List Itv) : Bool := scheme n && (decide (l.length ≤ 32) && (l.all (zt n) && ordB n l))
def Ord (n : Int) : List Itv → Prop
 | [] => True
 | x :: l => xw n x = true ∧ (∀ z ∈ l.head?, zap n x z = true) ∧ Ord n l
theorem zbm (n : Int) (l : List Itv) : ordB n l = true ↔ ∀ k, k < l.length → okAt n l k = true := by
 unfold ordB
 rw [List.all_eq_true]
 exact ⟨fun h k hk => h k (List.mem_range.2 hk), fun h k hk => h k (List.mem_range.1 hk)⟩
theorem ord_of : ∀ {n : Int} {l : List Itv}, (∀ k, k < l.length → okAt n l k = true) → Ord n l
 | _, [], _ => trivial
 | n, [x], h => by
  have h0 := h 0 (by simp)
  unfold okAt at h0
  simp at h0
  exact ⟨h0, ⟨(fun z hz => by cases hz), trivial⟩⟩
 | n, x :: y :: l, h => by
  have h0 := h 0 (by simp)
  have h1 := h 1 (by simp)
  unfold okAt at h0 h1
  simp at h0 h1
  refine ⟨h0, fun z hz => ?_, ord_of (fun k hk => ?_)⟩
  ·simp at hz; subst hz; exact h1.2
  ·have h2 := h (k + 1) (by simp at hk ⊢; omega)
   unfold okAt at h2 ⊢
   rcases k with _ | k
   ·simp at h2 ⊢; exact h2.1
   ·simp at h2 ⊢; exact h2
theorem zrg : ∀ {n : Int} {l : List Itv}, Ord n l → ∀ k, k < l.length → okAt n l k = true
 | _, [], _, k, hk => by simp at hk
 | n, x :: l, h, 0, _ => by unfold okAt; simp; exact h.1
 | n, x :: l, h, k + 1, hk => by
  have ih := zrg h.2.2 k (by simp at hk; omega)
  unfold okAt at ih ⊢
  rcases k with _ | k
  ·simp at ih ⊢
   rcases l with _ | ⟨y, l⟩
   ·simp at hk
   ·exact ⟨by simpa using ih, h.2.1 y (by simp)⟩
  ·simp at ih ⊢; exact ih
def zr : List Itv → List Cut
 | [] => []
 | x :: l => (if x.lk = 0 then [] else [x.low]) ++ ((if x.hk = 0 then [] else [x.high]) ++ zr l)
def qa (l : List Itv) : Bool := l.any fun x => decide (x.lk = 0)
def mkI (a b : Option Cut) : Itv :=
 ⟨(match a with | none => [] | some c => c.1), (match a with | none => 0 | some c => if c.2 then 2 else 1), (match b with | none => [] | some c => c.1), (match b with | none => 0 | some c => if c.2 then 1 else 2)⟩
def ofC : Option (Option Cut) → List Cut → List Itv
 | none, [] => []
 | some a, [] => [mkI a none]
 | none, c :: l => ofC (some (some c)) l
 | some a, c :: l => mkI a (some c) :: ofC none l
def start (x : Bool) : Option (Option Cut) := if x then some none else none
theorem zud {n : Int} {v : Bs} {k : Int} (h : jg n v k = true) (hk : k = 0) : v = [] := by
 unfold jg at h
 rw [if_pos hk] at h
 simpa using h
theorem uz {n : Int} {v : Bs} {k : Int} (h : jg n v k = true) (hk : k ≠ 0) : (k = 1 ∨ k = 2) ∧ valid n v = true := by
 unfold jg at h
 rw [if_neg hk, Bool.and_eq_true, Bool.or_eq_true] at h
 exact ⟨by simpa using h.1, h.2⟩
def lowO (x : Itv) : Option Cut := if x.lk = 0 then none else some x.low
def highO (x : Itv) : Option Cut := if x.hk = 0 then none else some x.high
theorem zg6 (x : Itv) (l : List Itv) : zr (x :: l) = (lowO x).toList ++ ((highO x).toList ++ zr l) := by
 unfold lowO highO
 rw [zr]
 split <;> split <;> rfl
theorem zlp : ∀ {n : Int} {l : List Itv}, Ord n l → (∀ z ∈ l.head?, z.lk ≠ 0) → qa l = false
 | _, [], _, _ => rfl
 | n, x :: l, h, hx => by
  have h0 : x.lk ≠ 0 := hx x (by simp)
  have ih := zlp h.2.2 (fun z hz => by
    have := h.2.1 z hz
    unfold zap at this
    simp at this
    exact this.2.1)
  unfold qa at ih ⊢
  rw [List.any_cons, ih]
  simpa using h0
theorem zfg : ∀ (o : Option (Option Cut)) (l : List Cut), zr (ofC o l) = (match o with | some (some c) => [c] | _ => []) ++ l
 | none, [] => rfl
 | some none, [] => rfl
 | some (some c), [] => by
  obtain ⟨a, b⟩ := c
  cases b <;> rfl
 | none, c :: l => by
  have := zfg (some (some c)) l
  exact this
 | some none, c :: l => by
  have ih := zfg none l
  show zr (mkI none (some c) :: ofC none l) = c :: l
  rw [zg6, ih]
  obtain ⟨a, b⟩ := c
  cases b <;> rfl
 | some (some d), c :: l => by
  have ih := zfg none l
  show zr (mkI (some d) (some c) :: ofC none l) = d :: c :: l
  rw [zg6, ih]
  obtain ⟨a, b⟩ := c
  obtain ⟨a', b'⟩ := d
  cases b <;> cases b' <;> rfl
theorem zsg (x : Bool) (l : List Cut) : zr (ofC (start x) l) = l := by
 rw [zfg]
 cases x <;> rfl
theorem zhw : ∀ (o : Option (Option Cut)) (l : List Cut), (ofC o l).length ≤ l.length + 1
 | none, [] => by simp [ofC]
 | some a, [] => by simp [ofC]
 | none, c :: l => by have := zhw (some (some c)) l; simp only [ofC, List.length_cons]; omega
 | some a, c :: l => by have := zhw none l; simp only [ofC, List.length_cons]; omega
theorem zq9 (c : Cut) (b : Option Cut) : (mkI (some c) b).low = c := by
 obtain ⟨a, s⟩ := c
 cases s <;> rfl
theorem zsq (c : Cut) (a : Option Cut) : (mkI a (some c)).high = c := by
 obtain ⟨v, s⟩ := c
 cases s <;> rfl
theorem lk_mk (c : Cut) (b : Option Cut) : (mkI (some c) b).lk ≠ 0 := by
 obtain ⟨a, s⟩ := c
 cases s <;> simp [mkI]
theorem hk_mk (c : Cut) (a : Option Cut) : (mkI a (some c)).hk ≠ 0 := by
 obtain ⟨v, s⟩ := c
 cases s <;> simp [mkI]
theorem zln {n : Int} {a b : Option Cut} (ha : ∀ c ∈ a, valid n c.1 = true) (hb : ∀ c ∈ b, valid n c.1 = true) : zt n (mkI a b) = true := by
 unfold zt mkI jg
 rw [Bool.and_eq_true]
 constructor
 ·rcases a with _ | ⟨v, s⟩
  ·rfl
  ·have := ha (v, s) (by simp)
   cases s <;> simpa using this
 ·rcases b with _ | ⟨v, s⟩
  ·rfl
  ·have := hb (v, s) (by simp)
   cases s <;> simpa using this
theorem zep {n : Int} : ∀ (o : Option (Option Cut)) (l : List Cut), (∀ a ∈ o, ∀ c ∈ a, valid n c.1 = true) → uj n l → ∀ x ∈ ofC o l, zt n x = true
 | none, [], _, _, x, hx => by simp [ofC] at hx
 | some a, [], h, _, x, hx => by
  simp [ofC] at hx
  subst hx
  exact zln (h a (by simp)) (fun c hc => by cases hc)
 | none, c :: l, _, hl, x, hx => zep (some (some c)) l (fun a ha d hd => by
     simp at ha
     subst ha
     simp at hd
     subst hd
     exact hl _ (by simp)) (fun d hd => hl d (by simp [hd])) x hx
 | some a, c :: l, h, hl, x, hx => by
  rcases List.mem_cons.1 (show x ∈ mkI a (some c) :: ofC none l from hx) with rfl | hx
  ·exact zln (h a (by simp)) (fun d hd => by simp at hd; subst hd; exact hl _ (by simp))
  ·exact zep none l (fun a ha => by cases ha) (fun d hd => hl d (by simp [hd])) x hx
theorem zbn {n : Int} (hn : scheme n = true) {c d : Cut} (hc : valid n c.1 = true) (hd : valid n d.1 = true) : cutC n c d < 0 ↔ plt (pos n c) (pos n d) := by
 rw [zau hn hc hd]
 exact Iff.rfl
theorem zuf {_n : Int} {_c : Cut} : ∀ {l : List Cut}, ∀ z ∈ (ofC none l).head?, ∃ d m, l = d :: m ∧ z.low = d ∧ z.lk ≠ 0
 | [], z, hz => by simp [ofC] at hz
 | [d], z, hz => by
  simp [ofC] at hz
  subst hz
  exact ⟨d, [], rfl, zq9 d _, lk_mk d _⟩
 | d :: e :: m, z, hz => by
  simp [ofC] at hz
  subst hz
  exact ⟨d, e :: m, rfl, zq9 d _, lk_mk d _⟩
theorem znu {n : Int} (hn : scheme n = true) : ∀ (o : Option (Option Cut)) (l : List Cut), (∀ a ∈ o, ∀ c ∈ a, valid n c.1 = true ∧ ∀ d ∈ l, plt (pos n c) (pos n d)) → uj n l → asc (poss n l) → Ord n (ofC o l)
 | none, [], _, _, _ => trivial
 | some a, [], _, _, _ => ⟨by unfold xw; simp [mkI], fun z hz => by simp at hz, trivial⟩
 | none, c :: l, _, hl, al => by
  obtain ⟨a1, a2⟩ := List.pairwise_cons.1 (show asc (pos n c :: poss n l) from al)
  exact znu hn (some (some c)) l (fun a ha d hd => by
    simp at ha
    subst ha
    simp at hd
    subst hd
    exact ⟨hl _ (by simp), fun e he => a1 _ (List.mem_map.2 ⟨e, he, rfl⟩)⟩) (fun d hd => hl d (by simp [hd])) a2
 | some a, c :: l, h, hl, al => by
  obtain ⟨a1, a2⟩ := List.pairwise_cons.1 (show asc (pos n c :: poss n l) from al)
  have hc := hl c (by simp)
  refine ⟨?_, fun z hz => ?_, znu hn none l (fun a ha => by cases ha) (fun d hd => hl d (by simp [hd])) a2⟩
  ·unfold xw
   rcases a with _ | d
   ·simp [mkI]
   ·obtain ⟨h1, h2⟩ := h (some d) (by simp) d (by simp)
    rw [zq9, zsq, decide_eq_true ((zbn hn h1 hc).2 (h2 c (by simp)))]
    simp
  ·obtain ⟨d, m, rfl, e1, e2⟩ := zuf (_n := n) (_c := c) z hz
   unfold zap
   rw [zsq, e1, decide_eq_true ((zbn hn hc (hl d (by simp))).2 (a1 _ (by simp [poss]))), decide_eq_false (hk_mk c a), decide_eq_false e2]
   rfl
theorem okR_of {n : Int} (hn : scheme n = true) {x : Bool} {l : List Cut} (hl : uj n l) (al : asc (poss n l)) (g0 : (ofC (start x) l).length ≤ 32) : okR n (ofC (start x) l) = true := by
 have hs : ∀ a ∈ start x, ∀ c ∈ a, valid n c.1 = true ∧ ∀ d ∈ l, plt (pos n c) (pos n d) := fun a ha c hc => by
  cases x
  ·cases ha
  ·simp [start] at ha
   subst ha
   cases hc
 unfold okR
 rw [hn, decide_eq_true g0, List.all_eq_true.2 (zep _ _ (fun a ha c hc => (hs a ha c hc).1) hl), (zbm _ _).2 (zrg (znu hn _ _ hs hl al))]
 rfl
structure Ok (n : Int) (l : List Itv) : Prop where
 sch : scheme n = true
 len : l.length ≤ 32
 bnd : ∀ x ∈ l, zt n x = true
 ord : Ord n l
theorem zhi {n : Int} {l : List Itv} (h : okR n l = true) : Ok n l := by
 unfold okR at h
 rw [Bool.and_eq_true, Bool.and_eq_true, Bool.and_eq_true, List.all_eq_true] at h
 exact ⟨h.1, by simpa using h.2.1, h.2.2.1, ord_of ((zbm _ _).1 h.2.2.2)⟩
theorem of_ok {n : Int} {l : List Itv} (h : Ok n l) : okR n l = true := by
 unfold okR
 rw [h.sch, decide_eq_true h.len, List.all_eq_true.2 h.bnd, (zbm _ _).2 (zrg h.ord)]
 rfl
theorem xz {n : Int} {x : Itv} (h : zt n x = true) (hk : x.lk ≠ 0) : valid n x.low.1 = true := by
 unfold zt at h
 rw [Bool.and_eq_true] at h
 exact (uz h.1 hk).2
theorem jn {n : Int} {x : Itv} (h : zt n x = true) (hk : x.hk ≠ 0) : valid n x.high.1 = true := by
 unfold zt at h
 rw [Bool.and_eq_true] at h
 exact (uz h.2 hk).2
theorem znp : ∀ {n : Int} {l : List Itv}, (∀ x ∈ l, zt n x = true) → uj n (zr l)
 | _, [], _, c, hc => by simp [zr] at hc
 | n, x :: l, h, c, hc => by
  rw [zr, List.mem_append, List.mem_append] at hc
  rcases hc with hc | hc | hc
  ·split at hc
   ·cases hc
   ·rw [List.mem_singleton] at hc
    subst hc
    exact xz (h x (by simp)) ‹_›
  ·split at hc
   ·cases hc
   ·rw [List.mem_singleton] at hc
    subst hc
    exact jn (h x (by simp)) ‹_›
  ·exact znp (fun y hy => h y (by simp [hy])) c hc
theorem _root_.Go.Proofs.YtbikeahmldobkaaGreatDoor.zyz {P : Prop} (h : P := by
 rcases l with _ | ⟨z, l⟩
 ·rfl
 ·have := ho.2.1 z (by simp)
  unfold zap at this
  simp [hk] at this) : P := h
theorem zfm {n : Int} (hn : scheme n = true) : ∀ {l : List Itv}, (∀ x ∈ l, zt n x = true) → Ord n l → asc (poss n (zr l)) ∧ ∀ p, (∀ z ∈ l.head?, z.lk ≠ 0 ∧ plt p (pos n z.low)) → ∀ q ∈ poss n (zr l), plt p q
 | [], _, _ => ⟨List.Pairwise.nil, fun p _ q hq => by simp [poss, zr] at hq⟩
 | x :: l, hb, ho => by
  obtain ⟨i1, i2⟩ := zfm hn (fun y hy => hb y (by simp [hy])) ho.2.2
  have g1 := hb x (by simp)
  have hhi : x.hk ≠ 0 → ∀ q ∈ poss n (zr l), plt (pos n x.high) q := fun hk q hq => i2 _ (fun z hz => by
    have h1 := ho.2.1 z hz
    unfold zap at h1
    simp only [Bool.and_eq_true, Bool.not_eq_true', decide_eq_false_iff_not, decide_eq_true_eq] at h1
    have g6 : z ∈ l := by
      rcases l with _ | ⟨y, l⟩
      · cases hz
      · simp at hz; simp [hz]
    exact ⟨h1.2.1, (zbn hn (jn g1 hk) (xz (hb z (by simp [g6])) h1.2.1)).1 h1.2.2⟩) q hq
  have g5 : x.hk = 0 → l = [] := fun hk => by
   exact zyz
  have g3 : x.lk ≠ 0 → x.hk ≠ 0 → plt (pos n x.low) (pos n x.high) := fun h1 h2 => by
   have := ho.1
   unfold xw at this
   simp only [Bool.or_eq_true, decide_eq_true_eq] at this
   rcases this with h | h | h
   ·exact absurd h h1
   ·exact absurd h h2
   ·exact (zbn hn (xz g1 h1) (jn g1 h2)).1 h
  have g0 : asc (poss n ((if x.hk = 0 then [] else [x.high]) ++ zr l)) := by
   by_cases hk : x.hk = 0
   ·rw [if_pos hk]
    exact i1
   ·rw [if_neg hk]
    exact List.pairwise_cons.2 ⟨hhi hk, i1⟩
  have g2 : x.lk ≠ 0 → ∀ q ∈ poss n ((if x.hk = 0 then [] else [x.high]) ++ zr l), plt (pos n x.low) q := fun h1 q hq => by
   by_cases hk : x.hk = 0
   ·rw [if_pos hk, g5 hk] at hq
    simp [poss, zr] at hq
   ·rw [if_neg hk] at hq
    rcases List.mem_cons.1 (show q ∈ pos n x.high :: poss n (zr l) from hq) with rfl | hq
    ·exact g3 h1 hk
    ·exact qe (g3 h1 hk) (hhi hk q hq)
  rw [zr]
  by_cases hk : x.lk = 0
  ·rw [if_pos hk]
   exact ⟨g0, fun p hp => absurd hk (hp x (by simp)).1⟩
  ·rw [if_neg hk]
   refine ⟨List.pairwise_cons.2 ⟨g2 hk, g0⟩, fun p hp q hq => ?_⟩
   have g4 := (hp x (by simp)).2
   rcases List.mem_cons.1 (show q ∈ pos n x.low :: poss n _ from hq) with rfl | hq
   ·exact g4
   ·exact qe g4 (g2 hk q hq)
theorem Ok.cuts {n : Int} {l : List Itv} (h : Ok n l) : uj n (zr l) := znp h.bnd
theorem Ok.asc {n : Int} {l : List Itv} (h : Ok n l) : asc (poss n (zr l)) := (zfm h.sch h.bnd h.ord).1
theorem zct : ∀ l : List Itv, (zr l).length ≤ 2 * l.length
 | [] => by simp [zr]
 | x :: l => by
  have := zct l
  rw [zr, List.length_append, List.length_append, List.length_cons]
  split <;> split <;> simp <;> omega
def inS (n : Int) (l : List Itv) (q : Pos) : Bool := mem (qa l) (poss n (zr l)) q
def inI (n : Int) (q : Pos) (x : Itv) : Bool := (decide (x.lk = 0) || !decide (plt q (pos n x.low))) && (decide (x.hk = 0) || decide (plt q (pos n x.high)))
theorem zmo {n : Int} (hn : scheme n = true) (q : Pos) : ∀ {l : List Itv}, (∀ x ∈ l, zt n x = true) → Ord n l → inS n l q = l.any (inI n q)
 | [], _, _ => rfl
 | x :: l, hb, ho => by
  have ih := zmo hn q (fun y hy => hb y (by simp [hy])) ho.2.2
  have g5 := zfm hn hb ho
  have g2 := (zfm hn (fun y hy => hb y (by simp [hy])) ho.2.2).2
  have hl : qa l = false := by
   refine zlp ho.2.2 (fun z hz => ?_)
   have := ho.2.1 z hz
   unfold zap at this
   simp at this
   exact this.2.1
  have hf : qa (x :: l) = decide (x.lk = 0) := by
   unfold qa at hl ⊢
   rw [List.any_cons, hl, Bool.or_false]
  unfold inS at ih ⊢
  rw [hl] at ih
  rw [hf, List.any_cons, ← ih, zr]
  have g0 := hb x (by simp)
  have hhi : x.hk ≠ 0 → ∀ q ∈ poss n (zr l), plt (pos n x.high) q := fun hk q hq => g2 _ (fun z hz => by
    have h1 := ho.2.1 z hz
    unfold zap at h1
    simp only [Bool.and_eq_true, Bool.not_eq_true', decide_eq_false_iff_not, decide_eq_true_eq] at h1
    have g3 : z ∈ l := by
      rcases l with _ | ⟨y, l⟩
      · cases hz
      · simp at hz; simp [hz]
    exact ⟨h1.2.1, (zbn hn (jn g0 hk) (xz (hb z (by simp [g3])) h1.2.1)).1 h1.2.2⟩) q hq
  have g1 : x.hk = 0 → l = [] := fun hk => by
   exact zyz
  have tail : mem true (poss n ((if x.hk = 0 then [] else [x.high]) ++ zr l)) q = ((decide (x.hk = 0) || decide (plt q (pos n x.high))) || mem false (poss n (zr l)) q) := by
   by_cases hk : x.hk = 0
   ·rw [if_pos hk, g1 hk, decide_eq_true hk]
    rfl
   ·rw [if_neg hk, decide_eq_false hk]
    show mem true (pos n x.high :: poss n (zr l)) q = _
    rw [mem_cons]
    by_cases hq : plt q (pos n x.high)
    ·rw [if_pos hq, decide_eq_true hq]
     rfl
    ·rw [if_neg hq, decide_eq_false hq]
     rfl
  by_cases hk : x.lk = 0
  ·rw [if_pos hk, decide_eq_true hk, List.nil_append, tail]
   unfold inI
   rw [decide_eq_true hk, Bool.true_or, Bool.true_and]
  ·rw [if_neg hk, decide_eq_false hk]
   show mem false (pos n x.low :: poss n _) q = _
   rw [mem_cons]
   unfold inI
   by_cases hq : plt q (pos n x.low)
   ·rw [if_pos hq, decide_eq_false hk, decide_eq_true hq]
    have : mem false (poss n (zr l)) q = false := yl (fun p hp => by
      by_cases hh : x.hk = 0
      · rw [g1 hh] at hp
        simp [poss, zr] at hp
      · have g4 : plt (pos n x.low) (pos n x.high) := by
          have := ho.1
          unfold xw at this
          simp only [Bool.or_eq_true, decide_eq_true_eq] at this
          rcases this with h | h | h
          · exact absurd h hk
          · exact absurd h hh
          · exact (zbn hn (xz g0 hk) (jn g0 hh)).1 h
        exact qe hq (qe g4 (hhi hh p hp)))
    rw [this]
    rfl
   ·rw [if_neg hq, decide_eq_false hk, decide_eq_false hq]
    show mem true (poss n ((if x.hk = 0 then [] else [x.high]) ++ zr l)) q = _
    rw [tail]
    rfl
end Go.Proofs.YtbikeahmldobkaaGreatDoor.V
