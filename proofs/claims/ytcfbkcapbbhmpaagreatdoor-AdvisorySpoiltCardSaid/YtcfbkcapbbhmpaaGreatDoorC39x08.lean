import Derived.Test.YtcfbkcapbbhmpaaGreatDoorC39x01
set_option linter.all false
namespace Go.Proofs.YtcfbkcapbbhmpaaGreatDoor.V
structure Itv where
 lo : Bs
 lk : Int
 hi : Bs
 hk : Int
def Itv.low (x : Itv) : Cut := (x.lo, decide (x.lk = 2))
def Itv.high (x : Itv) : Cut := (x.hi, decide (x.hk = 1))
def jz (n : Int) (v : Bs) (k : Int) : Bool := if k = 0 then v.isEmpty else (decide (k = 1) || decide (k = 2)) && valid n v
def uf (n : Int) (x : Itv) : Bool := decide (x.lk = 0) || (decide (x.hk = 0) || decide (cutC n x.low x.high < 0))
def vy (n : Int) (y x : Itv) : Bool := !decide (y.hk = 0) && (!decide (x.lk = 0) && decide (cutC n y.high x.low < 0))
def zj (n : Int) (x : Itv) : Bool := jz n x.lo x.lk && jz n x.hi x.hk
def noI : Itv := ⟨[], 0, [], 0⟩
def okAt (n : Int) (l : List Itv) (k : Nat) : Bool := uf n (l.getD k noI) && (decide (k = 0) || vy n (l.getD (k - 1) noI) (l.getD k noI))
def ordB (n : Int) (l : List Itv) : Bool := (List.range l.length).all (okAt n l)
def okR (n : Int) (l : List Itv) : Bool := scheme n && (decide (l.length ≤ 32) && (l.all (zj n) && ordB n l))
def Ord (n : Int) : List Itv → Prop
 | [] => True
 | x :: l => uf n x = true ∧ (∀ z ∈ l.head?, vy n x z = true) ∧ Ord n l
theorem zcm (n : Int) (l : List Itv) : ordB n l = true ↔ ∀ k, k < l.length → okAt n l k = true := by
 unfold ordB
 rw [List.all_eq_true]
 exact ⟨fun h k hk => h k (List.mem_range.2 hk), fun h k hk => h k (List.mem_range.1 hk)⟩
theorem ztz : ∀ {n : Int} {l : List Itv}, (∀ k, k < l.length → okAt n l k = true) → Ord n l
 | _, [], _ => trivial
 | n, [x], h => by
  have h0 := h 0 (by simp)
  unfold okAt at h0
  simp at h0
  exact ⟨h0, ⟨(fun z hz => by cases hz), trivial⟩⟩
 | n, x :: y :: l, h => by
  have h0 := h 0 (by simp)
  have h1 := h 1 (by simp)
  unfold okAt at h0 h1
  simp at h0 h1
  refine ⟨h0, fun z hz => ?_, ztz (fun k hk => ?_)⟩
  ·simp at hz; subst hz; exact h1.2
  ·have h2 := h (k + 1) (by simp at hk ⊢; omega)
   unfold okAt at h2 ⊢
   rcases k with _ | k
   ·simp at h2 ⊢; exact h2.1
   ·simp at h2 ⊢; exact h2
theorem zle : ∀ {n : Int} {l : List Itv}, Ord n l → ∀ k, k < l.length → okAt n l k = true
 | _, [], _, k, hk => by simp at hk
 | n, x :: l, h, 0, _ => by unfold okAt; simp; exact h.1
 | n, x :: l, h, k + 1, hk => by
  have ih := zle h.2.2 k (by simp at hk; omega)
  unfold okAt at ih ⊢
  rcases k with _ | k
  ·simp at ih ⊢
   rcases l with _ | ⟨y, l⟩
   ·simp at hk
   ·exact ⟨by simpa using ih, h.2.1 y (by simp)⟩
  ·simp at ih ⊢; exact ih
def zh : List Itv → List Cut
 | [] => []
 | x :: l => (if x.lk = 0 then [] else [x.low]) ++ ((if x.hk = 0 then [] else [x.high]) ++ zh l)
def zr (l : List Itv) : Bool := l.any fun x => decide (x.lk = 0)
def mkI (a b : Option Cut) : Itv :=
 ⟨(match a with | none => [] | some c => c.1), (match a with | none => 0 | some c => if c.2 then 2 else 1), (match b with | none => [] | some c => c.1), (match b with | none => 0 | some c => if c.2 then 1 else 2)⟩
def ofC : Option (Option Cut) → List Cut → List Itv
 | none, [] => []
 | some a, [] => [mkI a none]
 | none, c :: l => ofC (some (some c)) l
 | some a, c :: l => mkI a (some c) :: ofC none l
def start (x : Bool) : Option (Option Cut) := if x then some none else none
theorem zcx {n : Int} {v : Bs} {k : Int} (h : jz n v k = true) (hk : k = 0) : v = [] := by
 unfold jz at h
 rw [if_pos hk] at h
 simpa using h
theorem xh {n : Int} {v : Bs} {k : Int} (h : jz n v k = true) (hk : k ≠ 0) : (k = 1 ∨ k = 2) ∧ valid n v = true := by
 unfold jz at h
 rw [if_neg hk, Bool.and_eq_true, Bool.or_eq_true] at h
 exact ⟨by simpa using h.1, h.2⟩
def lowO (x : Itv) : Option Cut := if x.lk = 0 then none else some x.low
def zd1 (x : Itv) : Option Cut := if x.hk = 0 then none else some x.high
theorem mkI_self {n : Int} {x : Itv} (h : zj n x = true) : mkI (lowO x) (zd1 x) = x := by
 unfold zj at h
 rw [Bool.and_eq_true] at h
 obtain ⟨a, b, c, d⟩ := x
 have h1 : (match lowO ⟨a, b, c, d⟩ with | none => ([] : Bs) | some c => c.1) = a ∧ (match lowO ⟨a, b, c, d⟩ with | none => (0 : Int) | some c => if c.2 then 2 else 1) = b := by
  unfold lowO Itv.low
  by_cases h0 : b = 0
  ·subst h0
   rw [if_pos rfl]
   exact ⟨(zcx h.1 rfl).symm, rfl⟩
  ·rw [if_neg h0]
   rcases (xh h.1 h0).1 with rfl | rfl <;> exact ⟨rfl, rfl⟩
 have h2 : (match zd1 ⟨a, b, c, d⟩ with | none => ([] : Bs) | some c => c.1) = c ∧ (match zd1 ⟨a, b, c, d⟩ with | none => (0 : Int) | some c => if c.2 then 1 else 2) = d := by
  unfold zd1 Itv.high
  by_cases h0 : d = 0
  ·subst h0
   rw [if_pos rfl]
   exact ⟨(zcx h.2 rfl).symm, rfl⟩
  ·rw [if_neg h0]
   rcases (xh h.2 h0).1 with rfl | rfl <;> exact ⟨rfl, rfl⟩
 unfold mkI
 rw [h1.1, h1.2, h2.1, h2.2]
theorem zed (x : Itv) (l : List Itv) : zh (x :: l) = (lowO x).toList ++ ((zd1 x).toList ++ zh l) := by
 unfold lowO zd1
 rw [zh]
 split <;> split <;> rfl
theorem ofC_some (a b : Option Cut) (hb : b ≠ none) (l : List Cut) : ofC (some a) (b.toList ++ l) = mkI a b :: ofC none l := by
 rcases b with _ | c
 ·exact absurd rfl hb
 ·rfl
theorem ze2 : ∀ {n : Int} {l : List Itv}, Ord n l → (∀ z ∈ l.head?, z.lk ≠ 0) → zr l = false
 | _, [], _, _ => rfl
 | n, x :: l, h, hx => by
  have h0 : x.lk ≠ 0 := hx x (by simp)
  have ih := ze2 h.2.2 (fun z hz => by
    have := h.2.1 z hz
    unfold vy at this
    simp at this
    exact this.2.1)
  unfold zr at ih ⊢
  rw [List.any_cons, ih]
  simpa using h0
theorem norm : ∀ {n : Int} {l : List Itv}, Ord n l → (∀ x ∈ l, zj n x = true) → ofC (start (zr l)) (zh l) = l
 | _, [], _, _ => rfl
 | n, x :: l, h, hb => by
  have hl : zr l = false := by
   refine ze2 h.2.2 (fun z hz => ?_)
   have := h.2.1 z hz
   unfold vy at this
   simp at this
   exact this.2.1
  have ih := norm h.2.2 (fun y hy => hb y (by simp [hy]))
  rw [hl] at ih
  have hs := mkI_self (hb x (by simp))
  have hf : zr (x :: l) = decide (x.lk = 0) := by
   unfold zr at hl ⊢
   rw [List.any_cons, hl, Bool.or_false]
  rw [hf, zed]
  have key : ofC (some (lowO x)) ((zd1 x).toList ++ zh l) = x :: l := by
   by_cases hk : x.hk = 0
   ·have : l = [] := by
     rcases l with _ | ⟨z, l⟩
     ·rfl
     ·have := h.2.1 z (by simp)
      unfold vy at this
      simp [hk] at this
    subst this
    have ho : zd1 x = none := by unfold zd1; rw [if_pos hk]
    rw [ho] at hs ⊢
    show [mkI (lowO x) none] = [x]
    rw [hs]
   ·have ho : zd1 x ≠ none := by unfold zd1; rw [if_neg hk]; simp
    rw [ofC_some _ _ ho, hs]
    exact congrArg (x :: ·) ih
  by_cases hk : x.lk = 0
  ·have ho : lowO x = none := by unfold lowO; rw [if_pos hk]
   rw [ho] at key ⊢
   rw [hk]
   exact key
  ·have ho : lowO x = some x.low := by unfold lowO; rw [if_neg hk]
   rw [ho] at key ⊢
   rw [decide_eq_false hk]
   exact key
theorem zgo : ∀ (o : Option (Option Cut)) (l : List Cut), zh (ofC o l) = (match o with | some (some c) => [c] | _ => []) ++ l
 | none, [] => rfl
 | some none, [] => rfl
 | some (some c), [] => by
  obtain ⟨a, b⟩ := c
  cases b <;> rfl
 | none, c :: l => by
  have := zgo (some (some c)) l
  exact this
 | some none, c :: l => by
  have ih := zgo none l
  show zh (mkI none (some c) :: ofC none l) = c :: l
  rw [zed, ih]
  obtain ⟨a, b⟩ := c
  cases b <;> rfl
 | some (some d), c :: l => by
  have ih := zgo none l
  show zh (mkI (some d) (some c) :: ofC none l) = d :: c :: l
  rw [zed, ih]
  obtain ⟨a, b⟩ := c
  obtain ⟨a', b'⟩ := d
  cases b <;> cases b' <;> rfl
theorem zt2 (x : Bool) (l : List Cut) : zh (ofC (start x) l) = l := by
 rw [zgo]
 cases x <;> rfl
theorem zjo : ∀ (o : Option (Option Cut)) (l : List Cut), (ofC o l).length ≤ l.length + 1
 | none, [] => by simp [ofC]
 | some a, [] => by simp [ofC]
 | none, c :: l => by have := zjo (some (some c)) l; simp only [ofC, List.length_cons]; omega
 | some a, c :: l => by have := zjo none l; simp only [ofC, List.length_cons]; omega
theorem zs6 (c : Cut) (b : Option Cut) : (mkI (some c) b).low = c := by
 obtain ⟨a, s⟩ := c
 cases s <;> rfl
theorem zub (c : Cut) (a : Option Cut) : (mkI a (some c)).high = c := by
 obtain ⟨v, s⟩ := c
 cases s <;> rfl
theorem lk_mk (c : Cut) (b : Option Cut) : (mkI (some c) b).lk ≠ 0 := by
 obtain ⟨a, s⟩ := c
 cases s <;> simp [mkI]
theorem hk_mk (c : Cut) (a : Option Cut) : (mkI a (some c)).hk ≠ 0 := by
 obtain ⟨v, s⟩ := c
 cases s <;> simp [mkI]
theorem zn0 {n : Int} {a b : Option Cut} (ha : ∀ c ∈ a, valid n c.1 = true) (hb : ∀ c ∈ b, valid n c.1 = true) : zj n (mkI a b) = true := by
 unfold zj mkI jz
 rw [Bool.and_eq_true]
 constructor
 ·rcases a with _ | ⟨v, s⟩
  ·rfl
  ·have := ha (v, s) (by simp)
   cases s <;> simpa using this
 ·rcases b with _ | ⟨v, s⟩
  ·rfl
  ·have := hb (v, s) (by simp)
   cases s <;> simpa using this
theorem zfx {n : Int} : ∀ (o : Option (Option Cut)) (l : List Cut), (∀ a ∈ o, ∀ c ∈ a, valid n c.1 = true) → wu n l → ∀ x ∈ ofC o l, zj n x = true
 | none, [], _, _, x, hx => by simp [ofC] at hx
 | some a, [], h, _, x, hx => by
  simp [ofC] at hx
  subst hx
  exact zn0 (h a (by simp)) (fun c hc => by cases hc)
 | none, c :: l, _, hl, x, hx => zfx (some (some c)) l (fun a ha d hd => by
     simp at ha
     subst ha
     simp at hd
     subst hd
     exact hl _ (by simp)) (fun d hd => hl d (by simp [hd])) x hx
 | some a, c :: l, h, hl, x, hx => by
  rcases List.mem_cons.1 (show x ∈ mkI a (some c) :: ofC none l from hx) with rfl | hx
  ·exact zn0 (h a (by simp)) (fun d hd => by simp at hd; subst hd; exact hl _ (by simp))
  ·exact zfx none l (fun a ha => by cases ha) (fun d hd => hl d (by simp [hd])) x hx
theorem zco {n : Int} (hn : scheme n = true) {c d : Cut} (hc : valid n c.1 = true) (hd : valid n d.1 = true) : cutC n c d < 0 ↔ plt (pos n c) (pos n d) := by
 rw [zby hn hc hd]
 exact Iff.rfl
theorem zvp {_n : Int} {_c : Cut} : ∀ {l : List Cut}, ∀ z ∈ (ofC none l).head?, ∃ d m, l = d :: m ∧ z.low = d ∧ z.lk ≠ 0
 | [], z, hz => by simp [ofC] at hz
 | [d], z, hz => by
  simp [ofC] at hz
  subst hz
  exact ⟨d, [], rfl, zs6 d _, lk_mk d _⟩
 | d :: e :: m, z, hz => by
  simp [ofC] at hz
  subst hz
  exact ⟨d, e :: m, rfl, zs6 d _, lk_mk d _⟩
theorem zqi {n : Int} (hn : scheme n = true) : ∀ (o : Option (Option Cut)) (l : List Cut), (∀ a ∈ o, ∀ c ∈ a, valid n c.1 = true ∧ ∀ d ∈ l, plt (pos n c) (pos n d)) → wu n l → asc (poss n l) → Ord n (ofC o l)
 | none, [], _, _, _ => trivial
 | some a, [], _, _, _ => ⟨by unfold uf; simp [mkI], fun z hz => by simp at hz, trivial⟩
 | none, c :: l, _, hl, al => by
  obtain ⟨a1, a2⟩ := List.pairwise_cons.1 (show asc (pos n c :: poss n l) from al)
  exact zqi hn (some (some c)) l (fun a ha d hd => by
    simp at ha
    subst ha
    simp at hd
    subst hd
    exact ⟨hl _ (by simp), fun e he => a1 _ (List.mem_map.2 ⟨e, he, rfl⟩)⟩) (fun d hd => hl d (by simp [hd])) a2
 | some a, c :: l, h, hl, al => by
  obtain ⟨a1, a2⟩ := List.pairwise_cons.1 (show asc (pos n c :: poss n l) from al)
  have hc := hl c (by simp)
  refine ⟨?_, fun z hz => ?_, zqi hn none l (fun a ha => by cases ha) (fun d hd => hl d (by simp [hd])) a2⟩
  ·unfold uf
   rcases a with _ | d
   ·simp [mkI]
   ·obtain ⟨h1, h2⟩ := h (some d) (by simp) d (by simp)
    rw [zs6, zub, decide_eq_true ((zco hn h1 hc).2 (h2 c (by simp)))]
    simp
  ·obtain ⟨d, m, rfl, e1, e2⟩ := zvp (_n := n) (_c := c) z hz
   unfold vy
   rw [zub, e1, decide_eq_true ((zco hn hc (hl d (by simp))).2 (a1 _ (by simp [poss]))), decide_eq_false (hk_mk c a), decide_eq_false e2]
   rfl
theorem okR_of {n : Int} (hn : scheme n = true) {x : Bool} {l : List Cut} (hl : wu n l) (al : asc (poss n l)) (hlen : (ofC (start x) l).length ≤ 32) : okR n (ofC (start x) l) = true := by
 have hs : ∀ a ∈ start x, ∀ c ∈ a, valid n c.1 = true ∧ ∀ d ∈ l, plt (pos n c) (pos n d) := fun a ha c hc => by
  cases x
  ·cases ha
  ·simp [start] at ha
   subst ha
   cases hc
 unfold okR
 rw [hn, decide_eq_true hlen, List.all_eq_true.2 (zfx _ _ (fun a ha c hc => (hs a ha c hc).1) hl), (zcm _ _).2 (zle (zqi hn _ _ hs hl al))]
 rfl
structure Ok (n : Int) (l : List Itv) : Prop where
 sch : scheme n = true
 len : l.length ≤ 32
 bnd : ∀ x ∈ l, zj n x = true
 ord : Ord n l
theorem zab {n : Int} {l : List Itv} (h : okR n l = true) : Ok n l := by
 unfold okR at h
 rw [Bool.and_eq_true, Bool.and_eq_true, Bool.and_eq_true, List.all_eq_true] at h
 exact ⟨h.1, by simpa using h.2.1, h.2.2.1, ztz ((zcm _ _).1 h.2.2.2)⟩
theorem of_ok {n : Int} {l : List Itv} (h : Ok n l) : okR n l = true := by
 unfold okR
 rw [h.sch, decide_eq_true h.len, List.all_eq_true.2 h.bnd, (zcm _ _).2 (zle h.ord)]
 rfl
theorem Ok.norm {n : Int} {l : List Itv} (h : Ok n l) : ofC (start (zr l)) (zh l) = l := V.norm h.ord h.bnd
theorem ye {n : Int} {x : Itv} (h : zj n x = true) (hk : x.lk ≠ 0) : valid n x.low.1 = true := by
 unfold zj at h
 rw [Bool.and_eq_true] at h
 exact (xh h.1 hk).2
theorem jx {n : Int} {x : Itv} (h : zj n x = true) (hk : x.hk ≠ 0) : valid n x.high.1 = true := by
 unfold zj at h
 rw [Bool.and_eq_true] at h
 exact (xh h.2 hk).2
theorem zqb : ∀ {n : Int} {l : List Itv}, (∀ x ∈ l, zj n x = true) → wu n (zh l)
 | _, [], _, c, hc => by simp [zh] at hc
 | n, x :: l, h, c, hc => by
  rw [zh, List.mem_append, List.mem_append] at hc
  rcases hc with hc | hc | hc
  ·split at hc
   ·cases hc
   ·rw [List.mem_singleton] at hc
    subst hc
    exact ye (h x (by simp)) ‹_›
  ·split at hc
   ·cases hc
   ·rw [List.mem_singleton] at hc
    subst hc
    exact jx (h x (by simp)) ‹_›
  ·exact zqb (fun y hy => h y (by simp [hy])) c hc
theorem _root_.Go.Proofs.YtcfbkcapbbhmpaaGreatDoor.z17 {P : Prop} (h : P := by
 rcases l with _ | ⟨z, l⟩
 ·rfl
 ·have := ho.2.1 z (by simp)
  unfold vy at this
  simp [hk] at this) : P := h
theorem zgr {n : Int} (hn : scheme n = true) : ∀ {l : List Itv}, (∀ x ∈ l, zj n x = true) → Ord n l → asc (poss n (zh l)) ∧ ∀ p, (∀ z ∈ l.head?, z.lk ≠ 0 ∧ plt p (pos n z.low)) → ∀ q ∈ poss n (zh l), plt p q
 | [], _, _ => ⟨List.Pairwise.nil, fun p _ q hq => by simp [poss, zh] at hq⟩
 | x :: l, hb, ho => by
  obtain ⟨i1, i2⟩ := zgr hn (fun y hy => hb y (by simp [hy])) ho.2.2
  have hbx := hb x (by simp)
  have hhi : x.hk ≠ 0 → ∀ q ∈ poss n (zh l), plt (pos n x.high) q := fun hk q hq => i2 _ (fun z hz => by
    have h1 := ho.2.1 z hz
    unfold vy at h1
    simp only [Bool.and_eq_true, Bool.not_eq_true', decide_eq_false_iff_not, decide_eq_true_eq] at h1
    have hz' : z ∈ l := by
      rcases l with _ | ⟨y, l⟩
      · cases hz
      · simp at hz; simp [hz]
    exact ⟨h1.2.1, (zco hn (jx hbx hk) (ye (hb z (by simp [hz'])) h1.2.1)).1 h1.2.2⟩) q hq
  have hnil : x.hk = 0 → l = [] := fun hk => by
   exact z17
  have hin : x.lk ≠ 0 → x.hk ≠ 0 → plt (pos n x.low) (pos n x.high) := fun h1 h2 => by
   have := ho.1
   unfold uf at this
   simp only [Bool.or_eq_true, decide_eq_true_eq] at this
   rcases this with h | h | h
   ·exact absurd h h1
   ·exact absurd h h2
   ·exact (zco hn (ye hbx h1) (jx hbx h2)).1 h
  have htail : asc (poss n ((if x.hk = 0 then [] else [x.high]) ++ zh l)) := by
   by_cases hk : x.hk = 0
   ·rw [if_pos hk]
    exact i1
   ·rw [if_neg hk]
    exact List.pairwise_cons.2 ⟨hhi hk, i1⟩
  have hlow : x.lk ≠ 0 → ∀ q ∈ poss n ((if x.hk = 0 then [] else [x.high]) ++ zh l), plt (pos n x.low) q := fun h1 q hq => by
   by_cases hk : x.hk = 0
   ·rw [if_pos hk, hnil hk] at hq
    simp [poss, zh] at hq
   ·rw [if_neg hk] at hq
    rcases List.mem_cons.1 (show q ∈ pos n x.high :: poss n (zh l) from hq) with rfl | hq
    ·exact hin h1 hk
    ·exact qe (hin h1 hk) (hhi hk q hq)
  rw [zh]
  by_cases hk : x.lk = 0
  ·rw [if_pos hk]
   exact ⟨htail, fun p hp => absurd hk (hp x (by simp)).1⟩
  ·rw [if_neg hk]
   refine ⟨List.pairwise_cons.2 ⟨hlow hk, htail⟩, fun p hp q hq => ?_⟩
   have hpx := (hp x (by simp)).2
   rcases List.mem_cons.1 (show q ∈ pos n x.low :: poss n _ from hq) with rfl | hq
   ·exact hpx
   ·exact qe hpx (hlow hk q hq)
theorem Ok.cuts {n : Int} {l : List Itv} (h : Ok n l) : wu n (zh l) := zqb h.bnd
theorem Ok.asc {n : Int} {l : List Itv} (h : Ok n l) : asc (poss n (zh l)) := (zgr h.sch h.bnd h.ord).1
theorem zam : ∀ l : List Itv, (zh l).length ≤ 2 * l.length
 | [] => by simp [zh]
 | x :: l => by
  have := zam l
  rw [zh, List.length_append, List.length_append, List.length_cons]
  split <;> split <;> simp <;> omega
def inS (n : Int) (l : List Itv) (q : Pos) : Bool := mem (zr l) (poss n (zh l)) q
def inI (n : Int) (q : Pos) (x : Itv) : Bool := (decide (x.lk = 0) || !decide (plt q (pos n x.low))) && (decide (x.hk = 0) || decide (plt q (pos n x.high)))
theorem zde {n : Int} (hn : scheme n = true) (q : Pos) : ∀ {l : List Itv}, (∀ x ∈ l, zj n x = true) → Ord n l → inS n l q = l.any (inI n q)
 | [], _, _ => rfl
 | x :: l, hb, ho => by
  have ih := zde hn q (fun y hy => hb y (by simp [hy])) ho.2.2
  have hca := zgr hn hb ho
  have hca2 := (zgr hn (fun y hy => hb y (by simp [hy])) ho.2.2).2
  have hl : zr l = false := by
   refine ze2 ho.2.2 (fun z hz => ?_)
   have := ho.2.1 z hz
   unfold vy at this
   simp at this
   exact this.2.1
  have hf : zr (x :: l) = decide (x.lk = 0) := by
   unfold zr at hl ⊢
   rw [List.any_cons, hl, Bool.or_false]
  unfold inS at ih ⊢
  rw [hl] at ih
  rw [hf, List.any_cons, ← ih, zh]
  have hbx := hb x (by simp)
  have hhi : x.hk ≠ 0 → ∀ q ∈ poss n (zh l), plt (pos n x.high) q := fun hk q hq => hca2 _ (fun z hz => by
    have h1 := ho.2.1 z hz
    unfold vy at h1
    simp only [Bool.and_eq_true, Bool.not_eq_true', decide_eq_false_iff_not, decide_eq_true_eq] at h1
    have hz' : z ∈ l := by
      rcases l with _ | ⟨y, l⟩
      · cases hz
      · simp at hz; simp [hz]
    exact ⟨h1.2.1, (zco hn (jx hbx hk) (ye (hb z (by simp [hz'])) h1.2.1)).1 h1.2.2⟩) q hq
  have hnil : x.hk = 0 → l = [] := fun hk => by
   exact z17
  have tail : mem true (poss n ((if x.hk = 0 then [] else [x.high]) ++ zh l)) q = ((decide (x.hk = 0) || decide (plt q (pos n x.high))) || mem false (poss n (zh l)) q) := by
   by_cases hk : x.hk = 0
   ·rw [if_pos hk, hnil hk, decide_eq_true hk]
    rfl
   ·rw [if_neg hk, decide_eq_false hk]
    show mem true (pos n x.high :: poss n (zh l)) q = _
    rw [mem_cons]
    by_cases hq : plt q (pos n x.high)
    ·rw [if_pos hq, decide_eq_true hq]
     rfl
    ·rw [if_neg hq, decide_eq_false hq]
     rfl
  by_cases hk : x.lk = 0
  ·rw [if_pos hk, decide_eq_true hk, List.nil_append, tail]
   unfold inI
   rw [decide_eq_true hk, Bool.true_or, Bool.true_and]
  ·rw [if_neg hk, decide_eq_false hk]
   show mem false (pos n x.low :: poss n _) q = _
   rw [mem_cons]
   unfold inI
   by_cases hq : plt q (pos n x.low)
   ·rw [if_pos hq, decide_eq_false hk, decide_eq_true hq]
    have : mem false (poss n (zh l)) q = false := vd (fun p hp => by
      by_cases hh : x.hk = 0
      · rw [hnil hh] at hp
        simp [poss, zh] at hp
      · have hin : plt (pos n x.low) (pos n x.high) := by
          have := ho.1
          unfold uf at this
          simp only [Bool.or_eq_true, decide_eq_true_eq] at this
          rcases this with h | h | h
          · exact absurd h hk
          · exact absurd h hh
          · exact (zco hn (ye hbx hk) (jx hbx hh)).1 h
        exact qe hq (qe hin (hhi hh p hp)))
    rw [this]
    rfl
   ·rw [if_neg hq, decide_eq_false hk, decide_eq_false hq]
    show mem true (poss n ((if x.hk = 0 then [] else [x.high]) ++ zh l)) q = _
    rw [tail]
    rfl
end Go.Proofs.YtcfbkcapbbhmpaaGreatDoor.V
namespace Go.Proofs.YtcfbkcapbbhmpaaGreatDoor.V
def Least (n : Int) (L : List Cut) (c : Cut) : Prop := c ∈ L ∧ ∀ d ∈ L, pos n d = pos n c → ¬ cb d.1 c.1 < 0
theorem cb_lt_eq {a b : Bs} (h1 : ¬ cb a b < 0) (h2 : ¬ cb b a < 0) : a = b := by
 have := kt a b
 exact zlr (by omega)
theorem cb_nlt {a b c : Bs} (h1 : ¬ cb a b < 0) (h2 : ¬ cb b c < 0) : ¬ cb a c < 0 := by
 have e1 := kt a b
 have e2 := kt b c
 have e3 := kt a c
 have := za0 c b a (by omega) (by omega)
 omega
theorem zvm {n : Int} {L : List Cut} {c d : Cut} (hc : Least n L c) (hd : Least n L d) (h : pos n c = pos n d) : c = d := by
 have h1 := hc.2 d hd.1 h.symm
 have h2 := hd.2 c hc.1 h
 have h3 := cb_lt_eq h2 h1
 have h4 : c.2 = d.2 := by have := congrArg Prod.snd h; exact this
 exact Prod.ext h3 h4
theorem zd0 {n : Int} {L : List Cut} : ∀ {R S : List Cut}, poss n R = poss n S → (∀ c ∈ R, Least n L c) → (∀ c ∈ S, Least n L c) → R = S
 | [], [], _, _, _ => rfl
 | [], _ :: _, h, _, _ => by simp [poss] at h
 | _ :: _, [], h, _, _ => by simp [poss] at h
 | c :: R, d :: S, h, hr, hs => by
  have h1 : pos n c = pos n d ∧ poss n R = poss n S := by simpa [poss] using h
  rw [zvm (hr c (by simp)) (hs d (by simp)) h1.1, zd0 h1.2 (fun e he => hr e (by simp [he])) (fun e he => hs e (by simp [he]))]
theorem zb1 {n : Int} {P : Pos} {H L' : List Cut} {h : Cut} {R : List Cut} {nx now : Bool} (hH : ∀ d ∈ H, pos n d = P) (hL : ∀ p ∈ poss n L', plt P p) (hm : h ∈ H) (hmin : ∀ d ∈ H, ¬ cb d.1 h.1 < 0)
  (hR : ∀ e ∈ R, Least n L' e) {L : List Cut} (h1 : ∀ d ∈ L, d ∈ H ∨ d ∈ L') (h2 : ∀ d ∈ H, d ∈ L) (h3 : ∀ d ∈ L', d ∈ L) : ∀ e ∈ emit h nx now R, Least n L e := by
 intro e he
 rcases xz he with rfl | he
 ·refine ⟨h2 _ hm, fun d hd hp => ?_⟩
  rcases h1 d hd with g | g
  ·exact hmin d g
  ·have := hL _ (List.mem_map.2 ⟨d, g, rfl⟩)
   rw [hp, hH _ hm] at this
   exact absurd this (qc _)
 ·obtain ⟨g1, g2⟩ := hR e he
  refine ⟨h3 _ g1, fun d hd hp => ?_⟩
  rcases h1 d hd with g | g
  ·have := hL _ (List.mem_map.2 ⟨e, g1, rfl⟩)
   rw [← hp, hH _ g] at this
   exact absurd this (qc _)
  ·exact g2 d g hp
theorem zt0 (a b : Bs) : ¬ cb a (lesser a b) < 0 ∧ ¬ cb b (lesser a b) < 0 := by
 have h1 := uy a
 have h2 := uy b
 have h3 := kt a b
 unfold lesser
 by_cases h : Lib.compareBytes b a < 0
 ·rw [if_pos h]
  have : cb b a < 0 := h
  omega
 ·rw [if_neg h]
  have : ¬ cb b a < 0 := h
  omega
theorem vi {n : Int} (hn : scheme n = true) (f : Bool → Bool → Bool) : ∀ (k : Nat) (l m : List Cut) (x y now : Bool), l.length + m.length ≤ k → wu n l → wu n m → asc (poss n l) → asc (poss n m) →
  ∀ c ∈ comb n f x y now l m, Least n (l ++ m) c
 | _, [], [], x, y, now, _, _, _, _, _ => by
  rw [comb]
  intro c hc
  cases hc
 | 0, _ :: _, _, _, _, _, h, _, _, _, _ => by simp at h
 | 0, [], _ :: _, _, _, _, h, _, _, _, _ => by simp at h
 | k + 1, c :: l, [], x, y, now, h, hl, hm, al, am => by
  obtain ⟨a1, a2⟩ := List.pairwise_cons.1 (show asc (pos n c :: poss n l) from al)
  have ih := vi hn f k l [] (!x) y (f (!x) y) (by simp at h ⊢; omega) (fun d hd => hl d (by simp [hd])) hm a2 am
  rw [ztr]
  refine zb1 (P := pos n c) (H := [c]) (L' := l ++ []) (fun d hd => by rw [List.mem_singleton.1 hd]) (fun p hp => a1 p (by simpa using hp)) (by simp) (fun d hd => by rw [List.mem_singleton.1 hd]; have := uy c.1; omega) ih ?_ ?_ ?_
  ·intro d hd; simp at hd ⊢; exact hd
  ·intro d hd; simp at hd ⊢; exact .inl hd
  ·intro d hd; simp at hd ⊢; exact .inr hd
 | k + 1, [], d :: m, x, y, now, h, hl, hm, al, am => by
  obtain ⟨a1, a2⟩ := List.pairwise_cons.1 (show asc (pos n d :: poss n m) from am)
  have ih := vi hn f k [] m x (!y) (f x (!y)) (by simp at h ⊢; omega) hl (fun d hd => hm d (by simp [hd])) al a2
  rw [ztm]
  refine zb1 (P := pos n d) (H := [d]) (L' := [] ++ m) (fun e he => by rw [List.mem_singleton.1 he]) (fun p hp => a1 p (by simpa using hp)) (by simp) (fun e he => by rw [List.mem_singleton.1 he]; have := uy d.1; omega) ih ?_ ?_ ?_
  ·intro e he; simp at he ⊢; exact he
  ·intro e he; simp at he ⊢; exact .inl he
  ·intro e he; simp at he ⊢; exact .inr he
 | k + 1, c :: l, d :: m, x, y, now, h, hl, hm, al, am => by
  obtain ⟨a1, a2⟩ := List.pairwise_cons.1 (show asc (pos n c :: poss n l) from al)
  obtain ⟨b1, b2⟩ := List.pairwise_cons.1 (show asc (pos n d :: poss n m) from am)
  have hc := hl c (by simp)
  have hd := hm d (by simp)
  have hl' : wu n l := fun e he => hl e (by simp [he])
  have hm' : wu n m := fun e he => hm e (by simp [he])
  have hcp := zby hn hc hd
  have pa : ∀ {L M : List Cut} {p : Pos}, p ∈ poss n (L ++ M) → p ∈ poss n L ∨ p ∈ poss n M := fun hp => by
   unfold poss at hp ⊢
   rw [List.map_append, List.mem_append] at hp
   exact hp
  rcases zpf (pos n c) (pos n d) with g | g | g
  ·have hlt : cutC n c d < 0 := by rw [hcp]; exact g
   have ih := vi hn f k l (d :: m) (!x) y (f (!x) y) (by simp at h ⊢; omega) hl' hm a2 am
   rw [zp3 hlt]
   refine zb1 (P := pos n c) (H := [c]) (L' := l ++ (d :: m)) (fun e he => by rw [List.mem_singleton.1 he]) (fun p hp => ?_) (by simp) (fun e he => by rw [List.mem_singleton.1 he]; have := uy c.1; omega) ih ?_ ?_ ?_
   ·rcases pa hp with hp | hp
    ·exact a1 p hp
    ·rcases List.mem_cons.1 (show p ∈ pos n d :: poss n m from hp) with rfl | e
     ·exact g
     ·exact qe g (b1 p e)
   ·intro e he; simp at he ⊢; exact he
   ·intro e he; simp at he ⊢; exact .inl he
   ·intro e he; simp at he ⊢; exact .inr he
  ·have heq : cutC n c d = 0 := by rw [hcp, g]; exact zgv _
   have ih := vi hn f k l m (!x) (!y) (f (!x) (!y)) (by simp at h ⊢; omega) hl' hm' a2 b2
   rw [zqf heq]
   have h2 : c.2 = d.2 := by have := congrArg Prod.snd g; exact this
   have hlm := zt0 c.1 d.1
   refine zb1 (P := pos n c) (H := [c, d]) (L' := l ++ m) (fun e he => ?_) (fun p hp => ?_) ?_ (fun e he => ?_) ih ?_ ?_ ?_
   ·simp at he
    rcases he with rfl | rfl
    ·rfl
    ·exact g.symm
   ·rcases pa hp with hp | hp
    ·exact a1 p hp
    ·rw [g]; exact b1 p hp
   ·rcases zh1 c.1 d.1 with e | e
    ·rw [e]; simp
    ·rw [e, h2]; simp
   ·simp at he
    rcases he with rfl | rfl
    ·exact hlm.1
    ·exact hlm.2
   ·intro e he
    simp at he ⊢
    rcases he with e | e | e | e
    ·exact .inl (.inl e)
    ·exact .inr (.inl e)
    ·exact .inl (.inr e)
    ·exact .inr (.inr e)
   ·intro e he
    simp at he ⊢
    rcases he with e | e
    ·exact .inl e
    ·exact .inr (.inr (.inl e))
   ·intro e he
    simp at he ⊢
    rcases he with e | e
    ·exact .inr (.inl e)
    ·exact .inr (.inr (.inr e))
  ·have hlt : 0 < cutC n c d := by
    have g' : cp (pos n d) (pos n c) < 0 := g
    rw [hcp]; have := ze4 (pos n d) (pos n c); omega
   have ih := vi hn f k (c :: l) m x (!y) (f x (!y)) (by simp at h ⊢; omega) hl hm' al b2
   rw [zql hlt]
   refine zb1 (P := pos n d) (H := [d]) (L' := (c :: l) ++ m) (fun e he => by rw [List.mem_singleton.1 he]) (fun p hp => ?_) (by simp) (fun e he => by rw [List.mem_singleton.1 he]; have := uy d.1; omega) ih ?_ ?_ ?_
   ·rcases pa hp with hp | hp
    ·rcases List.mem_cons.1 (show p ∈ pos n c :: poss n l from hp) with rfl | e
     ·exact g
     ·exact qe g (a1 p e)
    ·exact b1 p hp
   ·intro e he
    simp at he ⊢
    rcases he with e | e | e | e
    ·exact .inr (.inl e)
    ·exact .inr (.inr (.inl e))
    ·exact .inl e
    ·exact .inr (.inr (.inr e))
   ·intro e he
    simp at he ⊢
    exact .inr (.inr (.inl he))
   ·intro e he
    simp at he ⊢
    rcases he with e | e | e
    ·exact .inl e
    ·exact .inr (.inl e)
    ·exact .inr (.inr (.inr e))
def opL (n : Int) (f : Bool → Bool → Bool) (a b : List Itv) : List Itv :=
 ofC (start (f (zr a) (zr b))) (comb n f (zr a) (zr b) (f (zr a) (zr b)) (zh a) (zh b))
theorem zax {n : Int} (f : Bool → Bool → Bool) {a b : List Itv} (ha : Ok n a) (hb : Ok n b) : CombOk n f (zr a) (zr b) (zh a) (zh b) (comb n f (zr a) (zr b) (f (zr a) (zr b)) (zh a) (zh b)) :=
 zes ha.sch f _ _ _ _ _ (Nat.le_refl _) ha.cuts hb.cuts ha.asc hb.asc
theorem zj4 {n : Int} (f : Bool → Bool → Bool) {a b : List Itv} (ha : Ok n a) (hb : Ok n b) (h : (opL n f a b).length ≤ 32) : Ok n (opL n f a b) :=
 zab (okR_of ha.sch (zax f ha hb).ok (zax f ha hb).asc h)
theorem zuh {n : Int} (f : Bool → Bool → Bool) {a b : List Itv} (ha : Ok n a) (hb : Ok n b) : (opL n f a b).length ≤ 129 := by
 have h1 := (zax f ha hb).len
 have h2 := zam a
 have h3 := zam b
 have h4 := zjo (start (f (zr a) (zr b))) (comb n f (zr a) (zr b) (f (zr a) (zr b)) (zh a) (zh b))
 have h5 := ha.len
 have h6 := hb.len
 unfold opL
 omega
structure Ec where
 e : Int
 v : Bs
 s : Int
def ebot : Ec := ⟨-1, [], 0⟩
def etop : Ec := ⟨1, [], 0⟩
def eat (c : Cut) : Ec := ⟨0, c.1, if c.2 then 1 else 0⟩
def ecmp (n : Int) (a b : Ec) : Int := if a.e ≠ b.e ∨ a.e ≠ 0 then a.e - b.e else if cmpV n a.v b.v ≠ 0 then cmpV n a.v b.v else a.s - b.s
def eLow (x : Itv) : Ec := if x.lk = 1 then ⟨0, x.lo, 0⟩ else if x.lk = 2 then ⟨0, x.lo, 1⟩ else ebot
def ky (x : Itv) : Ec := if x.hk = 1 then ⟨0, x.hi, 1⟩ else if x.hk = 2 then ⟨0, x.hi, 0⟩ else etop
theorem zev (n : Int) (c d : Cut) : ecmp n (eat c) (eat d) = cutC n c d := by
 obtain ⟨a, s⟩ := c
 obtain ⟨b, t⟩ := d
 unfold ecmp eat cutC
 simp only [ne_eq, not_true, or_self, if_false]
 by_cases h : cmpV n a b = 0
 ·rw [if_neg (by simp [h])]
  cases s <;> cases t <;> simp [h]
 ·rw [if_pos h, if_pos (.inl h)]
theorem zce {x : Itv} (h : x.lk = 0) : eLow x = ebot := by unfold eLow; rw [if_neg (by omega), if_neg (by omega)]
theorem zaw {x : Itv} (h : x.hk = 0) : ky x = etop := by unfold ky; rw [if_neg (by omega), if_neg (by omega)]
theorem zbk {n : Int} {x : Itv} (h : zj n x = true) (hk : x.lk ≠ 0) : eLow x = eat x.low := by
 unfold zj at h
 rw [Bool.and_eq_true] at h
 unfold eLow eat Itv.low
 rcases (xh h.1 hk).1 with e | e <;> simp [e]
theorem vw {n : Int} {x : Itv} (h : zj n x = true) (hk : x.hk ≠ 0) : ky x = eat x.high := by
 unfold zj at h
 rw [Bool.and_eq_true] at h
 unfold ky eat Itv.high
 rcases (xh h.2 hk).1 with e | e <;> simp [e]
def radd (n : Int) (x : Ec) : List Ec → List Ec
 | [] => [x]
 | y :: l => if ecmp n y x < 0 then y :: radd n x l else if ecmp n y x = 0 then (if cb y.v x.v < 0 then y else x) :: l else x :: y :: l
def addI (n : Int) (l : List Ec) (x : Itv) : List Ec := radd n (ky x) (radd n (eLow x) l)
def rcuts (n : Int) (a b : List Itv) : List Ec := (a ++ b).foldl (addI n) [ebot, etop]
def kf (n : Int) (l : List Itv) (a b : Ec) : Bool := l.any fun x => decide (ecmp n (eLow x) a ≤ 0) && decide (ecmp n b (ky x) ≤ 0)
def btw (a b : Ec) : Itv := ⟨if a.e = 0 then a.v else [], if a.e = 0 then 1 + a.s else 0, if b.e = 0 then b.v else [], if b.e = 0 then 2 - b.s else 0⟩
def rrun (h : Ec → Ec → Bool) : Option Ec → List Ec → List Itv
 | _, [] => []
 | none, [_] => []
 | some f, [e] => [btw f e]
 | none, e :: e' :: l => if h e e' then rrun h (some e) (e' :: l) else rrun h none (e' :: l)
 | some f, e :: e' :: l => if h e e' then rrun h (some f) (e' :: l) else btw f e :: rrun h none (e' :: l)
def opR (n : Int) (f : Bool → Bool → Bool) (a b : List Itv) : List Itv := rrun (fun x y => f (kf n a x y) (kf n b x y)) none (rcuts n a b)
def cins (n : Int) (c : Cut) : List Cut → List Cut
 | [] => [c]
 | d :: l => if cutC n d c < 0 then d :: cins n c l else if cutC n d c = 0 then (if cb d.1 c.1 < 0 then d else c) :: l else c :: d :: l
def ends (C : List Cut) : List Ec := ebot :: (C.map eat ++ [etop])
theorem zod (n : Int) (c : Cut) : ∀ C : List Cut, radd n (eat c) (C.map eat ++ [etop]) = (cins n c C).map eat ++ [etop]
 | [] => rfl
 | d :: C => by
  have ih := zod n c C
  show radd n (eat c) (eat d :: (C.map eat ++ [etop])) = _
  unfold radd cins
  rw [zev]
  by_cases h : cutC n d c < 0
  ·rw [if_pos h, if_pos h, ih]
   rfl
  ·rw [if_neg h, if_neg h]
   by_cases h0 : cutC n d c = 0
   ·rw [if_pos h0, if_pos h0]
    show (if cb d.1 c.1 < 0 then eat d else eat c) :: _ = _
    by_cases h1 : cb d.1 c.1 < 0
    ·rw [if_pos h1, if_pos h1]; rfl
    ·rw [if_neg h1, if_neg h1]; rfl
   ·rw [if_neg h0, if_neg h0]
    rfl
theorem zji (n : Int) (c : Cut) (C : List Cut) : radd n (eat c) (ends C) = ends (cins n c C) := by
 unfold ends
 rw [radd, if_pos (show ecmp n ebot (eat c) < 0 by unfold ecmp ebot eat; simp), zod]
theorem zrc (n : Int) (C : List Cut) : radd n ebot (ends C) = ends C := by
 unfold ends
 rw [radd]
 rfl
theorem zfq (n : Int) : ∀ C : List Cut, radd n etop (C.map eat ++ [etop]) = C.map eat ++ [etop]
 | [] => rfl
 | d :: C => by
  show radd n etop (eat d :: (C.map eat ++ [etop])) = _
  rw [radd, if_pos (show ecmp n (eat d) etop < 0 by unfold ecmp eat etop; simp), zfq n C]
  rfl
theorem zre (n : Int) (C : List Cut) : radd n etop (ends C) = ends C := by
 unfold ends
 rw [radd, if_pos (show ecmp n ebot etop < 0 by unfold ecmp ebot etop; simp), zfq]
theorem zvk {n : Int} {x : Itv} (h : zj n x = true) (C : List Cut) : addI n (ends C) x = ends ((zh [x]).foldl (fun C c => cins n c C) C) := by
 unfold addI zh
 by_cases h1 : x.lk = 0 <;> by_cases h2 : x.hk = 0
 ·rw [zce h1, zaw h2, zrc, zre, if_pos h1, if_pos h2]; rfl
 ·rw [zce h1, vw h h2, zrc, zji, if_pos h1, if_neg h2]; rfl
 ·rw [zbk h h1, zaw h2, zji, zre, if_neg h1, if_pos h2]; rfl
 ·rw [zbk h h1, vw h h2, zji, zji, if_neg h1, if_neg h2]; rfl
theorem zl1 {n : Int} : ∀ {l : List Itv} (C : List Cut), (∀ x ∈ l, zj n x = true) → l.foldl (addI n) (ends C) = ends ((zh l).foldl (fun C c => cins n c C) C)
 | [], C, _ => rfl
 | x :: l, C, h => by
  have ih := zl1 (l := l) ((zh [x]).foldl (fun C c => cins n c C) C) (fun y hy => h y (by simp [hy]))
  rw [List.foldl_cons, zvk (h x (by simp)), ih, ← List.foldl_append]
  rw [show zh (x :: l) = zh [x] ++ zh l by simp only [zh, List.append_nil, List.append_assoc]]
theorem zaf : ∀ a b : List Itv, zh (a ++ b) = zh a ++ zh b
 | [], b => rfl
 | x :: a, b => by rw [List.cons_append, zh, zh, zaf a b, List.append_assoc, List.append_assoc]
structure Sorted (n : Int) (L C : List Cut) : Prop where
 asc : asc (poss n C)
 least : ∀ c ∈ C, Least n L c
 all : ∀ d ∈ L, pos n d ∈ poss n C
 ok : wu n C
theorem zuv {n : Int} (hn : scheme n = true) {c : Cut} (hc : valid n c.1 = true) : ∀ {C : List Cut}, wu n C → asc (poss n C) →
  asc (poss n (cins n c C)) ∧ (∀ e ∈ cins n c C, (e ∈ C ∧ (pos n e = pos n c → cb e.1 c.1 < 0)) ∨ (e = c ∧ ∀ y ∈ C, pos n y = pos n c → ¬ cb y.1 c.1 < 0)) ∧ (∀ y ∈ C, pos n y ∈ poss n (cins n c C)) ∧ pos n c ∈ poss n (cins n c C)
 | [], _, _ => by
  refine ⟨List.pairwise_singleton _ _, (fun e he => .inr ⟨by simpa [cins] using he, (fun y hy => by cases hy)⟩), (fun y hy => by cases hy), by simp [cins, poss]⟩
 | d :: C, hC, aC => by
  obtain ⟨a1, a2⟩ := List.pairwise_cons.1 (show V.asc (pos n d :: poss n C) from aC)
  have hd := hC d (by simp)
  have hcp := zby hn hd hc
  obtain ⟨i1, i2, i3, i4⟩ := zuv hn hc (C := C) (fun e he => hC e (by simp [he])) a2
  unfold cins
  by_cases h : cutC n d c < 0
  ·rw [if_pos h]
   have hlt : plt (pos n d) (pos n c) := by unfold plt; rw [← hcp]; exact h
   refine ⟨List.pairwise_cons.2 ⟨fun p hp => ?_, i1⟩, fun e he => ?_, fun y hy => ?_, List.mem_cons_of_mem _ i4⟩
   ·obtain ⟨e, he, rfl⟩ := List.mem_map.1 hp
    rcases i2 e he with ⟨g, _⟩ | ⟨rfl, _⟩
    ·exact a1 _ (List.mem_map.2 ⟨e, g, rfl⟩)
    ·exact hlt
   ·rcases List.mem_cons.1 he with rfl | he
    ·exact .inl ⟨by simp, fun e0 => by rw [e0] at hlt; exact absurd hlt (qc _)⟩
    ·rcases i2 e he with ⟨g, g2⟩ | ⟨rfl, g⟩
     ·exact .inl ⟨by simp [g], g2⟩
     ·refine .inr ⟨rfl, fun y hy hp => ?_⟩
      rcases List.mem_cons.1 hy with rfl | hy
      ·rw [hp] at hlt; exact absurd hlt (qc _)
      ·exact g y hy hp
   ·rcases List.mem_cons.1 hy with rfl | hy
    ·simp [poss]
    ·exact List.mem_cons_of_mem _ (i3 y hy)
  ·rw [if_neg h]
   by_cases h0 : cutC n d c = 0
   ·rw [if_pos h0]
    have he0 : pos n d = pos n c := cp_eq (by rw [← hcp]; exact h0)
    have hrest : ∀ y ∈ C, pos n y ≠ pos n c := fun y hy e => by
     have := a1 _ (List.mem_map.2 ⟨y, hy, rfl⟩)
     rw [e, ← he0] at this
     exact qc _ this
    by_cases h1 : cb d.1 c.1 < 0
    ·rw [if_pos h1]
     refine ⟨aC, fun e he => .inl ⟨he, fun e0 => ?_⟩, fun y hy => List.mem_map.2 ⟨y, hy, rfl⟩, by rw [← he0]; simp [poss]⟩
     rcases List.mem_cons.1 he with rfl | he
     ·exact h1
     ·exact absurd e0 (hrest e he)
    ·rw [if_neg h1]
     refine ⟨List.pairwise_cons.2 ⟨fun p hp => by rw [← he0]; exact a1 p hp, a2⟩, fun e he => ?_, fun y hy => ?_, by simp [poss]⟩
     ·rcases List.mem_cons.1 he with rfl | he
      ·refine .inr ⟨rfl, fun y hy hp => ?_⟩
       rcases List.mem_cons.1 hy with rfl | hy
       ·exact h1
       ·exact absurd hp (hrest y hy)
      ·exact .inl ⟨by simp [he], fun e0 => absurd e0 (hrest e he)⟩
     ·rcases List.mem_cons.1 hy with rfl | hy
      ·rw [he0]; simp [poss]
      ·exact List.mem_cons_of_mem _ (List.mem_map.2 ⟨y, hy, rfl⟩)
   ·rw [if_neg h0]
    have hgt : plt (pos n c) (pos n d) := by
     have := ze4 (pos n d) (pos n c)
     unfold plt
     omega
    have hno : ∀ y ∈ d :: C, pos n y ≠ pos n c := fun y hy e => by
     rcases List.mem_cons.1 hy with rfl | hy
     ·rw [e] at hgt; exact qc _ hgt
     ·have := qe hgt (a1 _ (List.mem_map.2 ⟨y, hy, rfl⟩))
      rw [e] at this
      exact qc _ this
    refine ⟨List.pairwise_cons.2 ⟨fun p hp => ?_, aC⟩, fun e he => ?_, fun y hy => List.mem_cons_of_mem _ (List.mem_map.2 ⟨y, hy, rfl⟩), by simp [poss]⟩
    ·rcases List.mem_cons.1 (show p ∈ pos n d :: poss n C from hp) with rfl | hp
     ·exact hgt
     ·exact qe hgt (a1 p hp)
    ·rcases List.mem_cons.1 he with rfl | he
     ·exact .inr ⟨rfl, fun y hy hp => absurd hp (hno y hy)⟩
     ·exact .inl ⟨he, fun e0 => absurd e0 (hno e he)⟩
theorem Sorted.add {n : Int} (hn : scheme n = true) {L C : List Cut} (h : Sorted n L C) {c : Cut} (hc : valid n c.1 = true) : Sorted n (L ++ [c]) (cins n c C) := by
 obtain ⟨i1, i2, i3, i4⟩ := zuv hn hc h.ok h.asc
 refine ⟨i1, fun e he => ?_, fun d hd => ?_, fun e he => ?_⟩
 ·rcases i2 e he with ⟨g, g2⟩ | ⟨rfl, g⟩
  ·obtain ⟨l1, l2⟩ := h.least e g
   refine ⟨by simp [l1], fun d hd hp => ?_⟩
   rcases List.mem_append.1 hd with hd | hd
   ·exact l2 d hd hp
   ·rw [List.mem_singleton.1 hd] at hp ⊢
    have := g2 hp.symm
    have e1 := kt e.1 c.1
    omega
  ·refine ⟨by simp, fun d hd hp => ?_⟩
   rcases List.mem_append.1 hd with hd | hd
   ·obtain ⟨y, hy, ey⟩ := List.mem_map.1 (h.all d hd)
    have hyc := g y hy (ey.trans hp)
    exact cb_nlt ((h.least y hy).2 d hd ey.symm) hyc
   ·rw [List.mem_singleton.1 hd]
    have := uy e.1
    omega
 ·rcases List.mem_append.1 hd with hd | hd
  ·obtain ⟨y, hy, ey⟩ := List.mem_map.1 (h.all d hd)
   rw [← ey]
   exact i3 y hy
  ·rw [List.mem_singleton.1 hd]
   exact i4
 ·rcases i2 e he with ⟨g, _⟩ | ⟨rfl, _⟩
  ·exact h.ok e g
  ·exact hc
theorem Sorted.fold {n : Int} (hn : scheme n = true) : ∀ {M L C : List Cut}, Sorted n L C → wu n M → Sorted n (L ++ M) (M.foldl (fun C c => cins n c C) C)
 | [], L, C, h, _ => by rw [List.append_nil]; exact h
 | c :: M, L, C, h, hM => by
  have := Sorted.fold hn (M := M) (h.add hn (hM c (by simp))) (fun d hd => hM d (by simp [hd]))
  rw [List.append_assoc] at this
  exact this
def turns (g : Cut → Bool) : Bool → List Cut → List Cut
 | _, [] => []
 | now, c :: C => emit c (g c) now (turns g (g c) C)
def valC (n : Int) (g : Cut → Bool) : Bool → List Cut → Pos → Bool
 | now, [], _ => now
 | now, c :: C, q => if plt q (pos n c) then now else valC n g (g c) C q
theorem zht {g : Cut → Bool} : ∀ {now : Bool} {C : List Cut} {e : Cut}, e ∈ turns g now C → e ∈ C
 | _, [], _, h => h
 | now, c :: C, e, h => by
  rcases xz h with rfl | h
  ·simp
  ·exact List.mem_cons_of_mem _ (zht h)
theorem zkb {n : Int} {g : Cut → Bool} {now : Bool} {C : List Cut} {p : Pos} (h : p ∈ poss n (turns g now C)) : p ∈ poss n C := by
 obtain ⟨e, he, rfl⟩ := List.mem_map.1 h
 exact List.mem_map.2 ⟨e, zht he, rfl⟩
theorem zof {n : Int} {g : Cut → Bool} : ∀ {now : Bool} {C : List Cut}, asc (poss n C) → asc (poss n (turns g now C))
 | _, [], h => h
 | now, c :: C, h => by
  obtain ⟨a1, a2⟩ := List.pairwise_cons.1 (show asc (pos n c :: poss n C) from h)
  exact zcv (fun p hp => a1 p (zkb hp)) (zof a2)
theorem zng {n : Int} {g : Cut → Bool} : ∀ {now : Bool} {C : List Cut}, asc (poss n C) → ∀ q, mem now (poss n (turns g now C)) q = valC n g now C q
 | _, [], _, _ => rfl
 | now, c :: C, h, q => by
  obtain ⟨a1, a2⟩ := List.pairwise_cons.1 (show asc (pos n c :: poss n C) from h)
  show mem now (poss n (emit c (g c) now (turns g (g c) C))) q = if plt q (pos n c) then now else valC n g (g c) C q
  rw [zcr (fun p hp => a1 p (zkb hp)), zng a2]
theorem zdy {n : Int} : ∀ {C : List Cut} {l : List Pos} (x : Bool), asc (poss n C) → asc l → (∀ p ∈ l, p ∈ poss n C) → ∀ q, valC n (fun c => mem x l (pos n c)) x C q = mem x l q
 | [], l, x, _, _, hs, q => by
  rcases l with _ | ⟨p, l⟩
  ·rfl
  ·have := hs p (by simp)
   simp [poss] at this
 | c :: C, l, x, hC, hl, hs, q => by
  obtain ⟨a1, a2⟩ := List.pairwise_cons.1 (show asc (pos n c :: poss n C) from hC)
  have cong : ∀ (g h : Cut → Bool) (D : List Cut) (now : Bool), (∀ d ∈ D, g d = h d) → valC n g now D q = valC n h now D q := fun g h D => by
   induction D with
   | nil => intro now _; rfl
   | cons d D ih =>
    intro now hgh
    show (if plt q (pos n d) then now else valC n g (g d) D q) = if plt q (pos n d) then now else valC n h (h d) D q
    rw [hgh d (by simp), ih _ (fun e he => hgh e (by simp [he]))]
  show (if plt q (pos n c) then x else valC n _ (mem x l (pos n c)) C q) = mem x l q
  rcases l with _ | ⟨p, l⟩
  ·have := zdy (C := C) (l := []) x a2 List.Pairwise.nil (fun p hp => by cases hp) q
   split
   ·rfl
   ·exact this
  ·obtain ⟨b1, b2⟩ := List.pairwise_cons.1 hl
   rcases List.mem_cons.1 (show p ∈ pos n c :: poss n C from hs p (by simp)) with rfl | hp
   ·have hv : mem x (pos n c :: l) (pos n c) = !x := by
     rw [mem_cons, if_neg (qc _), vd b1]
    rw [hv, mem_cons]
    split
    ·rfl
    ·rw [← zdy (C := C) (l := l) (!x) a2 b2 (fun p hp => by
       rcases List.mem_cons.1 (show p ∈ pos n c :: poss n C from hs p (by simp [hp])) with rfl | h
       · exact absurd (b1 _ hp) (qc _)
       · exact h) q]
     refine cong _ _ _ _ (fun d hd => ?_)
     have := a1 _ (List.mem_map.2 ⟨d, hd, rfl⟩)
     show mem x (pos n c :: l) (pos n d) = _
     rw [mem_cons, if_neg (zac this)]
   ·have hcp := a1 p hp
    have hall : ∀ r ∈ p :: l, plt (pos n c) r := fun r hr => by
     rcases List.mem_cons.1 hr with rfl | hr
     ·exact hcp
     ·exact qe hcp (b1 r hr)
    rw [vd hall, zdy (C := C) (l := p :: l) x a2 hl (fun r hr => by
      rcases List.mem_cons.1 (show r ∈ pos n c :: poss n C from hs r hr) with rfl | h
      · exact absurd (hall _ hr) (qc _)
      · exact h) q]
    split
    ·rename_i h
     exact (vd (fun r hr => qe h (hall r hr))).symm
    ·rfl
theorem zq4 {n : Int} (f : Bool → Bool → Bool) (g h : Cut → Bool) : ∀ (C : List Cut) (x y : Bool) (q : Pos), valC n (fun c => f (g c) (h c)) (f x y) C q = f (valC n g x C q) (valC n h y C q)
 | [], _, _, _ => rfl
 | c :: C, x, y, q => by
  show (if plt q (pos n c) then f x y else valC n _ (f (g c) (h c)) C q) = f (if plt q (pos n c) then x else valC n g (g c) C q) (if plt q (pos n c) then y else valC n h (h c) C q)
  split
  ·rfl
  ·exact zq4 f g h C (g c) (h c) q
def hd (C : List Cut) : Ec := match C with | [] => etop | d :: _ => eat d
def optE (e : Ec) : Option Cut := if e.e = 0 then some (e.v, decide (e.s = 1)) else none
theorem btw_at (c : Cut) (f : Ec) (hf : f = ebot ∨ ∃ d, f = eat d) : btw f (eat c) = mkI (optE f) (some c) := by
 obtain ⟨v, s⟩ := c
 rcases hf with rfl | ⟨⟨a, t⟩, rfl⟩
 ·cases s <;> rfl
 ·cases s <;> cases t <;> rfl
theorem btw_top (f : Ec) (hf : f = ebot ∨ ∃ d, f = eat d) : btw f etop = mkI (optE f) none := by
 rcases hf with rfl | ⟨⟨a, t⟩, rfl⟩
 ·rfl
 ·cases t <;> rfl
theorem optE_at (c : Cut) : optE (eat c) = some c := by
 obtain ⟨v, s⟩ := c
 cases s <;> rfl
theorem zkg {h : Ec → Ec → Bool} {g : Cut → Bool} : ∀ {C : List Cut}, (∀ A c B, C = A ++ c :: B → h (eat c) (hd B) = g c) →
  (∀ e, rrun h none (e :: (C.map eat ++ [etop])) = if h e (hd C) then rrun h (some e) (e :: (C.map eat ++ [etop])) else ofC none (turns g false C)) ∧
  (∀ f e, (f = ebot ∨ ∃ d, f = eat d) → h e (hd C) = true → rrun h (some f) (e :: (C.map eat ++ [etop])) = ofC (some (optE f)) (turns g true C))
 | [], _ => by
  refine ⟨fun e => ?_, fun f e hf he => ?_⟩
  ·show (if h e etop then rrun h (some e) [etop] else rrun h none [etop]) = if h e etop then (if h e etop then rrun h (some e) [etop] else btw e e :: rrun h none [etop]) else []
   by_cases hh : h e etop = true
   ·rw [if_pos hh, if_pos hh, if_pos hh]
   ·rw [if_neg hh, if_neg hh]; rfl
  ·show (if h e etop then rrun h (some f) [etop] else _) = _
   rw [if_pos (show h e etop = true from he)]
   show [btw f etop] = _
   rw [btw_top f hf]
   rfl
 | c :: C, H => by
  obtain ⟨i1, i2⟩ := zkg (h := h) (g := g) (C := C) (fun A d B e => H (c :: A) d B (by rw [e]; rfl))
  have hc : h (eat c) (hd C) = g c := H [] c C rfl
  have unf : ∀ e, rrun h none (e :: ((c :: C).map eat ++ [etop])) = if h e (eat c) then rrun h (some e) (eat c :: (C.map eat ++ [etop])) else rrun h none (eat c :: (C.map eat ++ [etop])) := fun e => rfl
  have unf2 : ∀ f e, rrun h (some f) (e :: ((c :: C).map eat ++ [etop])) = if h e (eat c) then rrun h (some f) (eat c :: (C.map eat ++ [etop])) else btw f e :: rrun h none (eat c :: (C.map eat ++ [etop])) := fun f e => rfl
  have e1 := i1 (eat c)
  rw [hc] at e1
  have stop : ∀ f, g c = false → rrun h (some f) (eat c :: (C.map eat ++ [etop])) = btw f (eat c) :: rrun h none (eat c :: (C.map eat ++ [etop])) := fun f hg => by
   rcases C with _ | ⟨d, C⟩
   ·show (if h (eat c) etop then _ else btw f (eat c) :: rrun h none [etop]) = btw f (eat c) :: (if h (eat c) etop then _ else rrun h none [etop])
    have : h (eat c) etop = false := by rw [← hg]; exact hc
    rw [this]
    rfl
   ·show (if h (eat c) (eat d) then _ else btw f (eat c) :: rrun h none (eat d :: (C.map eat ++ [etop]))) = btw f (eat c) :: (if h (eat c) (eat d) then _ else rrun h none (eat d :: (C.map eat ++ [etop])))
    have : h (eat c) (eat d) = false := by rw [← hg]; exact hc
    rw [this]
    rfl
  refine ⟨fun e => ?_, fun f e hf he => ?_⟩
  ·by_cases hh : h e (eat c) = true
   ·have : h e (hd (c :: C)) = true := hh
    rw [unf, if_pos hh, if_pos this, unf2, if_pos hh]
   ·have : ¬ h e (hd (c :: C)) = true := hh
    rw [unf, if_neg hh, if_neg this, e1]
    show _ = ofC none (emit c (g c) false (turns g (g c) C))
    unfold emit
    rcases hg : g c with _ | _
    ·rfl
    ·rw [if_pos rfl, if_neg (show ¬ (true = false) by decide), i2 _ _ (.inr ⟨c, rfl⟩) (by rw [hc, hg]), optE_at]
     rfl
  ·rw [unf2, if_pos (show h e (eat c) = true from he)]
   show _ = ofC (some (optE f)) (emit c (g c) true (turns g (g c) C))
   unfold emit
   rcases hg : g c with _ | _
   ·rw [if_neg (by decide), stop f hg, e1, hg, btw_at c f hf]
    rfl
   ·rw [if_pos rfl, i2 f _ hf (by rw [hc, hg])]
theorem zop {n : Int} {l : List Itv} (hl : Ok n l) {C : List Cut} (aC : asc (poss n C)) (oC : wu n C) (hs : ∀ d ∈ zh l, pos n d ∈ poss n C) {A B : List Cut} {c : Cut} (e : C = A ++ c :: B) :
  kf n l (eat c) (hd B) = inS n l (pos n c) := by
 have hn := hl.sch
 have hcv : valid n c.1 = true := oC c (by rw [e]; simp)
 rw [zde hn _ hl.bnd hl.ord]
 unfold kf
 have each : ∀ x ∈ l, (decide (ecmp n (eLow x) (eat c) ≤ 0) && decide (ecmp n (hd B) (ky x) ≤ 0)) = inI n (pos n c) x := fun x hx => by
  have hbx := hl.bnd x hx
  have hlow : decide (ecmp n (eLow x) (eat c) ≤ 0) = (decide (x.lk = 0) || !decide (plt (pos n c) (pos n x.low))) := by
   by_cases hk : x.lk = 0
   ·rw [zce hk, decide_eq_true hk, Bool.true_or]
    exact decide_eq_true (by unfold ecmp ebot eat; simp)
   ·rw [zbk hbx hk, zev, zby hn (ye hbx hk) hcv, decide_eq_false hk, Bool.false_or]
    have := ze4 (pos n x.low) (pos n c)
    unfold plt
    by_cases hp : cp (pos n c) (pos n x.low) < 0
    ·rw [decide_eq_true hp, decide_eq_false (by omega)]; rfl
    ·rw [decide_eq_false hp, decide_eq_true (by omega)]; rfl
  have hhigh : decide (ecmp n (hd B) (ky x) ≤ 0) = (decide (x.hk = 0) || decide (plt (pos n c) (pos n x.high))) := by
   by_cases hk : x.hk = 0
   ·rw [zaw hk, decide_eq_true hk, Bool.true_or]
    refine decide_eq_true ?_
    rcases B with _ | ⟨d, B⟩
    ·show ecmp n etop etop ≤ 0
     unfold ecmp etop; simp
    ·show ecmp n (eat d) etop ≤ 0
     unfold ecmp etop eat; simp
   ·rw [vw hbx hk, decide_eq_false hk, Bool.false_or]
    have hin : pos n x.high ∈ poss n C := hs _ (by
      obtain ⟨l1, l2, rfl⟩ := List.append_of_mem hx
      rw [zaf, zh, if_neg hk]
      simp)
    have hparts : pos n x.high ∈ poss n A ∨ pos n x.high = pos n c ∨ pos n x.high ∈ poss n B := by
     rw [e] at hin
     unfold poss at hin ⊢
     rw [List.map_append, List.mem_append, List.map_cons, List.mem_cons] at hin
     exact hin
    have hA : asc (poss n A ++ (pos n c :: poss n B)) := by rw [e] at aC; unfold poss at aC ⊢; rw [List.map_append] at aC; exact aC
    obtain ⟨_, h2, h3⟩ := List.pairwise_append.1 hA
    obtain ⟨h4, h5⟩ := List.pairwise_cons.1 h2
    rcases B with _ | ⟨d, B⟩
    ·show decide (ecmp n etop (eat x.high) ≤ 0) = _
     have : ¬ plt (pos n c) (pos n x.high) := by
      rcases hparts with h | h | h
      ·exact zac (h3 _ h _ (by simp))
      ·rw [h]; exact qc _
      ·simp [poss] at h
     rw [decide_eq_false this]
     exact decide_eq_false (by unfold ecmp etop eat; simp)
    ·show decide (ecmp n (eat d) (eat x.high) ≤ 0) = _
     have hdv : valid n d.1 = true := oC d (by rw [e]; simp)
     rw [zev, zby hn hdv (jx hbx hk)]
     refine decide_eq_decide.2 ⟨fun h => ?_, fun h => ?_⟩
     ·have hcd := h4 (pos n d) (by simp [poss])
      by_cases e0 : cp (pos n d) (pos n x.high) = 0
      ·rw [← cp_eq e0]; exact hcd
      ·exact qe hcd (show cp _ _ < 0 by omega)
     ·rcases hparts with g | g | g
      ·exact absurd (h3 _ g _ (List.mem_cons_self ..)) (zac h)
      ·rw [g] at h; exact absurd h (qc _)
      ·rcases List.mem_cons.1 (show pos n x.high ∈ pos n d :: poss n B from g) with g | g
       ·rw [g, zgv]; exact Int.le_refl 0
       ·have := (List.pairwise_cons.1 h5).1 _ g
        unfold plt at this
        omega
  rw [hlow, hhigh]
  rfl
 rw [Bool.eq_iff_iff, List.any_eq_true, List.any_eq_true]
 constructor
 ·rintro ⟨x, hx, h⟩; exact ⟨x, hx, by rw [← each x hx]; exact h⟩
 ·rintro ⟨x, hx, h⟩; exact ⟨x, hx, by rw [each x hx]; exact h⟩
theorem zld {n : Int} {l : List Itv} (hl : Ok n l) {C : List Cut} (aC : asc (poss n C)) (oC : wu n C) (hs : ∀ d ∈ zh l, pos n d ∈ poss n C) : kf n l ebot (hd C) = zr l := by
 have hn := hl.sch
 unfold kf zr
 have each : ∀ x ∈ l, (decide (ecmp n (eLow x) ebot ≤ 0) && decide (ecmp n (hd C) (ky x) ≤ 0)) = decide (x.lk = 0) := fun x hx => by
  have hbx := hl.bnd x hx
  by_cases hk : x.lk = 0
  ·rw [zce hk, decide_eq_true hk, decide_eq_true (show ecmp n ebot ebot ≤ 0 by unfold ecmp ebot; simp), Bool.true_and]
   refine decide_eq_true ?_
   by_cases hh : x.hk = 0
   ·rw [zaw hh]
    rcases C with _ | ⟨d, B⟩
    ·show ecmp n etop etop ≤ 0
     unfold ecmp etop; simp
    ·show ecmp n (eat d) etop ≤ 0
     unfold ecmp etop eat; simp
   ·rw [vw hbx hh]
    have hin : pos n x.high ∈ poss n C := hs _ (by
      obtain ⟨l1, l2, rfl⟩ := List.append_of_mem hx
      rw [zaf, zh, if_neg hh]
      simp)
    rcases C with _ | ⟨d, B⟩
    ·simp [poss] at hin
    ·show ecmp n (eat d) (eat x.high) ≤ 0
     have hdv : valid n d.1 = true := oC d (by simp)
     rw [zev, zby hn hdv (jx hbx hh)]
     obtain ⟨a1, a2⟩ := List.pairwise_cons.1 (show asc (pos n d :: poss n B) from aC)
     rcases List.mem_cons.1 (show pos n x.high ∈ pos n d :: poss n B from hin) with g | g
     ·rw [g, zgv]; exact Int.le_refl 0
     ·have := a1 _ g
      unfold plt at this
      omega
  ·rw [zbk hbx hk, decide_eq_false hk, decide_eq_false (show ¬ ecmp n (eat x.low) ebot ≤ 0 by unfold ecmp ebot eat; simp)]
   rfl
 rw [Bool.eq_iff_iff, List.any_eq_true, List.any_eq_true]
 constructor
 ·rintro ⟨x, hx, h⟩; exact ⟨x, hx, by rw [← each x hx]; exact h⟩
 ·rintro ⟨x, hx, h⟩; exact ⟨x, hx, by rw [each x hx]; exact h⟩
theorem opR_opL {n : Int} (f : Bool → Bool → Bool) {a b : List Itv} (ha : Ok n a) (hb : Ok n b) : opR n f a b = opL n f a b := by
 have hn := ha.sch
 have hab : ∀ x ∈ a ++ b, zj n x = true := fun x hx => (List.mem_append.1 hx).elim (ha.bnd x) (hb.bnd x)
 have hrc : rcuts n a b = ends ((zh (a ++ b)).foldl (fun C c => cins n c C) []) := zl1 [] hab
 have hS : Sorted n ([] ++ zh (a ++ b)) ((zh (a ++ b)).foldl (fun C c => cins n c C) []) :=
  Sorted.fold hn ⟨List.Pairwise.nil, (fun c hc => by cases hc), (fun d hd => by cases hd), (fun c hc => by cases hc)⟩ (zqb hab)
 rw [List.nil_append, zaf] at hS
 rw [zaf] at hrc
 obtain ⟨C, hC⟩ : ∃ C, C = (zh a ++ zh b).foldl (fun C c => cins n c C) [] := ⟨_, rfl⟩
 rw [← hC] at hS hrc
 have sa : ∀ d ∈ zh a, pos n d ∈ poss n C := fun d hd => hS.all d (by simp [hd])
 have sb : ∀ d ∈ zh b, pos n d ∈ poss n C := fun d hd => hS.all d (by simp [hd])
 have sa' : ∀ p ∈ poss n (zh a), p ∈ poss n C := fun p hp => by obtain ⟨d, hd, rfl⟩ := List.mem_map.1 hp; exact sa d hd
 have sb' : ∀ p ∈ poss n (zh b), p ∈ poss n C := fun p hp => by obtain ⟨d, hd, rfl⟩ := List.mem_map.1 hp; exact sb d hd
 obtain ⟨r1, r2⟩ := zkg (h := fun x y => f (kf n a x y) (kf n b x y)) (g := fun c => f (inS n a (pos n c)) (inS n b (pos n c))) (C := C) (fun A c B e => by
   show f _ _ = f _ _
   rw [zop ha hS.asc hS.ok sa e, zop hb hS.asc hS.ok sb e])
 have hbot : f (kf n a ebot (hd C)) (kf n b ebot (hd C)) = f (zr a) (zr b) := by
  rw [zld ha hS.asc hS.ok sa, zld hb hS.asc hS.ok sb]
 have hrun : opR n f a b = ofC (start (f (zr a) (zr b))) (turns (fun c => f (inS n a (pos n c)) (inS n b (pos n c))) (f (zr a) (zr b)) C) := by
  unfold opR
  rw [hrc]
  unfold ends
  rw [r1 ebot, hbot]
  rcases hf : f (zr a) (zr b) with _ | _
  ·rfl
  ·rw [if_pos rfl, r2 ebot ebot (.inl rfl) (by show f _ _ = true; rw [hbot, hf])]
   rfl
 rw [hrun]
 unfold opL
 congr 1
 have hco := zax f ha hb
 refine zd0 (L := zh a ++ zh b) (zpp (x := f (zr a) (zr b)) (zof hS.asc) hco.asc (fun q => ?_)) (fun c hc => hS.least c (zht hc)) (vi hn f _ _ _ _ _ _ (Nat.le_refl _) ha.cuts hb.cuts ha.asc hb.asc)
 rw [zng hS.asc, hco.val, zq4]
 congr 1
 ·exact zdy _ hS.asc ha.asc sa' q
 ·exact zdy _ hS.asc hb.asc sb' q
end Go.Proofs.YtcfbkcapbbhmpaaGreatDoor.V
namespace Go.Proofs.YtcfbkcapbbhmpaaGreatDoor.V
def hasL (n : Int) (l : List Itv) (v : Bs) : Bool := l.any fun x => (decide (x.lk = 0) || decide (cutC n x.low (v, false) ≤ 0)) && (decide (x.hk = 0) || decide (0 ≤ cutC n x.high (v, true)))
def kq (n : Int) (l : List Itv) (v : Bs) : Bool := okR n l && (valid n v && hasL n l v)
def orF (x y : Bool) : Bool := x || y
def andF (x y : Bool) : Bool := x && y
theorem cuts_op {n : Int} (f : Bool → Bool → Bool) {a b : List Itv} (ha : Ok n a) (hb : Ok n b) : (zh (opL n f a b)).length ≤ (zh a).length + (zh b).length := by
 unfold opL
 rw [zt2]
 exact (zax f ha hb).len
theorem len_op {n : Int} (f : Bool → Bool → Bool) {a b : List Itv} (ha : Ok n a) (hb : Ok n b) : (opL n f a b).length ≤ (zh a).length + (zh b).length + 1 := by
 have h1 := (zax f ha hb).len
 have h4 := zjo (start (f (zr a) (zr b))) (comb n f (zr a) (zr b) (f (zr a) (zr b)) (zh a) (zh b))
 unfold opL
 omega
theorem zen {n : Int} (h : scheme n = true) : Ok n [] := ⟨h, by simp, (fun x hx => by cases hx), trivial⟩
theorem ok_all {n : Int} (h : scheme n = true) : Ok n [noI] := ⟨h, by simp, (fun x hx => by rw [List.mem_singleton.1 hx]; rfl), rfl, (fun z hz => by cases hz), trivial⟩
structure Few (n : Int) (a : List Itv) (k : Nat) : Prop where
 ok : Ok n a
 few : (zh a).length ≤ k
theorem Few.op {n : Int} {a b : List Itv} {j k : Nat} (ha : Few n a j) (hb : Few n b k) (f : Bool → Bool → Bool) (h : j + k ≤ 31) : Few n (opL n f a b) (j + k) := by
 have h1 := ha.few
 have h2 := hb.few
 have h3 := cuts_op f ha.ok hb.ok
 have h4 := len_op f ha.ok hb.ok
 exact ⟨zj4 f ha.ok hb.ok (by omega), by omega⟩
theorem Few.nil {n : Int} (h : scheme n = true) : Few n [] 0 := ⟨zen h, by simp [zh]⟩
theorem Few.len {n : Int} {a : List Itv} {j : Nat} (ha : Few n a j) : a.length ≤ 32 := ha.ok.len
end Go.Proofs.YtcfbkcapbbhmpaaGreatDoor.V
namespace Go.Proofs.YtcfbkcapbbhmpaaGreatDoor.V
def verB (c : UInt8) : Bool := kind [46, 43, 126, 45, 58] c
theorem zay {P : UInt8 → Prop} (c : UInt8) (hc : P c) : ∀ l : Bs, (∀ x ∈ zd c l, ∀ b ∈ x, P b) → ∀ b ∈ l, P b
 | [], _, b, hb => by simp at hb
 | a :: l, h, b, hb => by
  unfold zd at h
  by_cases e : a = c
  ·subst e
   simp only [beq_self_eq_true, if_true] at h
   rcases List.mem_cons.1 hb with rfl | hb
   ·exact hc
   ·exact zay a hc l (fun x hx => h x (by simp [hx])) b hb
  ·rw [if_neg (by simpa using e)] at h
   rcases hs : zd c l with _ | ⟨y, r⟩
   ·exact absurd hs (zb5 c l)
   ·rw [hs] at h
    simp only at h
    rcases List.mem_cons.1 hb with rfl | hb
    ·exact h (b :: y) (by simp) b (by simp)
    ·exact zay c hc l (fun x hx z hz => by
       rw [hs] at hx
       rcases List.mem_cons.1 hx with rfl | hx
       · exact h (a :: x) (by simp) z (by simp [hz])
       · exact h x (by simp [hx]) z hz) b hb
theorem zsj (c : UInt8) : ∀ l : Bs, c ∈ l → l = l.takeWhile (· != c) ++ c :: l.drop ((l.takeWhile (· != c)).length + 1)
 | [], h => by simp at h
 | b :: l, h => by
  by_cases e : b = c
  ·subst e; simp
  ·have hb : (b != c) = true := by simpa using e
   have ih := zsj c l (by
     rcases List.mem_cons.1 h with h | h
     · exact absurd h.symm e
     · exact h)
   rw [List.takeWhile_cons, if_pos hb, List.length_cons, List.drop_succ_cons, List.cons_append, ← ih]
theorem zok (c : UInt8) (l : Bs) (h : (cut1 c l).2.2 = true) : l = (cut1 c l).1 ++ c :: (cut1 c l).2.1 := by
 unfold cut1 at *
 by_cases hc : c ∈ l
 ·rw [if_pos hc]; exact zsj c l hc
 ·rw [if_neg hc] at h; cases h
theorem cut_none (c : UInt8) (l : Bs) (h : (cut1 c l).2.2 = false) : (cut1 c l).1 = l := by
 unfold cut1 at *
 split
 ·rename_i hc; rw [if_pos hc] at h; cases h
 ·rfl
theorem zhv {P : UInt8 → Prop} (c : UInt8) (hc : P c) (l : Bs) (h1 : ∀ b ∈ (cut1 c l).1, P b) (h2 : (cut1 c l).2.2 = true → ∀ b ∈ (cut1 c l).2.1, P b) : ∀ b ∈ l, P b := by
 intro b hb
 rcases h : (cut1 c l).2.2 with _ | _
 ·rw [cut_none c l h] at h1; exact h1 b hb
 ·rw [zok c l h] at hb
  rcases List.mem_append.1 hb with g | g
  ·exact h1 b g
  ·rcases List.mem_cons.1 g with rfl | g
   ·exact hc
   ·exact h2 h b g
theorem zgc {p : UInt8 → Bool} {l : Bs} (h : only p l = true) : ∀ b ∈ l, p b = true := by
 unfold only at h
 rw [Bool.and_eq_true, List.all_eq_true] at h
 exact h.1
theorem ze0 {o o' : Bs} (ho : ∀ c ∈ o, c ∈ o') {c : UInt8} (h : kind o c = true) : kind o' c = true := by
 unfold kind at *
 rw [Bool.or_eq_true] at *
 rcases h with h | h
 ·exact .inl h
 ·exact .inr (by simpa using ho c (by simpa using h))
theorem zpt {x : Bs} {e : Bool} (h : numb x e = true) : ∀ b ∈ x, verB b = true := fun b hb => by
 unfold numb digits at h
 rw [Bool.and_eq_true] at h
 have := zgc h.1 b hb
 unfold verB kind; rw [this]; simp
theorem ident_in {x : Bs} {e : Bool} (h : km e x = true) : ∀ b ∈ x, verB b = true := fun b hb => by
 unfold km at h
 rw [Bool.and_eq_true] at h
 exact ze0 (by simp) (zgc h.1 b hb)
theorem zom {s : Bs} {e : Bool} (h : identifiers s e = true) : ∀ b ∈ s, verB b = true := by
 unfold identifiers at h
 rw [List.all_eq_true] at h
 exact zay 46 (by decide +kernel) s fun x hx => ident_in (h x hx)
theorem dot_in {s : Bs} (h : zfl s = true) : ∀ b ∈ s, verB b = true := by
 unfold zfl at h
 rw [List.all_eq_true] at h
 exact zay 46 (by decide +kernel) s fun x hx => zpt (h x hx)
theorem sem_in {s : Bs} (h : (zq s).isSome = true) : ∀ b ∈ s, verB b = true := by
 unfold zq at h
 split at h
 ·cases h
 ·rename_i hn
  split at h
  ·rename_i ha
   rw [List.all_eq_true] at ha
   simp only [Bool.or_eq_true, Bool.and_eq_true, Bool.not_eq_true', not_or, not_and, Bool.not_eq_false] at hn
   obtain ⟨⟨h1, h2⟩, _⟩ := hn
   refine zhv 43 (by decide +kernel) s (zhv 45 (by decide +kernel) _ (zay 46 (by decide +kernel) _ fun x hx => zpt (ha x hx)) fun e => zom (h2 e)) fun e => zom (h1 e)
  ·cases h
theorem zll {ep s : Bs} (h : (jq ep s).isSome = true) : ∀ b ∈ s, verB b = true := by
 unfold jq at h
 split at h
 ·split at h
  ·rename_i g
   rw [Bool.and_eq_true] at g
   exact fun b hb => ze0 (by simp) (zgc g.1 b hb)
  ·cases h
 ·rename_i h0
  split at h
  ·rename_i g1
   split at h
   ·rename_i g2
    rw [Bool.and_eq_true] at g2
    have e1 := fun b hb => ze0 (o' := [46, 43, 126, 45, 58]) (by simp) (zgc g2.1 b hb)
    have e2 := fun b hb => ze0 (o' := [46, 43, 126, 45, 58]) (by simp [allow]) (zgc g1 b hb)
    unfold jg at *
    rcases Lib.lastIndexByte_spec ⟨s.toArray⟩ 45 with ⟨e, _⟩ | ⟨i, hi, e, hc, _⟩
    ·rw [e] at h0; simp at h0
    ·rw [e] at e1 e2
     have hi' : i < s.length := by rw [show (ByteArray.mk s.toArray).size = s.length by show s.toArray.size = _; simp] at hi; exact hi
     intro b hb
     rw [← List.take_append_drop i s, List.drop_eq_getElem_cons hi'] at hb
     rcases List.mem_append.1 hb with q | q
     ·exact e1 b (by simpa using q)
     ·rcases List.mem_cons.1 q with rfl | q
      ·have : s[i] = 45 := by
        have e3 : (ByteArray.mk s.toArray).data[i]! = s[i] := by simp [hi']
        rw [e3] at hc
        exact UInt8.toNat_inj.1 (show s[i].toNat = 45 by omega)
       rw [this]; decide +kernel
      ·exact e2 b (by simpa using q)
   ·cases h
  ·cases h
theorem deb_in {s : Bs} (h : (zu s).isSome = true) : ∀ b ∈ s, verB b = true := by
 unfold zu at h
 split at h
 ·rename_i hc
  split at h
  ·rename_i hn
   exact zhv 58 (by decide +kernel) s (zpt hn) fun _ => zll h
  ·cases h
 ·exact zll h
theorem valid_in {n : Int} {v : Bs} (h : valid n v = true) : ∀ b ∈ v, verB b = true := by
 unfold valid uh at h
 rw [Bool.and_eq_true] at h
 obtain ⟨_, h⟩ := h
 repeat' split at h
 ·exact sem_in h
 ·exact deb_in h
 ·exact dot_in h
 ·cases h
theorem ze5 {n : Int} {v : Bs} (h : valid n v = true) {c : UInt8} (hc : verB c = false) : c ∉ v := fun g => by
 rw [valid_in h c g] at hc; cases hc
end Go.Proofs.YtcfbkcapbbhmpaaGreatDoor.V
