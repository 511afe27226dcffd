/-
  Lemmas for the law.
-/
import Derived.Test.YtbikeahmldobkaaGreatDoorC51x16
set_option linter.all false
namespace Go.Proofs.YtbikeahmldobkaaGreatDoor.V
def Least (n : Int) (L : List Cut) (c : Cut) : Prop := c ∈ L ∧ ∀ d ∈ L, pos n d = pos n c → ¬ cb d.1 c.1 < 0
theorem cb_lt_eq {a b : Bs} (h1 : ¬ cb a b < 0) (h2 : ¬ cb b a < 0) : a = b := by
 have := kf a b
 exact zjg (by omega)
theorem cb_nlt {a b c : Bs} (h1 : ¬ cb a b < 0) (h2 : ¬ cb b c < 0) : ¬ cb a c < 0 := by
 have e1 := kf a b
 have e2 := kf b c
 have e3 := kf a c
 have := wh c b a (by omega) (by omega)
 omega
theorem zua {n : Int} {L : List Cut} {c d : Cut} (hc : Least n L c) (hd : Least n L d) (h : pos n c = pos n d) : c = d := by
 have h1 := hc.2 d hd.1 h.symm
 have h2 := hd.2 c hc.1 h
 have h3 := cb_lt_eq h2 h1
 have h4 : c.2 = d.2 := by have := congrArg Prod.snd h; exact this
 exact Prod.ext h3 h4
theorem zgu {n : Int} {L : List Cut} : ∀ {R S : List Cut}, poss n R = poss n S → (∀ c ∈ R, Least n L c) → (∀ c ∈ S, Least n L c) → R = S
 | [], [], _, _, _ => rfl
 | [], _ :: _, h, _, _ => by simp [poss] at h
 | _ :: _, [], h, _, _ => by simp [poss] at h
 | c :: R, d :: S, h, hr, hs => by
  have h1 : pos n c = pos n d ∧ poss n R = poss n S := by simpa [poss] using h
  rw [zua (hr c (by simp)) (hs d (by simp)) h1.1, zgu h1.2 (fun e he => hr e (by simp [he])) (fun e he => hs e (by simp [he]))]
theorem zaz {n : Int} {P : Pos} {H L' : List Cut} {h : Cut} {R : List Cut} {nx now : Bool} (hH : ∀ d ∈ H, pos n d = P) (hL : ∀ p ∈ poss n L', plt P p) (hm : h ∈ H) (g0 : ∀ d ∈ H, ¬ cb d.1 h.1 < 0)
  (hR : ∀ e ∈ R, Least n L' e) {L : List Cut} (h1 : ∀ d ∈ L, d ∈ H ∨ d ∈ L') (h2 : ∀ d ∈ H, d ∈ L) (h3 : ∀ d ∈ L', d ∈ L) : ∀ e ∈ emit h nx now R, Least n L e := by
 intro e he
 rcases xf he with rfl | he
 ·refine ⟨h2 _ hm, fun d hd hp => ?_⟩
  rcases h1 d hd with g | g
  ·exact g0 d g
  ·have := hL _ (List.mem_map.2 ⟨d, g, rfl⟩)
   rw [hp, hH _ hm] at this
   exact absurd this (qg _)
 ·obtain ⟨g1, g2⟩ := hR e he
  refine ⟨h3 _ g1, fun d hd hp => ?_⟩
  rcases h1 d hd with g | g
  ·have := hL _ (List.mem_map.2 ⟨e, g1, rfl⟩)
   rw [← hp, hH _ g] at this
   exact absurd this (qg _)
  ·exact g2 d g hp
theorem zsc (a b : Bs) : ¬ cb a (lesser a b) < 0 ∧ ¬ cb b (lesser a b) < 0 := by
 have h1 := uh a
 have h2 := uh b
 have h3 := kf a b
 unfold lesser
 by_cases h : Lib.compareBytes b a < 0
 ·rw [if_pos h]
  have : cb b a < 0 := h
  omega
 ·rw [if_neg h]
  have : ¬ cb b a < 0 := h
  omega
theorem ut {n : Int} (hn : scheme n = true) (f : Bool → Bool → Bool) : ∀ (k : Nat) (l m : List Cut) (x y now : Bool), l.length + m.length ≤ k → uj n l → uj n m → asc (poss n l) → asc (poss n m) →
  ∀ c ∈ comb n f x y now l m, Least n (l ++ m) c
 | _, [], [], x, y, now, _, _, _, _, _ => by
  rw [comb]
  intro c hc
  cases hc
 | 0, _ :: _, _, _, _, _, h, _, _, _, _ => by simp at h
 | 0, [], _ :: _, _, _, _, h, _, _, _, _ => by simp at h
 | k + 1, c :: l, [], x, y, now, h, hl, hm, al, am => by
  obtain ⟨a1, a2⟩ := List.pairwise_cons.1 (show asc (pos n c :: poss n l) from al)
  have ih := ut hn f k l [] (!x) y (f (!x) y) (by simp at h ⊢; omega) (fun d hd => hl d (by simp [hd])) hm a2 am
  rw [comb_l]
  refine zaz (P := pos n c) (H := [c]) (L' := l ++ []) (fun d hd => by rw [List.mem_singleton.1 hd]) (fun p hp => a1 p (by simpa using hp)) (by simp) (fun d hd => by rw [List.mem_singleton.1 hd]; have := uh c.1; omega) ih ?_ ?_ ?_
  ·intro d hd; simp at hd ⊢; exact hd
  ·intro d hd; simp at hd ⊢; exact .inl hd
  ·intro d hd; simp at hd ⊢; exact .inr hd
 | k + 1, [], d :: m, x, y, now, h, hl, hm, al, am => by
  obtain ⟨a1, a2⟩ := List.pairwise_cons.1 (show asc (pos n d :: poss n m) from am)
  have ih := ut hn f k [] m x (!y) (f x (!y)) (by simp at h ⊢; omega) hl (fun d hd => hm d (by simp [hd])) al a2
  rw [comb_r]
  refine zaz (P := pos n d) (H := [d]) (L' := [] ++ m) (fun e he => by rw [List.mem_singleton.1 he]) (fun p hp => a1 p (by simpa using hp)) (by simp) (fun e he => by rw [List.mem_singleton.1 he]; have := uh d.1; omega) ih ?_ ?_ ?_
  ·intro e he; simp at he ⊢; exact he
  ·intro e he; simp at he ⊢; exact .inl he
  ·intro e he; simp at he ⊢; exact .inr he
 | k + 1, c :: l, d :: m, x, y, now, h, hl, hm, al, am => by
  obtain ⟨a1, a2⟩ := List.pairwise_cons.1 (show asc (pos n c :: poss n l) from al)
  obtain ⟨b1, b2⟩ := List.pairwise_cons.1 (show asc (pos n d :: poss n m) from am)
  have hc := hl c (by simp)
  have hd := hm d (by simp)
  have g1 : uj n l := fun e he => hl e (by simp [he])
  have g2 : uj n m := fun e he => hm e (by simp [he])
  have g0 := zau hn hc hd
  have pa : ∀ {L M : List Cut} {p : Pos}, p ∈ poss n (L ++ M) → p ∈ poss n L ∨ p ∈ poss n M := fun hp => by
   unfold poss at hp ⊢
   rw [List.map_append, List.mem_append] at hp
   exact hp
  rcases zm0 (pos n c) (pos n d) with g | g | g
  ·have hlt : cutC n c d < 0 := by rw [g0]; exact g
   have ih := ut hn f k l (d :: m) (!x) y (f (!x) y) (by simp at h ⊢; omega) g1 hm a2 am
   rw [zs2 hlt]
   refine zaz (P := pos n c) (H := [c]) (L' := l ++ (d :: m)) (fun e he => by rw [List.mem_singleton.1 he]) (fun p hp => ?_) (by simp) (fun e he => by rw [List.mem_singleton.1 he]; have := uh c.1; omega) ih ?_ ?_ ?_
   ·rcases pa hp with hp | hp
    ·exact a1 p hp
    ·rcases List.mem_cons.1 (show p ∈ pos n d :: poss n m from hp) with rfl | e
     ·exact g
     ·exact qe g (b1 p e)
   ·intro e he; simp at he ⊢; exact he
   ·intro e he; simp at he ⊢; exact .inl he
   ·intro e he; simp at he ⊢; exact .inr he
  ·have g4 : cutC n c d = 0 := by rw [g0, g]; exact zfp _
   have ih := ut hn f k l m (!x) (!y) (f (!x) (!y)) (by simp at h ⊢; omega) g1 g2 a2 b2
   rw [zta g4]
   have h2 : c.2 = d.2 := by have := congrArg Prod.snd g; exact this
   have g3 := zsc c.1 d.1
   refine zaz (P := pos n c) (H := [c, d]) (L' := l ++ m) (fun e he => ?_) (fun p hp => ?_) ?_ (fun e he => ?_) ih ?_ ?_ ?_
   ·simp at he
    rcases he with rfl | rfl
    ·rfl
    ·exact g.symm
   ·rcases pa hp with hp | hp
    ·exact a1 p hp
    ·rw [g]; exact b1 p hp
   ·rcases zgm c.1 d.1 with e | e
    ·rw [e]; simp
    ·rw [e, h2]; simp
   ·simp at he
    rcases he with rfl | rfl
    ·exact g3.1
    ·exact g3.2
   ·intro e he
    simp at he ⊢
    rcases he with e | e | e | e
    ·exact .inl (.inl e)
    ·exact .inr (.inl e)
    ·exact .inl (.inr e)
    ·exact .inr (.inr e)
   ·intro e he
    simp at he ⊢
    rcases he with e | e
    ·exact .inl e
    ·exact .inr (.inr (.inl e))
   ·intro e he
    simp at he ⊢
    rcases he with e | e
    ·exact .inr (.inl e)
    ·exact .inr (.inr (.inr e))
  ·have hlt : 0 < cutC n c d := by
    have g' : cp (pos n d) (pos n c) < 0 := g
    rw [g0]; have := zd3 (pos n d) (pos n c); omega
   have ih := ut hn f k (c :: l) m x (!y) (f x (!y)) (by simp at h ⊢; omega) hl g2 al b2
   rw [ztd hlt]
   refine zaz (P := pos n d) (H := [d]) (L' := (c :: l) ++ m) (fun e he => by rw [List.mem_singleton.1 he]) (fun p hp => ?_) (by simp) (fun e he => by rw [List.mem_singleton.1 he]; have := uh d.1; omega) ih ?_ ?_ ?_
   ·rcases pa hp with hp | hp
    ·rcases List.mem_cons.1 (show p ∈ pos n c :: poss n l from hp) with rfl | e
     ·exact g
     ·exact qe g (a1 p e)
    ·exact b1 p hp
   ·intro e he
    simp at he ⊢
    rcases he with e | e | e | e
    ·exact .inr (.inl e)
    ·exact .inr (.inr (.inl e))
    ·exact .inl e
    ·exact .inr (.inr (.inr e))
   ·intro e he
    simp at he ⊢
    exact .inr (.inr (.inl he))
   ·intro e he
    simp at he ⊢
    rcases he with e | e | e
    ·exact .inl e
    ·exact .inr (.inl e)
    ·exact .inr (.inr (.inr e))
def opL (n : Int) (f : Bool → Bool → Bool) (a b : List Itv) : List Itv :=
 ofC (start (f (qa a) (qa b))) (comb n f (qa a) (qa b) (f (qa a) (qa b)) (zr a) (zr b))
theorem zay {n : Int} (f : Bool → Bool → Bool) {a b : List Itv} (ha : Ok n a) (hb : Ok n b) : CombOk n f (qa a) (qa b) (zr a) (zr b) (comb n f (qa a) (qa b) (f (qa a) (qa b)) (zr a) (zr b)) :=
 zdr ha.sch f _ _ _ _ _ (Nat.le_refl _) ha.cuts hb.cuts ha.asc hb.asc
theorem zmm {n : Int} (f : Bool → Bool → Bool) {a b : List Itv} (ha : Ok n a) (hb : Ok n b) (h : (opL n f a b).length ≤ 32) : Ok n (opL n f a b) :=
 zhi (okR_of ha.sch (zay f ha hb).ok (zay f ha hb).asc h)
theorem opL_len {n : Int} (f : Bool → Bool → Bool) {a b : List Itv} (ha : Ok n a) (hb : Ok n b) : (opL n f a b).length ≤ 129 := by
 have h1 := (zay f ha hb).len
 have h2 := zct a
 have h3 := zct b
 have h4 := zhw (start (f (qa a) (qa b))) (comb n f (qa a) (qa b) (f (qa a) (qa b)) (zr a) (zr b))
 have h5 := ha.len
 have h6 := hb.len
 unfold opL
 omega
structure Ec where
 e : Int
 v : Bs
 s : Int
def ebot : Ec := ⟨-1, [], 0⟩
def etop : Ec := ⟨1, [], 0⟩
def eat (c : Cut) : Ec := ⟨0, c.1, if c.2 then 1 else 0⟩
def ecmp (n : Int) (a b : Ec) : Int := if a.e ≠ b.e ∨ a.e ≠ 0 then a.e - b.e else if cmpV n a.v b.v ≠ 0 then cmpV n a.v b.v else a.s - b.s
def eLow (x : Itv) : Ec := if x.lk = 1 then ⟨0, x.lo, 0⟩ else if x.lk = 2 then ⟨0, x.lo, 1⟩ else ebot
def km (x : Itv) : Ec := if x.hk = 1 then ⟨0, x.hi, 1⟩ else if x.hk = 2 then ⟨0, x.hi, 0⟩ else etop
theorem zdv (n : Int) (c d : Cut) : ecmp n (eat c) (eat d) = cutC n c d := by
 obtain ⟨a, s⟩ := c
 obtain ⟨b, t⟩ := d
 unfold ecmp eat cutC
 simp only [ne_eq, not_true, or_self, if_false]
 by_cases h : cmpV n a b = 0
 ·rw [if_neg (by simp [h])]
  cases s <;> cases t <;> simp [h]
 ·rw [if_pos h, if_pos (.inl h)]
theorem za9 {x : Itv} (h : x.lk = 0) : eLow x = ebot := by unfold eLow; rw [if_neg (by omega), if_neg (by omega)]
theorem vz {x : Itv} (h : x.hk = 0) : km x = etop := by unfold km; rw [if_neg (by omega), if_neg (by omega)]
theorem zag {n : Int} {x : Itv} (h : zt n x = true) (hk : x.lk ≠ 0) : eLow x = eat x.low := by
 unfold zt at h
 rw [Bool.and_eq_true] at h
 unfold eLow eat Itv.low
 rcases (uz h.1 hk).1 with e | e <;> simp [e]
theorem yw {n : Int} {x : Itv} (h : zt n x = true) (hk : x.hk ≠ 0) : km x = eat x.high := by
 unfold zt at h
 rw [Bool.and_eq_true] at h
 unfold km eat Itv.high
 rcases (uz h.2 hk).1 with e | e <;> simp [e]
def radd (n : Int) (x : Ec) : List Ec → List Ec
 | [] => [x]
 | y :: l => if ecmp n y x < 0 then y :: radd n x l else if ecmp n y x = 0 then (if cb y.v x.v < 0 then y else x) :: l else x :: y :: l
def addI (n : Int) (l : List Ec) (x : Itv) : List Ec := radd n (km x) (radd n (eLow x) l)
def rcuts (n : Int) (a b : List Itv) : List Ec := (a ++ b).foldl (addI n) [ebot, etop]
def jl (n : Int) (l : List Itv) (a b : Ec) : Bool := l.any fun x => decide (ecmp n (eLow x) a ≤ 0) && decide (ecmp n b (km x) ≤ 0)
def btw (a b : Ec) : Itv := ⟨if a.e = 0 then a.v else [], if a.e = 0 then 1 + a.s else 0, if b.e = 0 then b.v else [], if b.e = 0 then 2 - b.s else 0⟩
def rrun (h : Ec → Ec → Bool) : Option Ec → List Ec → List Itv
 | _, [] => []
 | none, [_] => []
 | some f, [e] => [btw f e]
 | none, e :: e' :: l => if h e e' then rrun h (some e) (e' :: l) else rrun h none (e' :: l)
 | some f, e :: e' :: l => if h e e' then rrun h (some f) (e' :: l) else btw f e :: rrun h none (e' :: l)
def opR (n : Int) (f : Bool → Bool → Bool) (a b : List Itv) : List Itv := rrun (fun x y => f (jl n a x y) (jl n b x y)) none (rcuts n a b)
def cins (n : Int) (c : Cut) : List Cut → List Cut
 | [] => [c]
 | d :: l => if cutC n d c < 0 then d :: cins n c l else if cutC n d c = 0 then (if cb d.1 c.1 < 0 then d else c) :: l else c :: d :: l
def ends (C : List Cut) : List Ec := ebot :: (C.map eat ++ [etop])
theorem zl1 (n : Int) (c : Cut) : ∀ C : List Cut, radd n (eat c) (C.map eat ++ [etop]) = (cins n c C).map eat ++ [etop]
 | [] => rfl
 | d :: C => by
  have ih := zl1 n c C
  show radd n (eat c) (eat d :: (C.map eat ++ [etop])) = _
  unfold radd cins
  rw [zdv]
  by_cases h : cutC n d c < 0
  ·rw [if_pos h, if_pos h, ih]
   rfl
  ·rw [if_neg h, if_neg h]
   by_cases h0 : cutC n d c = 0
   ·rw [if_pos h0, if_pos h0]
    show (if cb d.1 c.1 < 0 then eat d else eat c) :: _ = _
    by_cases h1 : cb d.1 c.1 < 0
    ·rw [if_pos h1, if_pos h1]; rfl
    ·rw [if_neg h1, if_neg h1]; rfl
   ·rw [if_neg h0, if_neg h0]
    rfl
theorem zhs (n : Int) (c : Cut) (C : List Cut) : radd n (eat c) (ends C) = ends (cins n c C) := by
 unfold ends
 rw [radd, if_pos (show ecmp n ebot (eat c) < 0 by unfold ecmp ebot eat; simp), zl1]
theorem zoy (n : Int) (C : List Cut) : radd n ebot (ends C) = ends C := by
 unfold ends
 rw [radd]
 rfl
theorem zel (n : Int) : ∀ C : List Cut, radd n etop (C.map eat ++ [etop]) = C.map eat ++ [etop]
 | [] => rfl
 | d :: C => by
  show radd n etop (eat d :: (C.map eat ++ [etop])) = _
  rw [radd, if_pos (show ecmp n (eat d) etop < 0 by unfold ecmp eat etop; simp), zel n C]
  rfl
theorem zoz (n : Int) (C : List Cut) : radd n etop (ends C) = ends C := by
 unfold ends
 rw [radd, if_pos (show ecmp n ebot etop < 0 by unfold ecmp ebot etop; simp), zel]
theorem zt4 {n : Int} {x : Itv} (h : zt n x = true) (C : List Cut) : addI n (ends C) x = ends ((zr [x]).foldl (fun C c => cins n c C) C) := by
 unfold addI zr
 by_cases h1 : x.lk = 0 <;> by_cases h2 : x.hk = 0
 ·rw [za9 h1, vz h2, zoy, zoz, if_pos h1, if_pos h2]; rfl
 ·rw [za9 h1, yw h h2, zoy, zhs, if_pos h1, if_neg h2]; rfl
 ·rw [zag h h1, vz h2, zhs, zoz, if_neg h1, if_pos h2]; rfl
 ·rw [zag h h1, yw h h2, zhs, zhs, if_neg h1, if_neg h2]; rfl
theorem zjp {n : Int} : ∀ {l : List Itv} (C : List Cut), (∀ x ∈ l, zt n x = true) → l.foldl (addI n) (ends C) = ends ((zr l).foldl (fun C c => cins n c C) C)
 | [], C, _ => rfl
 | x :: l, C, h => by
  have ih := zjp (l := l) ((zr [x]).foldl (fun C c => cins n c C) C) (fun y hy => h y (by simp [hy]))
  rw [List.foldl_cons, zt4 (h x (by simp)), ih, ← List.foldl_append]
  rw [show zr (x :: l) = zr [x] ++ zr l by simp only [zr, List.append_nil, List.append_assoc]]
theorem zas : ∀ a b : List Itv, zr (a ++ b) = zr a ++ zr b
 | [], b => rfl
 | x :: a, b => by rw [List.cons_append, zr, zr, zas a b, List.append_assoc, List.append_assoc]
structure Sorted (n : Int) (L C : List Cut) : Prop where
 asc : asc (poss n C)
 least : ∀ c ∈ C, Least n L c
 all : ∀ d ∈ L, pos n d ∈ poss n C
 ok : uj n C
theorem zs9 {n : Int} (hn : scheme n = true) {c : Cut} (hc : valid n c.1 = true) : ∀ {C : List Cut}, uj n C → asc (poss n C) →
  asc (poss n (cins n c C)) ∧ (∀ e ∈ cins n c C, (e ∈ C ∧ (pos n e = pos n c → cb e.1 c.1 < 0)) ∨ (e = c ∧ ∀ y ∈ C, pos n y = pos n c → ¬ cb y.1 c.1 < 0)) ∧ (∀ y ∈ C, pos n y ∈ poss n (cins n c C)) ∧ pos n c ∈ poss n (cins n c C)
 | [], _, _ => by
  refine ⟨List.pairwise_singleton _ _, (fun e he => .inr ⟨by simpa [cins] using he, (fun y hy => by cases hy)⟩), (fun y hy => by cases hy), by simp [cins, poss]⟩
 | d :: C, hC, aC => by
  obtain ⟨a1, a2⟩ := List.pairwise_cons.1 (show V.asc (pos n d :: poss n C) from aC)
  have hd := hC d (by simp)
  have g4 := zau hn hd hc
  obtain ⟨i1, i2, i3, i4⟩ := zs9 hn hc (C := C) (fun e he => hC e (by simp [he])) a2
  unfold cins
  by_cases h : cutC n d c < 0
  ·rw [if_pos h]
   have hlt : plt (pos n d) (pos n c) := by unfold plt; rw [← g4]; exact h
   refine ⟨List.pairwise_cons.2 ⟨fun p hp => ?_, i1⟩, fun e he => ?_, fun y hy => ?_, List.mem_cons_of_mem _ i4⟩
   ·obtain ⟨e, he, rfl⟩ := List.mem_map.1 hp
    rcases i2 e he with ⟨g, _⟩ | ⟨rfl, _⟩
    ·exact a1 _ (List.mem_map.2 ⟨e, g, rfl⟩)
    ·exact hlt
   ·rcases List.mem_cons.1 he with rfl | he
    ·exact .inl ⟨by simp, fun e0 => by rw [e0] at hlt; exact absurd hlt (qg _)⟩
    ·rcases i2 e he with ⟨g, g2⟩ | ⟨rfl, g⟩
     ·exact .inl ⟨by simp [g], g2⟩
     ·refine .inr ⟨rfl, fun y hy hp => ?_⟩
      rcases List.mem_cons.1 hy with rfl | hy
      ·rw [hp] at hlt; exact absurd hlt (qg _)
      ·exact g y hy hp
   ·rcases List.mem_cons.1 hy with rfl | hy
    ·simp [poss]
    ·exact List.mem_cons_of_mem _ (i3 y hy)
  ·rw [if_neg h]
   by_cases h0 : cutC n d c = 0
   ·rw [if_pos h0]
    have g3 : pos n d = pos n c := cp_eq (by rw [← g4]; exact h0)
    have g0 : ∀ y ∈ C, pos n y ≠ pos n c := fun y hy e => by
     have := a1 _ (List.mem_map.2 ⟨y, hy, rfl⟩)
     rw [e, ← g3] at this
     exact qg _ this
    by_cases h1 : cb d.1 c.1 < 0
    ·rw [if_pos h1]
     refine ⟨aC, fun e he => .inl ⟨he, fun e0 => ?_⟩, fun y hy => List.mem_map.2 ⟨y, hy, rfl⟩, by rw [← g3]; simp [poss]⟩
     rcases List.mem_cons.1 he with rfl | he
     ·exact h1
     ·exact absurd e0 (g0 e he)
    ·rw [if_neg h1]
     refine ⟨List.pairwise_cons.2 ⟨fun p hp => by rw [← g3]; exact a1 p hp, a2⟩, fun e he => ?_, fun y hy => ?_, by simp [poss]⟩
     ·rcases List.mem_cons.1 he with rfl | he
      ·refine .inr ⟨rfl, fun y hy hp => ?_⟩
       rcases List.mem_cons.1 hy with rfl | hy
       ·exact h1
       ·exact absurd hp (g0 y hy)
      ·exact .inl ⟨by simp [he], fun e0 => absurd e0 (g0 e he)⟩
     ·rcases List.mem_cons.1 hy with rfl | hy
      ·rw [g3]; simp [poss]
      ·exact List.mem_cons_of_mem _ (List.mem_map.2 ⟨y, hy, rfl⟩)
   ·rw [if_neg h0]
    have g1 : plt (pos n c) (pos n d) := by
     have := zd3 (pos n d) (pos n c)
     unfold plt
     omega
    have g5 : ∀ y ∈ d :: C, pos n y ≠ pos n c := fun y hy e => by
     rcases List.mem_cons.1 hy with rfl | hy
     ·rw [e] at g1; exact qg _ g1
     ·have := qe g1 (a1 _ (List.mem_map.2 ⟨y, hy, rfl⟩))
      rw [e] at this
      exact qg _ this
    refine ⟨List.pairwise_cons.2 ⟨fun p hp => ?_, aC⟩, fun e he => ?_, fun y hy => List.mem_cons_of_mem _ (List.mem_map.2 ⟨y, hy, rfl⟩), by simp [poss]⟩
    ·rcases List.mem_cons.1 (show p ∈ pos n d :: poss n C from hp) with rfl | hp
     ·exact g1
     ·exact qe g1 (a1 p hp)
    ·rcases List.mem_cons.1 he with rfl | he
     ·exact .inr ⟨rfl, fun y hy hp => absurd hp (g5 y hy)⟩
     ·exact .inl ⟨he, fun e0 => absurd e0 (g5 e he)⟩
theorem Sorted.add {n : Int} (hn : scheme n = true) {L C : List Cut} (h : Sorted n L C) {c : Cut} (hc : valid n c.1 = true) : Sorted n (L ++ [c]) (cins n c C) := by
 obtain ⟨i1, i2, i3, i4⟩ := zs9 hn hc h.ok h.asc
 refine ⟨i1, fun e he => ?_, fun d hd => ?_, fun e he => ?_⟩
 ·rcases i2 e he with ⟨g, g2⟩ | ⟨rfl, g⟩
  ·obtain ⟨l1, l2⟩ := h.least e g
   refine ⟨by simp [l1], fun d hd hp => ?_⟩
   rcases List.mem_append.1 hd with hd | hd
   ·exact l2 d hd hp
   ·rw [List.mem_singleton.1 hd] at hp ⊢
    have := g2 hp.symm
    have e1 := kf e.1 c.1
    omega
  ·refine ⟨by simp, fun d hd hp => ?_⟩
   rcases List.mem_append.1 hd with hd | hd
   ·obtain ⟨y, hy, ey⟩ := List.mem_map.1 (h.all d hd)
    have g0 := g y hy (ey.trans hp)
    exact cb_nlt ((h.least y hy).2 d hd ey.symm) g0
   ·rw [List.mem_singleton.1 hd]
    have := uh e.1
    omega
 ·rcases List.mem_append.1 hd with hd | hd
  ·obtain ⟨y, hy, ey⟩ := List.mem_map.1 (h.all d hd)
   rw [← ey]
   exact i3 y hy
  ·rw [List.mem_singleton.1 hd]
   exact i4
 ·rcases i2 e he with ⟨g, _⟩ | ⟨rfl, _⟩
  ·exact h.ok e g
  ·exact hc
theorem Sorted.fold {n : Int} (hn : scheme n = true) : ∀ {M L C : List Cut}, Sorted n L C → uj n M → Sorted n (L ++ M) (M.foldl (fun C c => cins n c C) C)
 | [], L, C, h, _ => by rw [List.append_nil]; exact h
 | c :: M, L, C, h, hM => by
  have := Sorted.fold hn (M := M) (h.add hn (hM c (by simp))) (fun d hd => hM d (by simp [hd]))
  rw [List.append_assoc] at this
  exact this
def turns (g : Cut → Bool) : Bool → List Cut → List Cut
 | _, [] => []
 | now, c :: C => emit c (g c) now (turns g (g c) C)
def valC (n : Int) (g : Cut → Bool) : Bool → List Cut → Pos → Bool
 | now, [], _ => now
 | now, c :: C, q => if plt q (pos n c) then now else valC n g (g c) C q
theorem zge {g : Cut → Bool} : ∀ {now : Bool} {C : List Cut} {e : Cut}, e ∈ turns g now C → e ∈ C
 | _, [], _, h => h
 | now, c :: C, e, h => by
  rcases xf h with rfl | h
  ·simp
  ·exact List.mem_cons_of_mem _ (zge h)
theorem zid {n : Int} {g : Cut → Bool} {now : Bool} {C : List Cut} {p : Pos} (h : p ∈ poss n (turns g now C)) : p ∈ poss n C := by
 obtain ⟨e, he, rfl⟩ := List.mem_map.1 h
 exact List.mem_map.2 ⟨e, zge he, rfl⟩
theorem zl3 {n : Int} {g : Cut → Bool} : ∀ {now : Bool} {C : List Cut}, asc (poss n C) → asc (poss n (turns g now C))
 | _, [], h => h
 | now, c :: C, h => by
  obtain ⟨a1, a2⟩ := List.pairwise_cons.1 (show asc (pos n c :: poss n C) from h)
  exact zbs (fun p hp => a1 p (zid hp)) (zl3 a2)
theorem zk2 {n : Int} {g : Cut → Bool} : ∀ {now : Bool} {C : List Cut}, asc (poss n C) → ∀ q, mem now (poss n (turns g now C)) q = valC n g now C q
 | _, [], _, _ => rfl
 | now, c :: C, h, q => by
  obtain ⟨a1, a2⟩ := List.pairwise_cons.1 (show asc (pos n c :: poss n C) from h)
  show mem now (poss n (emit c (g c) now (turns g (g c) C))) q = if plt q (pos n c) then now else valC n g (g c) C q
  rw [zbo (fun p hp => a1 p (zid hp)), zk2 a2]
theorem zc3 {n : Int} : ∀ {C : List Cut} {l : List Pos} (x : Bool), asc (poss n C) → asc l → (∀ p ∈ l, p ∈ poss n C) → ∀ q, valC n (fun c => mem x l (pos n c)) x C q = mem x l q
 | [], l, x, _, _, hs, q => by
  rcases l with _ | ⟨p, l⟩
  ·rfl
  ·have := hs p (by simp)
   simp [poss] at this
 | c :: C, l, x, hC, hl, hs, q => by
  obtain ⟨a1, a2⟩ := List.pairwise_cons.1 (show asc (pos n c :: poss n C) from hC)
  have cong : ∀ (g h : Cut → Bool) (D : List Cut) (now : Bool), (∀ d ∈ D, g d = h d) → valC n g now D q = valC n h now D q := fun g h D => by
   induction D with
   | nil => intro now _; rfl
   | cons d D ih =>
    intro now g1
    show (if plt q (pos n d) then now else valC n g (g d) D q) = if plt q (pos n d) then now else valC n h (h d) D q
    rw [g1 d (by simp), ih _ (fun e he => g1 e (by simp [he]))]
  show (if plt q (pos n c) then x else valC n _ (mem x l (pos n c)) C q) = mem x l q
  rcases l with _ | ⟨p, l⟩
  ·have := zc3 (C := C) (l := []) x a2 List.Pairwise.nil (fun p hp => by cases hp) q
   split
   ·rfl
   ·exact this
  ·obtain ⟨b1, b2⟩ := List.pairwise_cons.1 hl
   rcases List.mem_cons.1 (show p ∈ pos n c :: poss n C from hs p (by simp)) with rfl | hp
   ·have hv : mem x (pos n c :: l) (pos n c) = !x := by
     rw [mem_cons, if_neg (qg _), yl b1]
    rw [hv, mem_cons]
    split
    ·rfl
    ·rw [← zc3 (C := C) (l := l) (!x) a2 b2 (fun p hp => by
       rcases List.mem_cons.1 (show p ∈ pos n c :: poss n C from hs p (by simp [hp])) with rfl | h
       · exact absurd (b1 _ hp) (qg _)
       · exact h) q]
     refine cong _ _ _ _ (fun d hd => ?_)
     have := a1 _ (List.mem_map.2 ⟨d, hd, rfl⟩)
     show mem x (pos n c :: l) (pos n d) = _
     rw [mem_cons, if_neg (uo this)]
   ·have g2 := a1 p hp
    have g0 : ∀ r ∈ p :: l, plt (pos n c) r := fun r hr => by
     rcases List.mem_cons.1 hr with rfl | hr
     ·exact g2
     ·exact qe g2 (b1 r hr)
    rw [yl g0, zc3 (C := C) (l := p :: l) x a2 hl (fun r hr => by
      rcases List.mem_cons.1 (show r ∈ pos n c :: poss n C from hs r hr) with rfl | h
      · exact absurd (g0 _ hr) (qg _)
      · exact h) q]
    split
    ·rename_i h
     exact (yl (fun r hr => qe h (g0 r hr))).symm
    ·rfl
theorem zoq {n : Int} (f : Bool → Bool → Bool) (g h : Cut → Bool) : ∀ (C : List Cut) (x y : Bool) (q : Pos), valC n (fun c => f (g c) (h c)) (f x y) C q = f (valC n g x C q) (valC n h y C q)
 | [], _, _, _ => rfl
 | c :: C, x, y, q => by
  show (if plt q (pos n c) then f x y else valC n _ (f (g c) (h c)) C q) = f (if plt q (pos n c) then x else valC n g (g c) C q) (if plt q (pos n c) then y else valC n h (h c) C q)
  split
  ·rfl
  ·exact zoq f g h C (g c) (h c) q
def hd (C : List Cut) : Ec := match C with | [] => etop | d :: _ => eat d
def optE (e : Ec) : Option Cut := if e.e = 0 then some (e.v, decide (e.s = 1)) else none
theorem btw_at (c : Cut) (f : Ec) (hf : f = ebot ∨ ∃ d, f = eat d) : btw f (eat c) = mkI (optE f) (some c) := by
 obtain ⟨v, s⟩ := c
 rcases hf with rfl | ⟨⟨a, t⟩, rfl⟩
 ·cases s <;> rfl
 ·cases s <;> cases t <;> rfl
theorem btw_top (f : Ec) (hf : f = ebot ∨ ∃ d, f = eat d) : btw f etop = mkI (optE f) none := by
 rcases hf with rfl | ⟨⟨a, t⟩, rfl⟩
 ·rfl
 ·cases t <;> rfl
theorem optE_at (c : Cut) : optE (eat c) = some c := by
 obtain ⟨v, s⟩ := c
 cases s <;> rfl
theorem zih {h : Ec → Ec → Bool} {g : Cut → Bool} : ∀ {C : List Cut}, (∀ A c B, C = A ++ c :: B → h (eat c) (hd B) = g c) →
  (∀ e, rrun h none (e :: (C.map eat ++ [etop])) = if h e (hd C) then rrun h (some e) (e :: (C.map eat ++ [etop])) else ofC none (turns g false C)) ∧
  (∀ f e, (f = ebot ∨ ∃ d, f = eat d) → h e (hd C) = true → rrun h (some f) (e :: (C.map eat ++ [etop])) = ofC (some (optE f)) (turns g true C))
 | [], _ => by
  refine ⟨fun e => ?_, fun f e hf he => ?_⟩
  ·show (if h e etop then rrun h (some e) [etop] else rrun h none [etop]) = if h e etop then (if h e etop then rrun h (some e) [etop] else btw e e :: rrun h none [etop]) else []
   by_cases hh : h e etop = true
   ·rw [if_pos hh, if_pos hh, if_pos hh]
   ·rw [if_neg hh, if_neg hh]; rfl
  ·show (if h e etop then rrun h (some f) [etop] else _) = _
   rw [if_pos (show h e etop = true from he)]
   show [btw f etop] = _
   rw [btw_top f hf]
   rfl
 | c :: C, H => by
  obtain ⟨i1, i2⟩ := zih (h := h) (g := g) (C := C) (fun A d B e => H (c :: A) d B (by rw [e]; rfl))
  have hc : h (eat c) (hd C) = g c := H [] c C rfl
  have unf : ∀ e, rrun h none (e :: ((c :: C).map eat ++ [etop])) = if h e (eat c) then rrun h (some e) (eat c :: (C.map eat ++ [etop])) else rrun h none (eat c :: (C.map eat ++ [etop])) := fun e => rfl
  have unf2 : ∀ f e, rrun h (some f) (e :: ((c :: C).map eat ++ [etop])) = if h e (eat c) then rrun h (some f) (eat c :: (C.map eat ++ [etop])) else btw f e :: rrun h none (eat c :: (C.map eat ++ [etop])) := fun f e => rfl
  have e1 := i1 (eat c)
  rw [hc] at e1
  have stop : ∀ f, g c = false → rrun h (some f) (eat c :: (C.map eat ++ [etop])) = btw f (eat c) :: rrun h none (eat c :: (C.map eat ++ [etop])) := fun f hg => by
   rcases C with _ | ⟨d, C⟩
   ·show (if h (eat c) etop then _ else btw f (eat c) :: rrun h none [etop]) = btw f (eat c) :: (if h (eat c) etop then _ else rrun h none [etop])
    have : h (eat c) etop = false := by rw [← hg]; exact hc
    rw [this]
    rfl
   ·show (if h (eat c) (eat d) then _ else btw f (eat c) :: rrun h none (eat d :: (C.map eat ++ [etop]))) = btw f (eat c) :: (if h (eat c) (eat d) then _ else rrun h none (eat d :: (C.map eat ++ [etop])))
    have : h (eat c) (eat d) = false := by rw [← hg]; exact hc
    rw [this]
    rfl
  refine ⟨fun e => ?_, fun f e hf he => ?_⟩
  ·by_cases hh : h e (eat c) = true
   ·have : h e (hd (c :: C)) = true := hh
    rw [unf, if_pos hh, if_pos this, unf2, if_pos hh]
   ·have : ¬ h e (hd (c :: C)) = true := hh
    rw [unf, if_neg hh, if_neg this, e1]
    show _ = ofC none (emit c (g c) false (turns g (g c) C))
    unfold emit
    rcases hg : g c with _ | _
    ·rfl
    ·rw [if_pos rfl, if_neg (show ¬ (true = false) by decide), i2 _ _ (.inr ⟨c, rfl⟩) (by rw [hc, hg]), optE_at]
     rfl
  ·rw [unf2, if_pos (show h e (eat c) = true from he)]
   show _ = ofC (some (optE f)) (emit c (g c) true (turns g (g c) C))
   unfold emit
   rcases hg : g c with _ | _
   ·rw [if_neg (by decide), stop f hg, e1, hg, btw_at c f hf]
    rfl
   ·rw [if_pos rfl, i2 f _ hf (by rw [hc, hg])]
theorem zmd {n : Int} {l : List Itv} (hl : Ok n l) {C : List Cut} (aC : asc (poss n C)) (oC : uj n C) (hs : ∀ d ∈ zr l, pos n d ∈ poss n C) {A B : List Cut} {c : Cut} (e : C = A ++ c :: B) :
  jl n l (eat c) (hd B) = inS n l (pos n c) := by
 have hn := hl.sch
 have hcv : valid n c.1 = true := oC c (by rw [e]; simp)
 rw [zmo hn _ hl.bnd hl.ord]
 unfold jl
 have each : ∀ x ∈ l, (decide (ecmp n (eLow x) (eat c) ≤ 0) && decide (ecmp n (hd B) (km x) ≤ 0)) = inI n (pos n c) x := fun x hx => by
  have g1 := hl.bnd x hx
  have g5 : decide (ecmp n (eLow x) (eat c) ≤ 0) = (decide (x.lk = 0) || !decide (plt (pos n c) (pos n x.low))) := by
   by_cases hk : x.lk = 0
   ·rw [za9 hk, decide_eq_true hk, Bool.true_or]
    exact decide_eq_true (by unfold ecmp ebot eat; simp)
   ·rw [zag g1 hk, zdv, zau hn (xz g1 hk) hcv, decide_eq_false hk, Bool.false_or]
    have := zd3 (pos n x.low) (pos n c)
    unfold plt
    by_cases hp : cp (pos n c) (pos n x.low) < 0
    ·rw [decide_eq_true hp, decide_eq_false (by omega)]; rfl
    ·rw [decide_eq_false hp, decide_eq_true (by omega)]; rfl
  have g3 : decide (ecmp n (hd B) (km x) ≤ 0) = (decide (x.hk = 0) || decide (plt (pos n c) (pos n x.high))) := by
   by_cases hk : x.hk = 0
   ·rw [vz hk, decide_eq_true hk, Bool.true_or]
    refine decide_eq_true ?_
    rcases B with _ | ⟨d, B⟩
    ·show ecmp n etop etop ≤ 0
     unfold ecmp etop; simp
    ·show ecmp n (eat d) etop ≤ 0
     unfold ecmp etop eat; simp
   ·rw [yw g1 hk, decide_eq_false hk, Bool.false_or]
    have g2 : pos n x.high ∈ poss n C := hs _ (by
      obtain ⟨l1, l2, rfl⟩ := List.append_of_mem hx
      rw [zas, zr, if_neg hk]
      simp)
    have g0 : pos n x.high ∈ poss n A ∨ pos n x.high = pos n c ∨ pos n x.high ∈ poss n B := by
     rw [e] at g2
     unfold poss at g2 ⊢
     rw [List.map_append, List.mem_append, List.map_cons, List.mem_cons] at g2
     exact g2
    have hA : asc (poss n A ++ (pos n c :: poss n B)) := by rw [e] at aC; unfold poss at aC ⊢; rw [List.map_append] at aC; exact aC
    obtain ⟨_, h2, h3⟩ := List.pairwise_append.1 hA
    obtain ⟨h4, h5⟩ := List.pairwise_cons.1 h2
    rcases B with _ | ⟨d, B⟩
    ·show decide (ecmp n etop (eat x.high) ≤ 0) = _
     have : ¬ plt (pos n c) (pos n x.high) := by
      rcases g0 with h | h | h
      ·exact uo (h3 _ h _ (by simp))
      ·rw [h]; exact qg _
      ·simp [poss] at h
     rw [decide_eq_false this]
     exact decide_eq_false (by unfold ecmp etop eat; simp)
    ·show decide (ecmp n (eat d) (eat x.high) ≤ 0) = _
     have g6 : valid n d.1 = true := oC d (by rw [e]; simp)
     rw [zdv, zau hn g6 (jn g1 hk)]
     refine decide_eq_decide.2 ⟨fun h => ?_, fun h => ?_⟩
     ·have g4 := h4 (pos n d) (by simp [poss])
      by_cases e0 : cp (pos n d) (pos n x.high) = 0
      ·rw [← cp_eq e0]; exact g4
      ·exact qe g4 (show cp _ _ < 0 by omega)
     ·rcases g0 with g | g | g
      ·exact absurd (h3 _ g _ (List.mem_cons_self ..)) (uo h)
      ·rw [g] at h; exact absurd h (qg _)
      ·rcases List.mem_cons.1 (show pos n x.high ∈ pos n d :: poss n B from g) with g | g
       ·rw [g, zfp]; exact Int.le_refl 0
       ·have := (List.pairwise_cons.1 h5).1 _ g
        unfold plt at this
        omega
  rw [g5, g3]
  rfl
 rw [Bool.eq_iff_iff, List.any_eq_true, List.any_eq_true]
 constructor
 ·rintro ⟨x, hx, h⟩; exact ⟨x, hx, by rw [← each x hx]; exact h⟩
 ·rintro ⟨x, hx, h⟩; exact ⟨x, hx, by rw [each x hx]; exact h⟩
theorem zi2 {n : Int} {l : List Itv} (hl : Ok n l) {C : List Cut} (aC : asc (poss n C)) (oC : uj n C) (hs : ∀ d ∈ zr l, pos n d ∈ poss n C) : jl n l ebot (hd C) = qa l := by
 have hn := hl.sch
 unfold jl qa
 have each : ∀ x ∈ l, (decide (ecmp n (eLow x) ebot ≤ 0) && decide (ecmp n (hd C) (km x) ≤ 0)) = decide (x.lk = 0) := fun x hx => by
  have g0 := hl.bnd x hx
  by_cases hk : x.lk = 0
  ·rw [za9 hk, decide_eq_true hk, decide_eq_true (show ecmp n ebot ebot ≤ 0 by unfold ecmp ebot; simp), Bool.true_and]
   refine decide_eq_true ?_
   by_cases hh : x.hk = 0
   ·rw [vz hh]
    rcases C with _ | ⟨d, B⟩
    ·show ecmp n etop etop ≤ 0
     unfold ecmp etop; simp
    ·show ecmp n (eat d) etop ≤ 0
     unfold ecmp etop eat; simp
   ·rw [yw g0 hh]
    have g1 : pos n x.high ∈ poss n C := hs _ (by
      obtain ⟨l1, l2, rfl⟩ := List.append_of_mem hx
      rw [zas, zr, if_neg hh]
      simp)
    rcases C with _ | ⟨d, B⟩
    ·simp [poss] at g1
    ·show ecmp n (eat d) (eat x.high) ≤ 0
     have g2 : valid n d.1 = true := oC d (by simp)
     rw [zdv, zau hn g2 (jn g0 hh)]
     obtain ⟨a1, a2⟩ := List.pairwise_cons.1 (show asc (pos n d :: poss n B) from aC)
     rcases List.mem_cons.1 (show pos n x.high ∈ pos n d :: poss n B from g1) with g | g
     ·rw [g, zfp]; exact Int.le_refl 0
     ·have := a1 _ g
      unfold plt at this
      omega
  ·rw [zag g0 hk, decide_eq_false hk, decide_eq_false (show ¬ ecmp n (eat x.low) ebot ≤ 0 by unfold ecmp ebot eat; simp)]
   rfl
 rw [Bool.eq_iff_iff, List.any_eq_true, List.any_eq_true]
 constructor
 ·rintro ⟨x, hx, h⟩; exact ⟨x, hx, by rw [← each x hx]; exact h⟩
 ·rintro ⟨x, hx, h⟩; exact ⟨x, hx, by rw [each x hx]; exact h⟩
theorem opR_opL {n : Int} (f : Bool → Bool → Bool) {a b : List Itv} (ha : Ok n a) (hb : Ok n b) : opR n f a b = opL n f a b := by
 have hn := ha.sch
 have g2 : ∀ x ∈ a ++ b, zt n x = true := fun x hx => (List.mem_append.1 hx).elim (ha.bnd x) (hb.bnd x)
 have g0 : rcuts n a b = ends ((zr (a ++ b)).foldl (fun C c => cins n c C) []) := zjp [] g2
 have hS : Sorted n ([] ++ zr (a ++ b)) ((zr (a ++ b)).foldl (fun C c => cins n c C) []) :=
  Sorted.fold hn ⟨List.Pairwise.nil, (fun c hc => by cases hc), (fun d hd => by cases hd), (fun c hc => by cases hc)⟩ (znp g2)
 rw [List.nil_append, zas] at hS
 rw [zas] at g0
 obtain ⟨C, hC⟩ : ∃ C, C = (zr a ++ zr b).foldl (fun C c => cins n c C) [] := ⟨_, rfl⟩
 rw [← hC] at hS g0
 have sa : ∀ d ∈ zr a, pos n d ∈ poss n C := fun d hd => hS.all d (by simp [hd])
 have sb : ∀ d ∈ zr b, pos n d ∈ poss n C := fun d hd => hS.all d (by simp [hd])
 have sa' : ∀ p ∈ poss n (zr a), p ∈ poss n C := fun p hp => by obtain ⟨d, hd, rfl⟩ := List.mem_map.1 hp; exact sa d hd
 have sb' : ∀ p ∈ poss n (zr b), p ∈ poss n C := fun p hp => by obtain ⟨d, hd, rfl⟩ := List.mem_map.1 hp; exact sb d hd
 obtain ⟨r1, r2⟩ := zih (h := fun x y => f (jl n a x y) (jl n b x y)) (g := fun c => f (inS n a (pos n c)) (inS n b (pos n c))) (C := C) (fun A c B e => by
   show f _ _ = f _ _
   rw [zmd ha hS.asc hS.ok sa e, zmd hb hS.asc hS.ok sb e])
 have g1 : f (jl n a ebot (hd C)) (jl n b ebot (hd C)) = f (qa a) (qa b) := by
  rw [zi2 ha hS.asc hS.ok sa, zi2 hb hS.asc hS.ok sb]
 have g4 : opR n f a b = ofC (start (f (qa a) (qa b))) (turns (fun c => f (inS n a (pos n c)) (inS n b (pos n c))) (f (qa a) (qa b)) C) := by
  unfold opR
  rw [g0]
  unfold ends
  rw [r1 ebot, g1]
  rcases hf : f (qa a) (qa b) with _ | _
  ·rfl
  ·rw [if_pos rfl, r2 ebot ebot (.inl rfl) (by show f _ _ = true; rw [g1, hf])]
   rfl
 rw [g4]
 unfold opL
 congr 1
 have g3 := zay f ha hb
 refine zgu (L := zr a ++ zr b) (zsu (x := f (qa a) (qa b)) (zl3 hS.asc) g3.asc (fun q => ?_)) (fun c hc => hS.least c (zge hc)) (ut hn f _ _ _ _ _ _ (Nat.le_refl _) ha.cuts hb.cuts ha.asc hb.asc)
 rw [zk2 hS.asc, g3.val, zoq]
 congr 1
 ·exact zc3 _ hS.asc ha.asc sa' q
 ·exact zc3 _ hS.asc hb.asc sb' q
end Go.Proofs.YtbikeahmldobkaaGreatDoor.V
namespace Go.Proofs.YtbikeahmldobkaaGreatDoor.V
def hasL (n : Int) (l : List Itv) (v : Bs) : Bool := l.any fun x => (decide (x.lk = 0) || decide (cutC n x.low (v, false) ≤ 0)) && (decide (x.hk = 0) || decide (0 ≤ cutC n x.high (v, true)))
def jy (n : Int) (l : List Itv) (v : Bs) : Bool := okR n l && (valid n v && hasL n l v)
def orF (x y : Bool) : Bool := x || y
def andF (x y : Bool) : Bool := x && y
theorem cuts_op {n : Int} (f : Bool → Bool → Bool) {a b : List Itv} (ha : Ok n a) (hb : Ok n b) : (zr (opL n f a b)).length ≤ (zr a).length + (zr b).length := by
 unfold opL
 rw [zsg]
 exact (zay f ha hb).len
theorem len_op {n : Int} (f : Bool → Bool → Bool) {a b : List Itv} (ha : Ok n a) (hb : Ok n b) : (opL n f a b).length ≤ (zr a).length + (zr b).length + 1 := by
 have h1 := (zay f ha hb).len
 have h4 := zhw (start (f (qa a) (qa b))) (comb n f (qa a) (qa b) (f (qa a) (qa b)) (zr a) (zr b))
 unfold opL
 omega
theorem zsd {n : Int} (h : scheme n = true) : Ok n [] := ⟨h, by simp, (fun x hx => by cases hx), trivial⟩
theorem ok_all {n : Int} (h : scheme n = true) : Ok n [noI] := ⟨h, by simp, (fun x hx => by rw [List.mem_singleton.1 hx]; rfl), rfl, (fun z hz => by cases hz), trivial⟩
structure Few (n : Int) (a : List Itv) (k : Nat) : Prop where
 ok : Ok n a
 few : (zr a).length ≤ k
theorem Few.op {n : Int} {a b : List Itv} {j k : Nat} (ha : Few n a j) (hb : Few n b k) (f : Bool → Bool → Bool) (h : j + k ≤ 31) : Few n (opL n f a b) (j + k) := by
 have h1 := ha.few
 have h2 := hb.few
 have h3 := cuts_op f ha.ok hb.ok
 have h4 := len_op f ha.ok hb.ok
 exact ⟨zmm f ha.ok hb.ok (by omega), by omega⟩
theorem Few.len {n : Int} {a : List Itv} {j : Nat} (ha : Few n a j) : a.length ≤ 32 := ha.ok.len
end Go.Proofs.YtbikeahmldobkaaGreatDoor.V
