/-
  Lemmas for the law.
-/
import Derived.Test.YtnhfaincdabdkaaGreatDoorC37x05
import Derived.Test.YtnhfaincdabdkaaGreatDoorC37x04
set_option linter.all false
namespace Go.Proofs.YtnhfaincdabdkaaGreatDoor.V
def Least (n : Int) (L : List Cut) (c : Cut) : Prop := c ∈ L ∧ ∀ d ∈ L, pos n d = pos n c → ¬ cb d.1 c.1 < 0
theorem cb_lt_eq {a b : Bs} (h1 : ¬ cb a b < 0) (h2 : ¬ cb b a < 0) : a = b := by
 have := kj a b
 exact zn4 (by omega)
theorem cb_nlt {a b c : Bs} (h1 : ¬ cb a b < 0) (h2 : ¬ cb b c < 0) : ¬ cb a c < 0 := by
 have e1 := kj a b
 have e2 := kj b c
 have e3 := kj a c
 have := zai c b a (by omega) (by omega)
 omega
theorem zsc {n : Int} {L : List Cut} {c d : Cut} (hc : Least n L c) (hd : Least n L d) (h : pos n c = pos n d) : c = d := by
 have h1 := hc.2 d hd.1 h.symm
 have h2 := hd.2 c hc.1 h
 have h3 := cb_lt_eq h2 h1
 have h4 : c.2 = d.2 := by have := congrArg Prod.snd h; exact this
 exact Prod.ext h3 h4
theorem zft {n : Int} {L : List Cut} : ∀ {R S : List Cut}, poss n R = poss n S → (∀ c ∈ R, Least n L c) → (∀ c ∈ S, Least n L c) → R = S
 | [], [], _, _, _ => rfl
 | [], _ :: _, h, _, _ => by simp [poss] at h
 | _ :: _, [], h, _, _ => by simp [poss] at h
 | c :: R, d :: S, h, hr, hs => by
  have h1 : pos n c = pos n d ∧ poss n R = poss n S := by simpa [poss] using h
  rw [zsc (hr c (by simp)) (hs d (by simp)) h1.1, zft h1.2 (fun e he => hr e (by simp [he])) (fun e he => hs e (by simp [he]))]
theorem zag {n : Int} {P : Pos} {H L' : List Cut} {h : Cut} {R : List Cut} {nx now : Bool} (hH : ∀ d ∈ H, pos n d = P) (hL : ∀ p ∈ poss n L', plt P p) (hm : h ∈ H) (hmin : ∀ d ∈ H, ¬ cb d.1 h.1 < 0)
  (hR : ∀ e ∈ R, Least n L' e) {L : List Cut} (h1 : ∀ d ∈ L, d ∈ H ∨ d ∈ L') (h2 : ∀ d ∈ H, d ∈ L) (h3 : ∀ d ∈ L', d ∈ L) : ∀ e ∈ emit h nx now R, Least n L e := by
 intro e he
 rcases xh he with rfl | he
 ·refine ⟨h2 _ hm, fun d hd hp => ?_⟩
  rcases h1 d hd with g | g
  ·exact hmin d g
  ·have := hL _ (List.mem_map.2 ⟨d, g, rfl⟩)
   rw [hp, hH _ hm] at this
   exact absurd this (qi _)
 ·obtain ⟨g1, g2⟩ := hR e he
  refine ⟨h3 _ g1, fun d hd hp => ?_⟩
  rcases h1 d hd with g | g
  ·have := hL _ (List.mem_map.2 ⟨e, g1, rfl⟩)
   rw [← hp, hH _ g] at this
   exact absurd this (qi _)
  ·exact g2 d g hp
theorem zqo (a b : Bs) : ¬ cb a (lesser a b) < 0 ∧ ¬ cb b (lesser a b) < 0 := by
 have h1 := ye a
 have h2 := ye b
 have h3 := kj a b
 unfold lesser
 by_cases h : Lib.compareBytes b a < 0
 ·rw [if_pos h]
  have : cb b a < 0 := h
  omega
 ·rw [if_neg h]
  have : ¬ cb b a < 0 := h
  omega
theorem um {n : Int} (hn : scheme n = true) (f : Bool → Bool → Bool) : ∀ (k : Nat) (l m : List Cut) (x y now : Bool), l.length + m.length ≤ k → vv n l → vv n m → asc (poss n l) → asc (poss n m) →
  ∀ c ∈ comb n f x y now l m, Least n (l ++ m) c
 | _, [], [], x, y, now, _, _, _, _, _ => by
  rw [comb]
  intro c hc
  cases hc
 | 0, _ :: _, _, _, _, _, h, _, _, _, _ => by simp at h
 | 0, [], _ :: _, _, _, _, h, _, _, _, _ => by simp at h
 | k + 1, c :: l, [], x, y, now, h, hl, hm, al, am => by
  obtain ⟨a1, a2⟩ := List.pairwise_cons.1 (show asc (pos n c :: poss n l) from al)
  have ih := um hn f k l [] (!x) y (f (!x) y) (by simp at h ⊢; omega) (fun d hd => hl d (by simp [hd])) hm a2 am
  rw [zqe]
  refine zag (P := pos n c) (H := [c]) (L' := l ++ []) (fun d hd => by rw [List.mem_singleton.1 hd]) (fun p hp => a1 p (by simpa using hp)) (by simp) (fun d hd => by rw [List.mem_singleton.1 hd]; have := ye c.1; omega) ih ?_ ?_ ?_
  ·intro d hd; simp at hd ⊢; exact hd
  ·intro d hd; simp at hd ⊢; exact .inl hd
  ·intro d hd; simp at hd ⊢; exact .inr hd
 | k + 1, [], d :: m, x, y, now, h, hl, hm, al, am => by
  obtain ⟨a1, a2⟩ := List.pairwise_cons.1 (show asc (pos n d :: poss n m) from am)
  have ih := um hn f k [] m x (!y) (f x (!y)) (by simp at h ⊢; omega) hl (fun d hd => hm d (by simp [hd])) al a2
  rw [zp9]
  refine zag (P := pos n d) (H := [d]) (L' := [] ++ m) (fun e he => by rw [List.mem_singleton.1 he]) (fun p hp => a1 p (by simpa using hp)) (by simp) (fun e he => by rw [List.mem_singleton.1 he]; have := ye d.1; omega) ih ?_ ?_ ?_
  ·intro e he; simp at he ⊢; exact he
  ·intro e he; simp at he ⊢; exact .inl he
  ·intro e he; simp at he ⊢; exact .inr he
 | k + 1, c :: l, d :: m, x, y, now, h, hl, hm, al, am => by
  obtain ⟨a1, a2⟩ := List.pairwise_cons.1 (show asc (pos n c :: poss n l) from al)
  obtain ⟨b1, b2⟩ := List.pairwise_cons.1 (show asc (pos n d :: poss n m) from am)
  have hc := hl c (by simp)
  have hd := hm d (by simp)
  have hl' : vv n l := fun e he => hl e (by simp [he])
  have hm' : vv n m := fun e he => hm e (by simp [he])
  have hcp := zeh hn hc hd
  have pa : ∀ {L M : List Cut} {p : Pos}, p ∈ poss n (L ++ M) → p ∈ poss n L ∨ p ∈ poss n M := fun hp => by
   unfold poss at hp ⊢
   rw [List.map_append, List.mem_append] at hp
   exact hp
  rcases zlm (pos n c) (pos n d) with g | g | g
  ·have hlt : cutC n c d < 0 := by rw [hcp]; exact g
   have ih := um hn f k l (d :: m) (!x) y (f (!x) y) (by simp at h ⊢; omega) hl' hm a2 am
   rw [zl9 hlt]
   refine zag (P := pos n c) (H := [c]) (L' := l ++ (d :: m)) (fun e he => by rw [List.mem_singleton.1 he]) (fun p hp => ?_) (by simp) (fun e he => by rw [List.mem_singleton.1 he]; have := ye c.1; omega) ih ?_ ?_ ?_
   ·rcases pa hp with hp | hp
    ·exact a1 p hp
    ·rcases List.mem_cons.1 (show p ∈ pos n d :: poss n m from hp) with rfl | e
     ·exact g
     ·exact zz g (b1 p e)
   ·intro e he; simp at he ⊢; exact he
   ·intro e he; simp at he ⊢; exact .inl he
   ·intro e he; simp at he ⊢; exact .inr he
  ·have heq : cutC n c d = 0 := by rw [hcp, g]; exact zl4 _
   have ih := um hn f k l m (!x) (!y) (f (!x) (!y)) (by simp at h ⊢; omega) hl' hm' a2 b2
   rw [zml heq]
   have h2 : c.2 = d.2 := by have := congrArg Prod.snd g; exact this
   have hlm := zqo c.1 d.1
   refine zag (P := pos n c) (H := [c, d]) (L' := l ++ m) (fun e he => ?_) (fun p hp => ?_) ?_ (fun e he => ?_) ih ?_ ?_ ?_
   ·simp at he
    rcases he with rfl | rfl
    ·rfl
    ·exact g.symm
   ·rcases pa hp with hp | hp
    ·exact a1 p hp
    ·rw [g]; exact b1 p hp
   ·rcases zfh c.1 d.1 with e | e
    ·rw [e]; simp
    ·rw [e, h2]; simp
   ·simp at he
    rcases he with rfl | rfl
    ·exact hlm.1
    ·exact hlm.2
   ·intro e he
    simp at he ⊢
    rcases he with e | e | e | e
    ·exact .inl (.inl e)
    ·exact .inr (.inl e)
    ·exact .inl (.inr e)
    ·exact .inr (.inr e)
   ·intro e he
    simp at he ⊢
    rcases he with e | e
    ·exact .inl e
    ·exact .inr (.inr (.inl e))
   ·intro e he
    simp at he ⊢
    rcases he with e | e
    ·exact .inr (.inl e)
    ·exact .inr (.inr (.inr e))
  ·have hlt : 0 < cutC n c d := by
    have g' : cp (pos n d) (pos n c) < 0 := g
    rw [hcp]; have := zeg (pos n d) (pos n c); omega
   have ih := um hn f k (c :: l) m x (!y) (f x (!y)) (by simp at h ⊢; omega) hl hm' al b2
   rw [zmr hlt]
   refine zag (P := pos n d) (H := [d]) (L' := (c :: l) ++ m) (fun e he => by rw [List.mem_singleton.1 he]) (fun p hp => ?_) (by simp) (fun e he => by rw [List.mem_singleton.1 he]; have := ye d.1; omega) ih ?_ ?_ ?_
   ·rcases pa hp with hp | hp
    ·rcases List.mem_cons.1 (show p ∈ pos n c :: poss n l from hp) with rfl | e
     ·exact g
     ·exact zz g (a1 p e)
    ·exact b1 p hp
   ·intro e he
    simp at he ⊢
    rcases he with e | e | e | e
    ·exact .inr (.inl e)
    ·exact .inr (.inr (.inl e))
    ·exact .inl e
    ·exact .inr (.inr (.inr e))
   ·intro e he
    simp at he ⊢
    exact .inr (.inr (.inl he))
   ·intro e he
    simp at he ⊢
    rcases he with e | e | e
    ·exact .inl e
    ·exact .inr (.inl e)
    ·exact .inr (.inr (.inr e))
def opL (n : Int) (f : Bool → Bool → Bool) (a b : List Itv) : List Itv :=
 ofC (start (f (zo a) (zo b))) (comb n f (zo a) (zo b) (f (zo a) (zo b)) (zm a) (zm b))
theorem zcb {n : Int} (f : Bool → Bool → Bool) {a b : List Itv} (ha : Ok n a) (hb : Ok n b) : CombOk n f (zo a) (zo b) (zm a) (zm b) (comb n f (zo a) (zo b) (f (zo a) (zo b)) (zm a) (zm b)) :=
 zcp ha.sch f _ _ _ _ _ (Nat.le_refl _) ha.cuts hb.cuts ha.asc hb.asc
theorem zpa {n : Int} (f : Bool → Bool → Bool) {a b : List Itv} (ha : Ok n a) (hb : Ok n b) (h : (opL n f a b).length ≤ 32) : Ok n (opL n f a b) :=
 zbx (okR_of ha.sch (zcb f ha hb).ok (zcb f ha hb).asc h)
theorem opL_len {n : Int} (f : Bool → Bool → Bool) {a b : List Itv} (ha : Ok n a) (hb : Ok n b) : (opL n f a b).length ≤ 129 := by
 have h1 := (zcb f ha hb).len
 have h2 := uw a
 have h3 := uw b
 have h4 := zlq (start (f (zo a) (zo b))) (comb n f (zo a) (zo b) (f (zo a) (zo b)) (zm a) (zm b))
 have h5 := ha.len
 have h6 := hb.len
 unfold opL
 omega
structure Ec where
 e : Int
 v : Bs
 s : Int
def ebot : Ec := ⟨-1, [], 0⟩
def etop : Ec := ⟨1, [], 0⟩
def eat (c : Cut) : Ec := ⟨0, c.1, if c.2 then 1 else 0⟩
def ecmp (n : Int) (a b : Ec) : Int := if a.e ≠ b.e ∨ a.e ≠ 0 then a.e - b.e else if cmpV n a.v b.v ≠ 0 then cmpV n a.v b.v else a.s - b.s
def eLow (x : Itv) : Ec := if x.lk = 1 then ⟨0, x.lo, 0⟩ else if x.lk = 2 then ⟨0, x.lo, 1⟩ else ebot
def vu (x : Itv) : Ec := if x.hk = 1 then ⟨0, x.hi, 1⟩ else if x.hk = 2 then ⟨0, x.hi, 0⟩ else etop
theorem zqx (n : Int) (c d : Cut) : ecmp n (eat c) (eat d) = cutC n c d := by
 obtain ⟨a, s⟩ := c
 obtain ⟨b, t⟩ := d
 unfold ecmp eat cutC
 simp only [ne_eq, not_true, or_self, if_false]
 by_cases h : cmpV n a b = 0
 ·rw [if_neg (by simp [h])]
  cases s <;> cases t <;> simp [h]
 ·rw [if_pos h, if_pos (.inl h)]
theorem zgt {x : Itv} (h : x.lk = 0) : eLow x = ebot := by unfold eLow; rw [if_neg (by omega), if_neg (by omega)]
theorem zem {x : Itv} (h : x.hk = 0) : vu x = etop := by unfold vu; rw [if_neg (by omega), if_neg (by omega)]
theorem zez {n : Int} {x : Itv} (h : zl n x = true) (hk : x.lk ≠ 0) : eLow x = eat x.low := by
 unfold zl at h
 rw [Bool.and_eq_true] at h
 unfold eLow eat Itv.low
 rcases (ki h.1 hk).1 with e | e <;> simp [e]
theorem zby {n : Int} {x : Itv} (h : zl n x = true) (hk : x.hk ≠ 0) : vu x = eat x.high := by
 unfold zl at h
 rw [Bool.and_eq_true] at h
 unfold vu eat Itv.high
 rcases (ki h.2 hk).1 with e | e <;> simp [e]
def btw (a b : Ec) : Itv := ⟨if a.e = 0 then a.v else [], if a.e = 0 then 1 + a.s else 0, if b.e = 0 then b.v else [], if b.e = 0 then 2 - b.s else 0⟩
def rrun (h : Ec → Ec → Bool) : Option Ec → List Ec → List Itv
 | _, [] => []
 | none, [_] => []
 | some f, [e] => [btw f e]
 | none, e :: e' :: l => if h e e' then rrun h (some e) (e' :: l) else rrun h none (e' :: l)
 | some f, e :: e' :: l => if h e e' then rrun h (some f) (e' :: l) else btw f e :: rrun h none (e' :: l)
def cins (n : Int) (c : Cut) : List Cut → List Cut
 | [] => [c]
 | d :: l => if cutC n d c < 0 then d :: cins n c l else if cutC n d c = 0 then (if cb d.1 c.1 < 0 then d else c) :: l else c :: d :: l
theorem zhn : ∀ a b : List Itv, zm (a ++ b) = zm a ++ zm b
 | [], b => rfl
 | x :: a, b => by rw [List.cons_append, zm, zm, zhn a b, List.append_assoc, List.append_assoc]
structure Sorted (n : Int) (L C : List Cut) : Prop where
 asc : asc (poss n C)
 least : ∀ c ∈ C, Least n L c
 all : ∀ d ∈ L, pos n d ∈ poss n C
 ok : vv n C
theorem zrk {n : Int} (hn : scheme n = true) {c : Cut} (hc : valid n c.1 = true) : ∀ {C : List Cut}, vv n C → asc (poss n C) →
  asc (poss n (cins n c C)) ∧ (∀ e ∈ cins n c C, (e ∈ C ∧ (pos n e = pos n c → cb e.1 c.1 < 0)) ∨ (e = c ∧ ∀ y ∈ C, pos n y = pos n c → ¬ cb y.1 c.1 < 0)) ∧ (∀ y ∈ C, pos n y ∈ poss n (cins n c C)) ∧ pos n c ∈ poss n (cins n c C)
 | [], _, _ => by
  refine ⟨List.pairwise_singleton _ _, (fun e he => .inr ⟨by simpa [cins] using he, (fun y hy => by cases hy)⟩), (fun y hy => by cases hy), by simp [cins, poss]⟩
 | d :: C, hC, aC => by
  obtain ⟨a1, a2⟩ := List.pairwise_cons.1 (show V.asc (pos n d :: poss n C) from aC)
  have hd := hC d (by simp)
  have hcp := zeh hn hd hc
  obtain ⟨i1, i2, i3, i4⟩ := zrk hn hc (C := C) (fun e he => hC e (by simp [he])) a2
  unfold cins
  by_cases h : cutC n d c < 0
  ·rw [if_pos h]
   have hlt : plt (pos n d) (pos n c) := by unfold plt; rw [← hcp]; exact h
   refine ⟨List.pairwise_cons.2 ⟨fun p hp => ?_, i1⟩, fun e he => ?_, fun y hy => ?_, List.mem_cons_of_mem _ i4⟩
   ·obtain ⟨e, he, rfl⟩ := List.mem_map.1 hp
    rcases i2 e he with ⟨g, _⟩ | ⟨rfl, _⟩
    ·exact a1 _ (List.mem_map.2 ⟨e, g, rfl⟩)
    ·exact hlt
   ·rcases List.mem_cons.1 he with rfl | he
    ·exact .inl ⟨by simp, fun e0 => by rw [e0] at hlt; exact absurd hlt (qi _)⟩
    ·rcases i2 e he with ⟨g, g2⟩ | ⟨rfl, g⟩
     ·exact .inl ⟨by simp [g], g2⟩
     ·refine .inr ⟨rfl, fun y hy hp => ?_⟩
      rcases List.mem_cons.1 hy with rfl | hy
      ·rw [hp] at hlt; exact absurd hlt (qi _)
      ·exact g y hy hp
   ·rcases List.mem_cons.1 hy with rfl | hy
    ·simp [poss]
    ·exact List.mem_cons_of_mem _ (i3 y hy)
  ·rw [if_neg h]
   by_cases h0 : cutC n d c = 0
   ·rw [if_pos h0]
    have he0 : pos n d = pos n c := cp_eq (by rw [← hcp]; exact h0)
    have hrest : ∀ y ∈ C, pos n y ≠ pos n c := fun y hy e => by
     have := a1 _ (List.mem_map.2 ⟨y, hy, rfl⟩)
     rw [e, ← he0] at this
     exact qi _ this
    by_cases h1 : cb d.1 c.1 < 0
    ·rw [if_pos h1]
     refine ⟨aC, fun e he => .inl ⟨he, fun e0 => ?_⟩, fun y hy => List.mem_map.2 ⟨y, hy, rfl⟩, by rw [← he0]; simp [poss]⟩
     rcases List.mem_cons.1 he with rfl | he
     ·exact h1
     ·exact absurd e0 (hrest e he)
    ·rw [if_neg h1]
     refine ⟨List.pairwise_cons.2 ⟨fun p hp => by rw [← he0]; exact a1 p hp, a2⟩, fun e he => ?_, fun y hy => ?_, by simp [poss]⟩
     ·rcases List.mem_cons.1 he with rfl | he
      ·refine .inr ⟨rfl, fun y hy hp => ?_⟩
       rcases List.mem_cons.1 hy with rfl | hy
       ·exact h1
       ·exact absurd hp (hrest y hy)
      ·exact .inl ⟨by simp [he], fun e0 => absurd e0 (hrest e he)⟩
     ·rcases List.mem_cons.1 hy with rfl | hy
      ·rw [he0]; simp [poss]
      ·exact List.mem_cons_of_mem _ (List.mem_map.2 ⟨y, hy, rfl⟩)
   ·rw [if_neg h0]
    have hgt : plt (pos n c) (pos n d) := by
     have := zeg (pos n d) (pos n c)
     unfold plt
     omega
    have hno : ∀ y ∈ d :: C, pos n y ≠ pos n c := fun y hy e => by
     rcases List.mem_cons.1 hy with rfl | hy
     ·rw [e] at hgt; exact qi _ hgt
     ·have := zz hgt (a1 _ (List.mem_map.2 ⟨y, hy, rfl⟩))
      rw [e] at this
      exact qi _ this
    refine ⟨List.pairwise_cons.2 ⟨fun p hp => ?_, aC⟩, fun e he => ?_, fun y hy => List.mem_cons_of_mem _ (List.mem_map.2 ⟨y, hy, rfl⟩), by simp [poss]⟩
    ·rcases List.mem_cons.1 (show p ∈ pos n d :: poss n C from hp) with rfl | hp
     ·exact hgt
     ·exact zz hgt (a1 p hp)
    ·rcases List.mem_cons.1 he with rfl | he
     ·exact .inr ⟨rfl, fun y hy hp => absurd hp (hno y hy)⟩
     ·exact .inl ⟨he, fun e0 => absurd e0 (hno e he)⟩
theorem Sorted.add {n : Int} (hn : scheme n = true) {L C : List Cut} (h : Sorted n L C) {c : Cut} (hc : valid n c.1 = true) : Sorted n (L ++ [c]) (cins n c C) := by
 obtain ⟨i1, i2, i3, i4⟩ := zrk hn hc h.ok h.asc
 refine ⟨i1, fun e he => ?_, fun d hd => ?_, fun e he => ?_⟩
 ·rcases i2 e he with ⟨g, g2⟩ | ⟨rfl, g⟩
  ·obtain ⟨l1, l2⟩ := h.least e g
   refine ⟨by simp [l1], fun d hd hp => ?_⟩
   rcases List.mem_append.1 hd with hd | hd
   ·exact l2 d hd hp
   ·rw [List.mem_singleton.1 hd] at hp ⊢
    have := g2 hp.symm
    have e1 := kj e.1 c.1
    omega
  ·refine ⟨by simp, fun d hd hp => ?_⟩
   rcases List.mem_append.1 hd with hd | hd
   ·obtain ⟨y, hy, ey⟩ := List.mem_map.1 (h.all d hd)
    have hyc := g y hy (ey.trans hp)
    exact cb_nlt ((h.least y hy).2 d hd ey.symm) hyc
   ·rw [List.mem_singleton.1 hd]
    have := ye e.1
    omega
 ·rcases List.mem_append.1 hd with hd | hd
  ·obtain ⟨y, hy, ey⟩ := List.mem_map.1 (h.all d hd)
   rw [← ey]
   exact i3 y hy
  ·rw [List.mem_singleton.1 hd]
   exact i4
 ·rcases i2 e he with ⟨g, _⟩ | ⟨rfl, _⟩
  ·exact h.ok e g
  ·exact hc
def hd (C : List Cut) : Ec := match C with | [] => etop | d :: _ => eat d
end Go.Proofs.YtnhfaincdabdkaaGreatDoor.V
namespace Go.Proofs.YtnhfaincdabdkaaGreatDoor.V
def hasL (n : Int) (l : List Itv) (v : Bs) : Bool := l.any fun x => (decide (x.lk = 0) || decide (cutC n x.low (v, false) ≤ 0)) && (decide (x.hk = 0) || decide (0 ≤ cutC n x.high (v, true)))
def jy (n : Int) (l : List Itv) (v : Bs) : Bool := okR n l && (valid n v && hasL n l v)
def orF (x y : Bool) : Bool := x || y
def andF (x y : Bool) : Bool := x && y
theorem zdv {n : Int} (h : scheme n = true) : Ok n [] := ⟨h, by simp, (fun x hx => by cases hx), trivial⟩
theorem ok_all {n : Int} (h : scheme n = true) : Ok n [noI] := ⟨h, by simp, (fun x hx => by rw [List.mem_singleton.1 hx]; rfl), rfl, (fun z hz => by cases hz), trivial⟩
structure Few (n : Int) (a : List Itv) (k : Nat) : Prop where
 ok : Ok n a
 few : (zm a).length ≤ k
theorem Few.nil {n : Int} (h : scheme n = true) : Few n [] 0 := ⟨zdv h, by simp [zm]⟩
theorem Few.len {n : Int} {a : List Itv} {j : Nat} (ha : Few n a j) : a.length ≤ 32 := ha.ok.len
end Go.Proofs.YtnhfaincdabdkaaGreatDoor.V
namespace Go.Proofs.YtnhfaincdabdkaaGreatDoor.V
def verB (c : UInt8) : Bool := kind [46, 43, 126, 45, 58] c
theorem vk {P : UInt8 → Prop} (c : UInt8) (hc : P c) : ∀ l : Bs, (∀ x ∈ ze c l, ∀ b ∈ x, P b) → ∀ b ∈ l, P b
 | [], _, b, hb => by simp at hb
 | a :: l, h, b, hb => by
  unfold ze at h
  by_cases e : a = c
  ·subst e
   simp only [beq_self_eq_true, if_true] at h
   rcases List.mem_cons.1 hb with rfl | hb
   ·exact hc
   ·exact vk a hc l (fun x hx => h x (by simp [hx])) b hb
  ·rw [if_neg (by simpa using e)] at h
   rcases hs : ze c l with _ | ⟨y, r⟩
   ·exact absurd hs (zbo c l)
   ·rw [hs] at h
    simp only at h
    rcases List.mem_cons.1 hb with rfl | hb
    ·exact h (b :: y) (by simp) b (by simp)
    ·exact vk c hc l (fun x hx z hz => by
       rw [hs] at hx
       rcases List.mem_cons.1 hx with rfl | hx
       · exact h (a :: x) (by simp) z (by simp [hz])
       · exact h x (by simp [hx]) z hz) b hb
theorem zow (c : UInt8) : ∀ l : Bs, c ∈ l → l = l.takeWhile (· != c) ++ c :: l.drop ((l.takeWhile (· != c)).length + 1)
 | [], h => by simp at h
 | b :: l, h => by
  by_cases e : b = c
  ·subst e; simp
  ·have hb : (b != c) = true := by simpa using e
   have ih := zow c l (by
     rcases List.mem_cons.1 h with h | h
     · exact absurd h.symm e
     · exact h)
   rw [List.takeWhile_cons, if_pos hb, List.length_cons, List.drop_succ_cons, List.cons_append, ← ih]
theorem zko (c : UInt8) (l : Bs) (h : (cut1 c l).2.2 = true) : l = (cut1 c l).1 ++ c :: (cut1 c l).2.1 := by
 unfold cut1 at *
 by_cases hc : c ∈ l
 ·rw [if_pos hc]; exact zow c l hc
 ·rw [if_neg hc] at h; cases h
theorem cut_none (c : UInt8) (l : Bs) (h : (cut1 c l).2.2 = false) : (cut1 c l).1 = l := by
 unfold cut1 at *
 split
 ·rename_i hc; rw [if_pos hc] at h; cases h
 ·rfl
theorem zfb {P : UInt8 → Prop} (c : UInt8) (hc : P c) (l : Bs) (h1 : ∀ b ∈ (cut1 c l).1, P b) (h2 : (cut1 c l).2.2 = true → ∀ b ∈ (cut1 c l).2.1, P b) : ∀ b ∈ l, P b := by
 intro b hb
 rcases h : (cut1 c l).2.2 with _ | _
 ·rw [cut_none c l h] at h1; exact h1 b hb
 ·rw [zko c l h] at hb
  rcases List.mem_append.1 hb with g | g
  ·exact h1 b g
  ·rcases List.mem_cons.1 g with rfl | g
   ·exact hc
   ·exact h2 h b g
theorem zdw {p : UInt8 → Bool} {l : Bs} (h : only p l = true) : ∀ b ∈ l, p b = true := by
 unfold only at h
 rw [Bool.and_eq_true, List.all_eq_true] at h
 exact h.1
theorem zcw {o o' : Bs} (ho : ∀ c ∈ o, c ∈ o') {c : UInt8} (h : kind o c = true) : kind o' c = true := by
 unfold kind at *
 rw [Bool.or_eq_true] at *
 rcases h with h | h
 ·exact .inl h
 ·exact .inr (by simpa using ho c (by simpa using h))
theorem zlz {x : Bs} {e : Bool} (h : numb x e = true) : ∀ b ∈ x, verB b = true := fun b hb => by
 unfold numb digits at h
 rw [Bool.and_eq_true] at h
 have := zdw h.1 b hb
 unfold verB kind; rw [this]; simp
theorem ident_in {x : Bs} {e : Bool} (h : ju e x = true) : ∀ b ∈ x, verB b = true := fun b hb => by
 unfold ju at h
 rw [Bool.and_eq_true] at h
 exact zcw (by simp) (zdw h.1 b hb)
theorem zkq {s : Bs} {e : Bool} (h : identifiers s e = true) : ∀ b ∈ s, verB b = true := by
 unfold identifiers at h
 rw [List.all_eq_true] at h
 exact vk 46 (by decide +kernel) s fun x hx => ident_in (h x hx)
theorem dot_in {s : Bs} (h : zdd s = true) : ∀ b ∈ s, verB b = true := by
 unfold zdd at h
 rw [List.all_eq_true] at h
 exact vk 46 (by decide +kernel) s fun x hx => zlz (h x hx)
theorem sem_in {s : Bs} (h : (zi s).isSome = true) : ∀ b ∈ s, verB b = true := by
 unfold zi at h
 split at h
 ·cases h
 ·rename_i hn
  split at h
  ·rename_i ha
   rw [List.all_eq_true] at ha
   simp only [Bool.or_eq_true, Bool.and_eq_true, Bool.not_eq_true', not_or, not_and, Bool.not_eq_false] at hn
   obtain ⟨⟨h1, h2⟩, _⟩ := hn
   refine zfb 43 (by decide +kernel) s (zfb 45 (by decide +kernel) _ (vk 46 (by decide +kernel) _ fun x hx => zlz (ha x hx)) fun e => zkq (h2 e)) fun e => zkq (h1 e)
  ·cases h
theorem zhz {ep s : Bs} (h : (ja ep s).isSome = true) : ∀ b ∈ s, verB b = true := by
 unfold ja at h
 split at h
 ·split at h
  ·rename_i g
   rw [Bool.and_eq_true] at g
   exact fun b hb => zcw (by simp) (zdw g.1 b hb)
  ·cases h
 ·rename_i h0
  split at h
  ·rename_i g1
   split at h
   ·rename_i g2
    rw [Bool.and_eq_true] at g2
    have e1 := fun b hb => zcw (o' := [46, 43, 126, 45, 58]) (by simp) (zdw g2.1 b hb)
    have e2 := fun b hb => zcw (o' := [46, 43, 126, 45, 58]) (by simp [allow]) (zdw g1 b hb)
    unfold qt at *
    rcases Lib.lastIndexByte_spec ⟨s.toArray⟩ 45 with ⟨e, _⟩ | ⟨i, hi, e, hc, _⟩
    ·rw [e] at h0; simp at h0
    ·rw [e] at e1 e2
     have hi' : i < s.length := by rw [show (ByteArray.mk s.toArray).size = s.length by show s.toArray.size = _; simp] at hi; exact hi
     intro b hb
     rw [← List.take_append_drop i s, List.drop_eq_getElem_cons hi'] at hb
     rcases List.mem_append.1 hb with q | q
     ·exact e1 b (by simpa using q)
     ·rcases List.mem_cons.1 q with rfl | q
      ·have : s[i] = 45 := by
        have e3 : (ByteArray.mk s.toArray).data[i]! = s[i] := by simp [hi']
        rw [e3] at hc
        exact UInt8.toNat_inj.1 (show s[i].toNat = 45 by omega)
       rw [this]; decide +kernel
      ·exact e2 b (by simpa using q)
   ·cases h
  ·cases h
theorem deb_in {s : Bs} (h : (zn s).isSome = true) : ∀ b ∈ s, verB b = true := by
 unfold zn at h
 split at h
 ·rename_i hc
  split at h
  ·rename_i hn
   exact zfb 58 (by decide +kernel) s (zlz hn) fun _ => zhz h
  ·cases h
 ·exact zhz h
theorem valid_in {n : Int} {v : Bs} (h : valid n v = true) : ∀ b ∈ v, verB b = true := by
 unfold valid xq at h
 rw [Bool.and_eq_true] at h
 obtain ⟨_, h⟩ := h
 repeat' split at h
 ·exact sem_in h
 ·exact deb_in h
 ·exact dot_in h
 ·cases h
theorem zj9 {n : Int} {v : Bs} (h : valid n v = true) {c : UInt8} (hc : verB c = false) : c ∉ v := fun g => by
 rw [valid_in h c g] at hc; cases hc
end Go.Proofs.YtnhfaincdabdkaaGreatDoor.V
