/-
  Lemmas for the law.
-/
import Derived.Test.YtnhfaincdabdkaaGreatDoorC37x04
set_option linter.all false
namespace Go.Proofs.YtnhfaincdabdkaaGreatDoor.V
abbrev Pos := Bs × Bool
def cp (p q : Pos) : Int := cor (cb p.1 q.1) (if p.2 = q.2 then 0 else if q.2 then -1 else 1)
def plt (p q : Pos) : Prop := cp p q < 0
instance (p q : Pos) : Decidable (plt p q) := by unfold plt; infer_instance
theorem zl4 (p : Pos) : cp p p = 0 := by unfold cp; simp [ye, cor]
theorem zeg (p q : Pos) : cp q p = - cp p q := by
 unfold cp cor
 rw [kj p.1 q.1]
 rcases p with ⟨a, s⟩
 rcases q with ⟨b, t⟩
 rcases s <;> rcases t <;> simp <;> repeat' split
 all_goals omega
theorem cp_eq {p q : Pos} (h : cp p q = 0) : p = q := by
 rcases p with ⟨a, s⟩
 rcases q with ⟨b, t⟩
 unfold cp cor at h
 simp only at h
 split at h
 ·rename_i e
  have := zn4 e
  subst this
  rcases s <;> rcases t <;> simp at h <;> rfl
 ·omega
theorem cp_trans {p q r : Pos} (h1 : cp p q ≤ 0) (h2 : cp q r ≤ 0) : cp p r ≤ 0 := by
 rcases p with ⟨a, s⟩
 rcases q with ⟨b, t⟩
 rcases r with ⟨c, u⟩
 have t1 := zai a b c
 have ra := zig a b
 have rb := zig b c
 have rc := zig a c
 have t2 := zai c a b
 have t3 := zai b c a
 have n1 := kj a b
 have n2 := kj b c
 have n3 := kj a c
 unfold cp cor at *
 simp only at *
 rcases s <;> rcases t <;> rcases u <;> simp only [if_true, if_false, Bool.false_eq_true, reduceCtorEq] at * <;> (repeat' split at *) <;> omega
theorem qi (p : Pos) : ¬ plt p p := by unfold plt; rw [zl4]; omega
theorem zz {p q r : Pos} (h1 : plt p q) (h2 : plt q r) : plt p r := by
 unfold plt at *
 have h3 := cp_trans (p := p) (q := q) (r := r) (by omega) (by omega)
 by_cases e : cp p r = 0
 ·have := cp_eq e
  subst this
  have := zeg p q
  omega
 ·omega
theorem zlm (p q : Pos) : plt p q ∨ p = q ∨ plt q p := by
 unfold plt
 have := zeg p q
 by_cases e : cp p q = 0
 ·exact .inr (.inl (cp_eq e))
 ·omega
theorem zcs {p q : Pos} (h : plt p q) : ¬ plt q p := fun g => qi p (zz h g)
def mem (x : Bool) : List Pos → Pos → Bool
 | [], _ => x
 | p :: l, q => if plt q p then x else mem (!x) l q
def asc (l : List Pos) : Prop := l.Pairwise plt
theorem vp {x : Bool} {q : Pos} : ∀ {l : List Pos}, (∀ p ∈ l, plt q p) → mem x l q = x
 | [], _ => rfl
 | p :: l, h => by unfold mem; rw [if_pos (h p (by simp))]
theorem zq4 : ∀ {l m : List Pos} {x : Bool}, asc l → asc m → (∀ q, mem x l q = mem x m q) → l = m
 | [], [], _, _, _, _ => rfl
 | [], p :: m, x, _, hm, h => by
  have := h p
  unfold mem at this
  rw [if_neg (qi p), vp (fun q hq => (List.pairwise_cons.1 hm).1 q hq)] at this
  cases x <;> cases this
 | p :: l, [], x, hl, _, h => by
  have := h p
  unfold mem at this
  rw [if_neg (qi p), vp (fun q hq => (List.pairwise_cons.1 hl).1 q hq)] at this
  cases x <;> cases this
 | p :: l, p' :: m, x, hl, hm, h => by
  obtain ⟨hl1, hl2⟩ := List.pairwise_cons.1 hl
  obtain ⟨hm1, hm2⟩ := List.pairwise_cons.1 hm
  rcases zlm p p' with g | rfl | g
  ·have := h p
   unfold mem at this
   rw [if_neg (qi p), if_pos g, vp hl1] at this
   cases x <;> cases this
  ·have : l = m := zq4 (x := !x) hl2 hm2 (fun q => by
     by_cases g : plt q p
     · rw [vp (fun r hr => zz g (hl1 r hr)), vp (fun r hr => zz g (hm1 r hr))]
     · have := h q
       unfold mem at this
       rwa [if_neg g, if_neg g] at this)
   rw [this]
  ·have := h p'
   unfold mem at this
   rw [if_neg (qi p'), if_pos g, vp hm1] at this
   cases x <;> cases this
abbrev Cut := Bs × Bool
def pos (n : Int) (c : Cut) : Pos := (keyV n c.1, c.2)
def cutC (n : Int) (a b : Cut) : Int := if cmpV n a.1 b.1 ≠ 0 ∨ a.2 = b.2 then cmpV n a.1 b.1 else if b.2 then -1 else 1
theorem zeh {n : Int} (hn : scheme n = true) {a b : Cut} (ha : valid n a.1 = true) (hb : valid n b.1 = true) : cutC n a b = cp (pos n a) (pos n b) := by
 unfold cutC cp pos cor
 simp only
 rw [zc2 hn ha hb]
 repeat' split
 all_goals (first | rfl | (exfalso; simp_all; done) | (simp_all; done) | omega)
def lesser (a b : Bs) : Bs := if Lib.compareBytes b a < 0 then b else a
def comb (n : Int) (f : Bool → Bool → Bool) (x y now : Bool) : List Cut → List Cut → List Cut
 | [], [] => []
 | c :: l, [] => if f (!x) y = now then comb n f (!x) y now l [] else c :: comb n f (!x) y (f (!x) y) l []
 | [], d :: m => if f x (!y) = now then comb n f x (!y) now [] m else d :: comb n f x (!y) (f x (!y)) [] m
 | c :: l, d :: m =>
  if cutC n c d < 0 then (if f (!x) y = now then comb n f (!x) y now l (d :: m) else c :: comb n f (!x) y (f (!x) y) l (d :: m))
  else if 0 < cutC n c d then (if f x (!y) = now then comb n f x (!y) now (c :: l) m else d :: comb n f x (!y) (f x (!y)) (c :: l) m)
  else (if f (!x) (!y) = now then comb n f (!x) (!y) now l m else (lesser c.1 d.1, c.2) :: comb n f (!x) (!y) (f (!x) (!y)) l m)
termination_by l m => l.length + m.length
end Go.Proofs.YtnhfaincdabdkaaGreatDoor.V
namespace Go.Proofs.YtnhfaincdabdkaaGreatDoor.V
def emit (c : Cut) (next now : Bool) (R : List Cut) : List Cut := if next = now then R else c :: R
def poss (n : Int) (l : List Cut) : List Pos := l.map (pos n)
theorem zb4 {n : Int} {c : Cut} {next now : Bool} {R : List Cut} (h : ∀ p ∈ poss n R, plt (pos n c) p) (q : Pos) :
  mem now (poss n (emit c next now R)) q = if plt q (pos n c) then now else mem next (poss n R) q := by
 unfold emit
 by_cases e : next = now
 ·subst e
  rw [if_pos rfl]
  split
  ·rename_i g; exact vp fun p hp => zz g (h p hp)
  ·rfl
 ·rw [if_neg e]
  have : next = !now := by cases next <;> cases now <;> simp_all
  subst this
  rfl
theorem zb8 {n : Int} {c : Cut} {next now : Bool} {R : List Cut} (h : ∀ p ∈ poss n R, plt (pos n c) p) (hR : asc (poss n R)) : asc (poss n (emit c next now R)) := by
 unfold emit
 split
 ·exact hR
 ·exact List.pairwise_cons.2 ⟨h, hR⟩
theorem xh {c x : Cut} {next now : Bool} {R : List Cut} (h : x ∈ emit c next now R) : x = c ∨ x ∈ R := by
 unfold emit at h
 split at h
 ·exact .inr h
 ·exact List.mem_cons.1 h
theorem zqe (n : Int) (f : Bool → Bool → Bool) (x y now : Bool) (c : Cut) (l : List Cut) : comb n f x y now (c :: l) [] = emit c (f (!x) y) now (comb n f (!x) y (f (!x) y) l []) := by
 rw [comb]; unfold emit; split
 ·rename_i h; rw [h]
 ·rfl
theorem zp9 (n : Int) (f : Bool → Bool → Bool) (x y now : Bool) (d : Cut) (m : List Cut) : comb n f x y now [] (d :: m) = emit d (f x (!y)) now (comb n f x (!y) (f x (!y)) [] m) := by
 rw [comb]; unfold emit; split
 ·rename_i h; rw [h]
 ·rfl
theorem zl9 {n : Int} {f : Bool → Bool → Bool} {x y now : Bool} {c d : Cut} {l m : List Cut} (h : cutC n c d < 0) : comb n f x y now (c :: l) (d :: m) = emit c (f (!x) y) now (comb n f (!x) y (f (!x) y) l (d :: m)) := by
 rw [comb, if_pos h]; unfold emit; split
 ·rename_i h; rw [h]
 ·rfl
theorem zmr {n : Int} {f : Bool → Bool → Bool} {x y now : Bool} {c d : Cut} {l m : List Cut} (h : 0 < cutC n c d) : comb n f x y now (c :: l) (d :: m) = emit d (f x (!y)) now (comb n f x (!y) (f x (!y)) (c :: l) m) := by
 rw [comb, if_neg (by omega), if_pos h]; unfold emit; split
 ·rename_i h; rw [h]
 ·rfl
theorem zml {n : Int} {f : Bool → Bool → Bool} {x y now : Bool} {c d : Cut} {l m : List Cut} (h : cutC n c d = 0) : comb n f x y now (c :: l) (d :: m) = emit (lesser c.1 d.1, c.2) (f (!x) (!y)) now (comb n f (!x) (!y) (f (!x) (!y)) l m) := by
 rw [comb, if_neg (by omega), if_neg (by omega)]; unfold emit; split
 ·rename_i h; rw [h]
 ·rfl
def vv (n : Int) (l : List Cut) : Prop := ∀ c ∈ l, valid n c.1 = true
theorem zfh (a b : Bs) : lesser a b = a ∨ lesser a b = b := by unfold lesser; split <;> simp
structure CombOk (n : Int) (f : Bool → Bool → Bool) (x y : Bool) (l m R : List Cut) : Prop where
 asc : asc (poss n R)
 sub : ∀ p ∈ poss n R, p ∈ poss n l ∨ p ∈ poss n m
 ok : vv n R
 val : ∀ q, mem (f x y) (poss n R) q = f (mem x (poss n l) q) (mem y (poss n m) q)
 len : R.length ≤ l.length + m.length
theorem mem_cons (x : Bool) (p : Pos) (l : List Pos) (q : Pos) : mem x (p :: l) q = if plt q p then x else mem (!x) l q := rfl
theorem zcp {n : Int} (hn : scheme n = true) (f : Bool → Bool → Bool) : ∀ (k : Nat) (l m : List Cut) (x y : Bool), l.length + m.length ≤ k → vv n l → vv n m → asc (poss n l) → asc (poss n m) →
  CombOk n f x y l m (comb n f x y (f x y) l m)
 | _, [], [], x, y, _, _, _, _, _ => by
  rw [comb]
  exact ⟨List.Pairwise.nil, fun p hp => by simp [poss] at hp, fun c hc => by simp at hc, fun q => rfl, by simp⟩
 | 0, _ :: _, _, _, _, h, _, _, _, _ => by simp at h
 | 0, [], _ :: _, _, _, h, _, _, _, _ => by simp at h
 | k + 1, c :: l, [], x, y, h, hl, hm, al, am => by
  obtain ⟨a1, a2⟩ := List.pairwise_cons.1 (show asc (pos n c :: poss n l) from al)
  have ih := zcp hn f k l [] (!x) y (by simp at h ⊢; omega) (fun d hd => hl d (by simp [hd])) hm a2 am
  rw [zqe]
  have hgt : ∀ p ∈ poss n (comb n f (!x) y (f (!x) y) l []), plt (pos n c) p := fun p hp => by
   rcases ih.sub p hp with g | g
   ·exact a1 p g
   ·simp [poss] at g
  refine ⟨zb8 hgt ih.asc, fun p hp => ?_, fun d hd => ?_, fun q => ?_, ?_⟩
  ·obtain ⟨d, hd, rfl⟩ := List.mem_map.1 hp
   rcases xh hd with rfl | hd
   ·exact .inl (by simp [poss])
   ·rcases ih.sub _ (List.mem_map.2 ⟨d, hd, rfl⟩) with g | g
    ·exact .inl (List.mem_cons_of_mem _ g)
    ·simp [poss] at g
  ·rcases xh hd with rfl | hd
   ·exact hl _ (by simp)
   ·exact ih.ok d hd
  ·rw [zb4 hgt, ih.val]
   show _ = f (mem x (pos n c :: poss n l) q) _
   rw [mem_cons]
   split
   ·rfl
   ·rfl
  ·have := ih.len
   unfold emit; split <;> simp at * <;> omega
 | k + 1, [], d :: m, x, y, h, hl, hm, al, am => by
  obtain ⟨a1, a2⟩ := List.pairwise_cons.1 (show asc (pos n d :: poss n m) from am)
  have ih := zcp hn f k [] m x (!y) (by simp at h ⊢; omega) hl (fun d hd => hm d (by simp [hd])) al a2
  rw [zp9]
  have hgt : ∀ p ∈ poss n (comb n f x (!y) (f x (!y)) [] m), plt (pos n d) p := fun p hp => by
   rcases ih.sub p hp with g | g
   ·simp [poss] at g
   ·exact a1 p g
  refine ⟨zb8 hgt ih.asc, fun p hp => ?_, fun e he => ?_, fun q => ?_, ?_⟩
  ·obtain ⟨e, he, rfl⟩ := List.mem_map.1 hp
   rcases xh he with rfl | he
   ·exact .inr (by simp [poss])
   ·rcases ih.sub _ (List.mem_map.2 ⟨e, he, rfl⟩) with g | g
    ·simp [poss] at g
    ·exact .inr (List.mem_cons_of_mem _ g)
  ·rcases xh he with rfl | he
   ·exact hm _ (by simp)
   ·exact ih.ok e he
  ·rw [zb4 hgt, ih.val]
   show _ = f _ (mem y (pos n d :: poss n m) q)
   rw [mem_cons]
   split
   ·rfl
   ·rfl
  ·have := ih.len
   unfold emit; split <;> simp at * <;> omega
 | k + 1, c :: l, d :: m, x, y, h, hl, hm, al, am => by
  obtain ⟨a1, a2⟩ := List.pairwise_cons.1 (show asc (pos n c :: poss n l) from al)
  obtain ⟨b1, b2⟩ := List.pairwise_cons.1 (show asc (pos n d :: poss n m) from am)
  have hc := hl c (by simp)
  have hd := hm d (by simp)
  have hl' : vv n l := fun e he => hl e (by simp [he])
  have hm' : vv n m := fun e he => hm e (by simp [he])
  have hcp := zeh hn hc hd
  rcases zlm (pos n c) (pos n d) with g | g | g
  ·have hlt : cutC n c d < 0 := by rw [hcp]; exact g
   have ih := zcp hn f k l (d :: m) (!x) y (by simp at h ⊢; omega) hl' hm a2 am
   rw [zl9 hlt]
   have hgt : ∀ p ∈ poss n (comb n f (!x) y (f (!x) y) l (d :: m)), plt (pos n c) p := fun p hp => by
    rcases ih.sub p hp with e | e
    ·exact a1 p e
    ·rcases List.mem_cons.1 (show p ∈ pos n d :: poss n m from e) with rfl | e
     ·exact g
     ·exact zz g (b1 p e)
   refine ⟨zb8 hgt ih.asc, fun p hp => ?_, fun e he => ?_, fun q => ?_, ?_⟩
   ·obtain ⟨e, he, rfl⟩ := List.mem_map.1 hp
    rcases xh he with rfl | he
    ·exact .inl (by simp [poss])
    ·rcases ih.sub _ (List.mem_map.2 ⟨e, he, rfl⟩) with g | g
     ·exact .inl (List.mem_cons_of_mem _ g)
     ·exact .inr g
   ·rcases xh he with rfl | he
    ·exact hc
    ·exact ih.ok e he
   ·rw [zb4 hgt, ih.val]
    show _ = f (mem x (pos n c :: poss n l) q) (mem y (pos n d :: poss n m) q)
    rw [mem_cons x]
    split
    ·rename_i gq
     rw [vp (x := y) (l := pos n d :: poss n m) (fun p hp => ?_)]
     rcases List.mem_cons.1 hp with rfl | e
     ·exact zz gq g
     ·exact zz gq (zz g (b1 p e))
    ·rfl
   ·have := ih.len
    unfold emit; split <;> simp at * <;> omega
  ·have heq : cutC n c d = 0 := by rw [hcp, g]; exact zl4 _
   have ih := zcp hn f k l m (!x) (!y) (by simp at h ⊢; omega) hl' hm' a2 b2
   have hle : pos n (lesser c.1 d.1, c.2) = pos n c := by
    rcases zfh c.1 d.1 with e | e
    ·rw [e]
    ·rw [e]
     have h1 : keyV n c.1 = keyV n d.1 := congrArg Prod.fst g
     show (keyV n d.1, c.2) = (keyV n c.1, c.2)
     rw [h1]
   rw [zml heq]
   have hgt : ∀ p ∈ poss n (comb n f (!x) (!y) (f (!x) (!y)) l m), plt (pos n (lesser c.1 d.1, c.2)) p := fun p hp => by
    rw [hle]
    rcases ih.sub p hp with e | e
    ·exact a1 p e
    ·rw [g]; exact b1 p e
   refine ⟨zb8 hgt ih.asc, fun p hp => ?_, fun e he => ?_, fun q => ?_, ?_⟩
   ·obtain ⟨e, he, rfl⟩ := List.mem_map.1 hp
    rcases xh he with rfl | he
    ·rw [hle]; exact .inl (by simp [poss])
    ·rcases ih.sub _ (List.mem_map.2 ⟨e, he, rfl⟩) with g | g
     ·exact .inl (List.mem_cons_of_mem _ g)
     ·exact .inr (List.mem_cons_of_mem _ g)
   ·rcases xh he with rfl | he
    ·show valid n (lesser c.1 d.1) = true
     rcases zfh c.1 d.1 with e | e <;> rw [e] <;> assumption
    ·exact ih.ok e he
   ·rw [zb4 hgt, ih.val, hle]
    show _ = f (mem x (pos n c :: poss n l) q) (mem y (pos n d :: poss n m) q)
    rw [mem_cons x, mem_cons y, ← g]
    split
    ·rfl
    ·rfl
   ·have := ih.len
    unfold emit; split <;> simp at * <;> omega
  ·have hlt : 0 < cutC n c d := by
    have g' : cp (pos n d) (pos n c) < 0 := g
    rw [hcp]; have := zeg (pos n d) (pos n c); omega
   have ih := zcp hn f k (c :: l) m x (!y) (by simp at h ⊢; omega) hl hm' al b2
   rw [zmr hlt]
   have hgt : ∀ p ∈ poss n (comb n f x (!y) (f x (!y)) (c :: l) m), plt (pos n d) p := fun p hp => by
    rcases ih.sub p hp with e | e
    ·rcases List.mem_cons.1 (show p ∈ pos n c :: poss n l from e) with rfl | e
     ·exact g
     ·exact zz g (a1 p e)
    ·exact b1 p e
   refine ⟨zb8 hgt ih.asc, fun p hp => ?_, fun e he => ?_, fun q => ?_, ?_⟩
   ·obtain ⟨e, he, rfl⟩ := List.mem_map.1 hp
    rcases xh he with rfl | he
    ·exact .inr (by simp [poss])
    ·rcases ih.sub _ (List.mem_map.2 ⟨e, he, rfl⟩) with g | g
     ·exact .inl g
     ·exact .inr (List.mem_cons_of_mem _ g)
   ·rcases xh he with rfl | he
    ·exact hd
    ·exact ih.ok e he
   ·rw [zb4 hgt, ih.val]
    show _ = f (mem x (pos n c :: poss n l) q) (mem y (pos n d :: poss n m) q)
    rw [mem_cons y]
    split
    ·rename_i gq
     rw [vp (x := x) (l := pos n c :: poss n l) (fun p hp => ?_)]
     rcases List.mem_cons.1 hp with rfl | e
     ·exact zz gq g
     ·exact zz gq (zz g (a1 p e))
    ·rfl
   ·have := ih.len
    unfold emit; split <;> simp at * <;> omega
end Go.Proofs.YtnhfaincdabdkaaGreatDoor.V
namespace Go.Proofs.YtnhfaincdabdkaaGreatDoor.V
structure Itv where
 lo : Bs
 lk : Int
 hi : Bs
 hk : Int
def Itv.low (x : Itv) : Cut := (x.lo, decide (x.lk = 2))
def Itv.high (x : Itv) : Cut := (x.hi, decide (x.hk = 1))
def ji (n : Int) (v : Bs) (k : Int) : Bool := if k = 0 then v.isEmpty else (decide (k = 1) || decide (k = 2)) && valid n v
def xm (n : Int) (x : Itv) : Bool := decide (x.lk = 0) || (decide (x.hk = 0) || decide (cutC n x.low x.high < 0))
def ub (n : Int) (y x : Itv) : Bool := !decide (y.hk = 0) && (!decide (x.lk = 0) && decide (cutC n y.high x.low < 0))
def zl (n : Int) (x : Itv) : Bool := ji n x.lo x.lk && ji n x.hi x.hk
def noI : Itv := ⟨[], 0, [], 0⟩
def okAt (n : Int) (l : List Itv) (k : Nat) : Bool := xm n (l.getD k noI) && (decide (k = 0) || ub n (l.getD (k - 1) noI) (l.getD k noI))
def ordB (n : Int) (l : List Itv) : Bool := (List.range l.length).all (okAt n l)
def okR (n : Int) (l : List Itv) : Bool := scheme n && (decide (l.length ≤ 32) && (l.all (zl n) && ordB n l))
def Ord (n : Int) : List Itv → Prop
 | [] => True
 | x :: l => xm n x = true ∧ (∀ z ∈ l.head?, ub n x z = true) ∧ Ord n l
theorem zay (n : Int) (l : List Itv) : ordB n l = true ↔ ∀ k, k < l.length → okAt n l k = true := by
 unfold ordB
 rw [List.all_eq_true]
 exact ⟨fun h k hk => h k (List.mem_range.2 hk), fun h k hk => h k (List.mem_range.1 hk)⟩
theorem zqn : ∀ {n : Int} {l : List Itv}, (∀ k, k < l.length → okAt n l k = true) → Ord n l
 | _, [], _ => trivial
 | n, [x], h => by
  have h0 := h 0 (by simp)
  unfold okAt at h0
  simp at h0
  exact ⟨h0, ⟨(fun z hz => by cases hz), trivial⟩⟩
 | n, x :: y :: l, h => by
  have h0 := h 0 (by simp)
  have h1 := h 1 (by simp)
  unfold okAt at h0 h1
  simp at h0 h1
  refine ⟨h0, fun z hz => ?_, zqn (fun k hk => ?_)⟩
  ·simp at hz; subst hz; exact h1.2
  ·have h2 := h (k + 1) (by simp at hk ⊢; omega)
   unfold okAt at h2 ⊢
   rcases k with _ | k
   ·simp at h2 ⊢; exact h2.1
   ·simp at h2 ⊢; exact h2
theorem zht : ∀ {n : Int} {l : List Itv}, Ord n l → ∀ k, k < l.length → okAt n l k = true
 | _, [], _, k, hk => by simp at hk
 | n, x :: l, h, 0, _ => by unfold okAt; simp; exact h.1
 | n, x :: l, h, k + 1, hk => by
  have ih := zht h.2.2 k (by simp at hk; omega)
  unfold okAt at ih ⊢
  rcases k with _ | k
  ·simp at ih ⊢
   rcases l with _ | ⟨y, l⟩
   ·simp at hk
   ·exact ⟨by simpa using ih, h.2.1 y (by simp)⟩
  ·simp at ih ⊢; exact ih
def zm : List Itv → List Cut
 | [] => []
 | x :: l => (if x.lk = 0 then [] else [x.low]) ++ ((if x.hk = 0 then [] else [x.high]) ++ zm l)
def zo (l : List Itv) : Bool := l.any fun x => decide (x.lk = 0)
def mkI (a b : Option Cut) : Itv :=
 ⟨(match a with | none => [] | some c => c.1), (match a with | none => 0 | some c => if c.2 then 2 else 1), (match b with | none => [] | some c => c.1), (match b with | none => 0 | some c => if c.2 then 1 else 2)⟩
def ofC : Option (Option Cut) → List Cut → List Itv
 | none, [] => []
 | some a, [] => [mkI a none]
 | none, c :: l => ofC (some (some c)) l
 | some a, c :: l => mkI a (some c) :: ofC none l
def start (x : Bool) : Option (Option Cut) := if x then some none else none
theorem za1 {n : Int} {v : Bs} {k : Int} (h : ji n v k = true) (hk : k = 0) : v = [] := by
 unfold ji at h
 rw [if_pos hk] at h
 simpa using h
theorem ki {n : Int} {v : Bs} {k : Int} (h : ji n v k = true) (hk : k ≠ 0) : (k = 1 ∨ k = 2) ∧ valid n v = true := by
 unfold ji at h
 rw [if_neg hk, Bool.and_eq_true, Bool.or_eq_true] at h
 exact ⟨by simpa using h.1, h.2⟩
def lowO (x : Itv) : Option Cut := if x.lk = 0 then none else some x.low
def zb2 (x : Itv) : Option Cut := if x.hk = 0 then none else some x.high
theorem mkI_self {n : Int} {x : Itv} (h : zl n x = true) : mkI (lowO x) (zb2 x) = x := by
 unfold zl at h
 rw [Bool.and_eq_true] at h
 obtain ⟨a, b, c, d⟩ := x
 have h1 : (match lowO ⟨a, b, c, d⟩ with | none => ([] : Bs) | some c => c.1) = a ∧ (match lowO ⟨a, b, c, d⟩ with | none => (0 : Int) | some c => if c.2 then 2 else 1) = b := by
  unfold lowO Itv.low
  by_cases h0 : b = 0
  ·subst h0
   rw [if_pos rfl]
   exact ⟨(za1 h.1 rfl).symm, rfl⟩
  ·rw [if_neg h0]
   rcases (ki h.1 h0).1 with rfl | rfl <;> exact ⟨rfl, rfl⟩
 have h2 : (match zb2 ⟨a, b, c, d⟩ with | none => ([] : Bs) | some c => c.1) = c ∧ (match zb2 ⟨a, b, c, d⟩ with | none => (0 : Int) | some c => if c.2 then 1 else 2) = d := by
  unfold zb2 Itv.high
  by_cases h0 : d = 0
  ·subst h0
   rw [if_pos rfl]
   exact ⟨(za1 h.2 rfl).symm, rfl⟩
  ·rw [if_neg h0]
   rcases (ki h.2 h0).1 with rfl | rfl <;> exact ⟨rfl, rfl⟩
 unfold mkI
 rw [h1.1, h1.2, h2.1, h2.2]
theorem zn0 (x : Itv) (l : List Itv) : zm (x :: l) = (lowO x).toList ++ ((zb2 x).toList ++ zm l) := by
 unfold lowO zb2
 rw [zm]
 split <;> split <;> rfl
theorem ofC_some (a b : Option Cut) (hb : b ≠ none) (l : List Cut) : ofC (some a) (b.toList ++ l) = mkI a b :: ofC none l := by
 rcases b with _ | c
 ·exact absurd rfl hb
 ·rfl
theorem zcz : ∀ {n : Int} {l : List Itv}, Ord n l → (∀ z ∈ l.head?, z.lk ≠ 0) → zo l = false
 | _, [], _, _ => rfl
 | n, x :: l, h, hx => by
  have h0 : x.lk ≠ 0 := hx x (by simp)
  have ih := zcz h.2.2 (fun z hz => by
    have := h.2.1 z hz
    unfold ub at this
    simp at this
    exact this.2.1)
  unfold zo at ih ⊢
  rw [List.any_cons, ih]
  simpa using h0
theorem norm : ∀ {n : Int} {l : List Itv}, Ord n l → (∀ x ∈ l, zl n x = true) → ofC (start (zo l)) (zm l) = l
 | _, [], _, _ => rfl
 | n, x :: l, h, hb => by
  have hl : zo l = false := by
   refine zcz h.2.2 (fun z hz => ?_)
   have := h.2.1 z hz
   unfold ub at this
   simp at this
   exact this.2.1
  have ih := norm h.2.2 (fun y hy => hb y (by simp [hy]))
  rw [hl] at ih
  have hs := mkI_self (hb x (by simp))
  have hf : zo (x :: l) = decide (x.lk = 0) := by
   unfold zo at hl ⊢
   rw [List.any_cons, hl, Bool.or_false]
  rw [hf, zn0]
  have key : ofC (some (lowO x)) ((zb2 x).toList ++ zm l) = x :: l := by
   by_cases hk : x.hk = 0
   ·have : l = [] := by
     rcases l with _ | ⟨z, l⟩
     ·rfl
     ·have := h.2.1 z (by simp)
      unfold ub at this
      simp [hk] at this
    subst this
    have ho : zb2 x = none := by unfold zb2; rw [if_pos hk]
    rw [ho] at hs ⊢
    show [mkI (lowO x) none] = [x]
    rw [hs]
   ·have ho : zb2 x ≠ none := by unfold zb2; rw [if_neg hk]; simp
    rw [ofC_some _ _ ho, hs]
    exact congrArg (x :: ·) ih
  by_cases hk : x.lk = 0
  ·have ho : lowO x = none := by unfold lowO; rw [if_pos hk]
   rw [ho] at key ⊢
   rw [hk]
   exact key
  ·have ho : lowO x = some x.low := by unfold lowO; rw [if_neg hk]
   rw [ho] at key ⊢
   rw [decide_eq_false hk]
   exact key
theorem zlq : ∀ (o : Option (Option Cut)) (l : List Cut), (ofC o l).length ≤ l.length + 1
 | none, [] => by simp [ofC]
 | some a, [] => by simp [ofC]
 | none, c :: l => by have := zlq (some (some c)) l; simp only [ofC, List.length_cons]; omega
 | some a, c :: l => by have := zlq none l; simp only [ofC, List.length_cons]; omega
theorem zps (c : Cut) (b : Option Cut) : (mkI (some c) b).low = c := by
 obtain ⟨a, s⟩ := c
 cases s <;> rfl
theorem zqy (c : Cut) (a : Option Cut) : (mkI a (some c)).high = c := by
 obtain ⟨v, s⟩ := c
 cases s <;> rfl
theorem lk_mk (c : Cut) (b : Option Cut) : (mkI (some c) b).lk ≠ 0 := by
 obtain ⟨a, s⟩ := c
 cases s <;> simp [mkI]
theorem hk_mk (c : Cut) (a : Option Cut) : (mkI a (some c)).hk ≠ 0 := by
 obtain ⟨v, s⟩ := c
 cases s <;> simp [mkI]
theorem zj7 {n : Int} {a b : Option Cut} (ha : ∀ c ∈ a, valid n c.1 = true) (hb : ∀ c ∈ b, valid n c.1 = true) : zl n (mkI a b) = true := by
 unfold zl mkI ji
 rw [Bool.and_eq_true]
 constructor
 ·rcases a with _ | ⟨v, s⟩
  ·rfl
  ·have := ha (v, s) (by simp)
   cases s <;> simpa using this
 ·rcases b with _ | ⟨v, s⟩
  ·rfl
  ·have := hb (v, s) (by simp)
   cases s <;> simpa using this
theorem zdl {n : Int} : ∀ (o : Option (Option Cut)) (l : List Cut), (∀ a ∈ o, ∀ c ∈ a, valid n c.1 = true) → vv n l → ∀ x ∈ ofC o l, zl n x = true
 | none, [], _, _, x, hx => by simp [ofC] at hx
 | some a, [], h, _, x, hx => by
  simp [ofC] at hx
  subst hx
  exact zj7 (h a (by simp)) (fun c hc => by cases hc)
 | none, c :: l, _, hl, x, hx => zdl (some (some c)) l (fun a ha d hd => by
     simp at ha
     subst ha
     simp at hd
     subst hd
     exact hl _ (by simp)) (fun d hd => hl d (by simp [hd])) x hx
 | some a, c :: l, h, hl, x, hx => by
  rcases List.mem_cons.1 (show x ∈ mkI a (some c) :: ofC none l from hx) with rfl | hx
  ·exact zj7 (h a (by simp)) (fun d hd => by simp at hd; subst hd; exact hl _ (by simp))
  ·exact zdl none l (fun a ha => by cases ha) (fun d hd => hl d (by simp [hd])) x hx
theorem zaz {n : Int} (hn : scheme n = true) {c d : Cut} (hc : valid n c.1 = true) (hd : valid n d.1 = true) : cutC n c d < 0 ↔ plt (pos n c) (pos n d) := by
 rw [zeh hn hc hd]
 exact Iff.rfl
theorem zsg {_n : Int} {_c : Cut} : ∀ {l : List Cut}, ∀ z ∈ (ofC none l).head?, ∃ d m, l = d :: m ∧ z.low = d ∧ z.lk ≠ 0
 | [], z, hz => by simp [ofC] at hz
 | [d], z, hz => by
  simp [ofC] at hz
  subst hz
  exact ⟨d, [], rfl, zps d _, lk_mk d _⟩
 | d :: e :: m, z, hz => by
  simp [ofC] at hz
  subst hz
  exact ⟨d, e :: m, rfl, zps d _, lk_mk d _⟩
theorem zmo {n : Int} (hn : scheme n = true) : ∀ (o : Option (Option Cut)) (l : List Cut), (∀ a ∈ o, ∀ c ∈ a, valid n c.1 = true ∧ ∀ d ∈ l, plt (pos n c) (pos n d)) → vv n l → asc (poss n l) → Ord n (ofC o l)
 | none, [], _, _, _ => trivial
 | some a, [], _, _, _ => ⟨by unfold xm; simp [mkI], fun z hz => by simp at hz, trivial⟩
 | none, c :: l, _, hl, al => by
  obtain ⟨a1, a2⟩ := List.pairwise_cons.1 (show asc (pos n c :: poss n l) from al)
  exact zmo hn (some (some c)) l (fun a ha d hd => by
    simp at ha
    subst ha
    simp at hd
    subst hd
    exact ⟨hl _ (by simp), fun e he => a1 _ (List.mem_map.2 ⟨e, he, rfl⟩)⟩) (fun d hd => hl d (by simp [hd])) a2
 | some a, c :: l, h, hl, al => by
  obtain ⟨a1, a2⟩ := List.pairwise_cons.1 (show asc (pos n c :: poss n l) from al)
  have hc := hl c (by simp)
  refine ⟨?_, fun z hz => ?_, zmo hn none l (fun a ha => by cases ha) (fun d hd => hl d (by simp [hd])) a2⟩
  ·unfold xm
   rcases a with _ | d
   ·simp [mkI]
   ·obtain ⟨h1, h2⟩ := h (some d) (by simp) d (by simp)
    rw [zps, zqy, decide_eq_true ((zaz hn h1 hc).2 (h2 c (by simp)))]
    simp
  ·obtain ⟨d, m, rfl, e1, e2⟩ := zsg (_n := n) (_c := c) z hz
   unfold ub
   rw [zqy, e1, decide_eq_true ((zaz hn hc (hl d (by simp))).2 (a1 _ (by simp [poss]))), decide_eq_false (hk_mk c a), decide_eq_false e2]
   rfl
theorem okR_of {n : Int} (hn : scheme n = true) {x : Bool} {l : List Cut} (hl : vv n l) (al : asc (poss n l)) (hlen : (ofC (start x) l).length ≤ 32) : okR n (ofC (start x) l) = true := by
 have hs : ∀ a ∈ start x, ∀ c ∈ a, valid n c.1 = true ∧ ∀ d ∈ l, plt (pos n c) (pos n d) := fun a ha c hc => by
  cases x
  ·cases ha
  ·simp [start] at ha
   subst ha
   cases hc
 unfold okR
 rw [hn, decide_eq_true hlen, List.all_eq_true.2 (zdl _ _ (fun a ha c hc => (hs a ha c hc).1) hl), (zay _ _).2 (zht (zmo hn _ _ hs hl al))]
 rfl
structure Ok (n : Int) (l : List Itv) : Prop where
 sch : scheme n = true
 len : l.length ≤ 32
 bnd : ∀ x ∈ l, zl n x = true
 ord : Ord n l
theorem zbx {n : Int} {l : List Itv} (h : okR n l = true) : Ok n l := by
 unfold okR at h
 rw [Bool.and_eq_true, Bool.and_eq_true, Bool.and_eq_true, List.all_eq_true] at h
 exact ⟨h.1, by simpa using h.2.1, h.2.2.1, zqn ((zay _ _).1 h.2.2.2)⟩
theorem of_ok {n : Int} {l : List Itv} (h : Ok n l) : okR n l = true := by
 unfold okR
 rw [h.sch, decide_eq_true h.len, List.all_eq_true.2 h.bnd, (zay _ _).2 (zht h.ord)]
 rfl
theorem Ok.norm {n : Int} {l : List Itv} (h : Ok n l) : ofC (start (zo l)) (zm l) = l := V.norm h.ord h.bnd
theorem xn {n : Int} {x : Itv} (h : zl n x = true) (hk : x.lk ≠ 0) : valid n x.low.1 = true := by
 unfold zl at h
 rw [Bool.and_eq_true] at h
 exact (ki h.1 hk).2
theorem jz {n : Int} {x : Itv} (h : zl n x = true) (hk : x.hk ≠ 0) : valid n x.high.1 = true := by
 unfold zl at h
 rw [Bool.and_eq_true] at h
 exact (ki h.2 hk).2
theorem zri : ∀ {n : Int} {l : List Itv}, (∀ x ∈ l, zl n x = true) → vv n (zm l)
 | _, [], _, c, hc => by simp [zm] at hc
 | n, x :: l, h, c, hc => by
  rw [zm, List.mem_append, List.mem_append] at hc
  rcases hc with hc | hc | hc
  ·split at hc
   ·cases hc
   ·rw [List.mem_singleton] at hc
    subst hc
    exact xn (h x (by simp)) ‹_›
  ·split at hc
   ·cases hc
   ·rw [List.mem_singleton] at hc
    subst hc
    exact jz (h x (by simp)) ‹_›
  ·exact zri (fun y hy => h y (by simp [hy])) c hc
theorem _root_.Go.Proofs.YtnhfaincdabdkaaGreatDoor.zxn {P : Prop} (h : P := by
 rcases l with _ | ⟨z, l⟩
 ·rfl
 ·have := ho.2.1 z (by simp)
  unfold ub at this
  simp [hk] at this) : P := h
theorem zei {n : Int} (hn : scheme n = true) : ∀ {l : List Itv}, (∀ x ∈ l, zl n x = true) → Ord n l → asc (poss n (zm l)) ∧ ∀ p, (∀ z ∈ l.head?, z.lk ≠ 0 ∧ plt p (pos n z.low)) → ∀ q ∈ poss n (zm l), plt p q
 | [], _, _ => ⟨List.Pairwise.nil, fun p _ q hq => by simp [poss, zm] at hq⟩
 | x :: l, hb, ho => by
  obtain ⟨i1, i2⟩ := zei hn (fun y hy => hb y (by simp [hy])) ho.2.2
  have hbx := hb x (by simp)
  have hhi : x.hk ≠ 0 → ∀ q ∈ poss n (zm l), plt (pos n x.high) q := fun hk q hq => i2 _ (fun z hz => by
    have h1 := ho.2.1 z hz
    unfold ub at h1
    simp only [Bool.and_eq_true, Bool.not_eq_true', decide_eq_false_iff_not, decide_eq_true_eq] at h1
    have hz' : z ∈ l := by
      rcases l with _ | ⟨y, l⟩
      · cases hz
      · simp at hz; simp [hz]
    exact ⟨h1.2.1, (zaz hn (jz hbx hk) (xn (hb z (by simp [hz'])) h1.2.1)).1 h1.2.2⟩) q hq
  have hnil : x.hk = 0 → l = [] := fun hk => by
   exact zxn
  have hin : x.lk ≠ 0 → x.hk ≠ 0 → plt (pos n x.low) (pos n x.high) := fun h1 h2 => by
   have := ho.1
   unfold xm at this
   simp only [Bool.or_eq_true, decide_eq_true_eq] at this
   rcases this with h | h | h
   ·exact absurd h h1
   ·exact absurd h h2
   ·exact (zaz hn (xn hbx h1) (jz hbx h2)).1 h
  have htail : asc (poss n ((if x.hk = 0 then [] else [x.high]) ++ zm l)) := by
   by_cases hk : x.hk = 0
   ·rw [if_pos hk]
    exact i1
   ·rw [if_neg hk]
    exact List.pairwise_cons.2 ⟨hhi hk, i1⟩
  have hlow : x.lk ≠ 0 → ∀ q ∈ poss n ((if x.hk = 0 then [] else [x.high]) ++ zm l), plt (pos n x.low) q := fun h1 q hq => by
   by_cases hk : x.hk = 0
   ·rw [if_pos hk, hnil hk] at hq
    simp [poss, zm] at hq
   ·rw [if_neg hk] at hq
    rcases List.mem_cons.1 (show q ∈ pos n x.high :: poss n (zm l) from hq) with rfl | hq
    ·exact hin h1 hk
    ·exact zz (hin h1 hk) (hhi hk q hq)
  rw [zm]
  by_cases hk : x.lk = 0
  ·rw [if_pos hk]
   exact ⟨htail, fun p hp => absurd hk (hp x (by simp)).1⟩
  ·rw [if_neg hk]
   refine ⟨List.pairwise_cons.2 ⟨hlow hk, htail⟩, fun p hp q hq => ?_⟩
   have hpx := (hp x (by simp)).2
   rcases List.mem_cons.1 (show q ∈ pos n x.low :: poss n _ from hq) with rfl | hq
   ·exact hpx
   ·exact zz hpx (hlow hk q hq)
theorem Ok.cuts {n : Int} {l : List Itv} (h : Ok n l) : vv n (zm l) := zri h.bnd
theorem Ok.asc {n : Int} {l : List Itv} (h : Ok n l) : asc (poss n (zm l)) := (zei h.sch h.bnd h.ord).1
theorem uw : ∀ l : List Itv, (zm l).length ≤ 2 * l.length
 | [] => by simp [zm]
 | x :: l => by
  have := uw l
  rw [zm, List.length_append, List.length_append, List.length_cons]
  split <;> split <;> simp <;> omega
def inS (n : Int) (l : List Itv) (q : Pos) : Bool := mem (zo l) (poss n (zm l)) q
def inI (n : Int) (q : Pos) (x : Itv) : Bool := (decide (x.lk = 0) || !decide (plt q (pos n x.low))) && (decide (x.hk = 0) || decide (plt q (pos n x.high)))
theorem zcr {n : Int} (hn : scheme n = true) (q : Pos) : ∀ {l : List Itv}, (∀ x ∈ l, zl n x = true) → Ord n l → inS n l q = l.any (inI n q)
 | [], _, _ => rfl
 | x :: l, hb, ho => by
  have ih := zcr hn q (fun y hy => hb y (by simp [hy])) ho.2.2
  have hca := zei hn hb ho
  have hca2 := (zei hn (fun y hy => hb y (by simp [hy])) ho.2.2).2
  have hl : zo l = false := by
   refine zcz ho.2.2 (fun z hz => ?_)
   have := ho.2.1 z hz
   unfold ub at this
   simp at this
   exact this.2.1
  have hf : zo (x :: l) = decide (x.lk = 0) := by
   unfold zo at hl ⊢
   rw [List.any_cons, hl, Bool.or_false]
  unfold inS at ih ⊢
  rw [hl] at ih
  rw [hf, List.any_cons, ← ih, zm]
  have hbx := hb x (by simp)
  have hhi : x.hk ≠ 0 → ∀ q ∈ poss n (zm l), plt (pos n x.high) q := fun hk q hq => hca2 _ (fun z hz => by
    have h1 := ho.2.1 z hz
    unfold ub at h1
    simp only [Bool.and_eq_true, Bool.not_eq_true', decide_eq_false_iff_not, decide_eq_true_eq] at h1
    have hz' : z ∈ l := by
      rcases l with _ | ⟨y, l⟩
      · cases hz
      · simp at hz; simp [hz]
    exact ⟨h1.2.1, (zaz hn (jz hbx hk) (xn (hb z (by simp [hz'])) h1.2.1)).1 h1.2.2⟩) q hq
  have hnil : x.hk = 0 → l = [] := fun hk => by
   exact zxn
  have tail : mem true (poss n ((if x.hk = 0 then [] else [x.high]) ++ zm l)) q = ((decide (x.hk = 0) || decide (plt q (pos n x.high))) || mem false (poss n (zm l)) q) := by
   by_cases hk : x.hk = 0
   ·rw [if_pos hk, hnil hk, decide_eq_true hk]
    rfl
   ·rw [if_neg hk, decide_eq_false hk]
    show mem true (pos n x.high :: poss n (zm l)) q = _
    rw [mem_cons]
    by_cases hq : plt q (pos n x.high)
    ·rw [if_pos hq, decide_eq_true hq]
     rfl
    ·rw [if_neg hq, decide_eq_false hq]
     rfl
  by_cases hk : x.lk = 0
  ·rw [if_pos hk, decide_eq_true hk, List.nil_append, tail]
   unfold inI
   rw [decide_eq_true hk, Bool.true_or, Bool.true_and]
  ·rw [if_neg hk, decide_eq_false hk]
   show mem false (pos n x.low :: poss n _) q = _
   rw [mem_cons]
   unfold inI
   by_cases hq : plt q (pos n x.low)
   ·rw [if_pos hq, decide_eq_false hk, decide_eq_true hq]
    have : mem false (poss n (zm l)) q = false := vp (fun p hp => by
      by_cases hh : x.hk = 0
      · rw [hnil hh] at hp
        simp [poss, zm] at hp
      · have hin : plt (pos n x.low) (pos n x.high) := by
          have := ho.1
          unfold xm at this
          simp only [Bool.or_eq_true, decide_eq_true_eq] at this
          rcases this with h | h | h
          · exact absurd h hk
          · exact absurd h hh
          · exact (zaz hn (xn hbx hk) (jz hbx hh)).1 h
        exact zz hq (zz hin (hhi hh p hp)))
    rw [this]
    rfl
   ·rw [if_neg hq, decide_eq_false hk, decide_eq_false hq]
    show mem true (poss n ((if x.hk = 0 then [] else [x.high]) ++ zm l)) q = _
    rw [tail]
    rfl
end Go.Proofs.YtnhfaincdabdkaaGreatDoor.V
