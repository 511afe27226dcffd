/-
  Plain Lean, no program: cuts between versions, sets as ascending lists of cuts, the combination of two sets.
  Plain Lean, no program: what the combination of two sets contains.
  Plain Lean, no program: range sets as lists of intervals, and as ascending lists of cuts.
  Plain Lean, no program: the combination as the reference computes it, and that both are the same.
-/
import Derived.Test.YtpjjkbdkgaehkaaGreatDoorP6
namespace Go.Proofs.YtpjjkbdkgaehkaaGreatDoor.V

/-- a place between versions: the key of a version, and whether the place is just after it -/
abbrev Pos := Bs × Bool
def cp (p q : Pos) : Int := cor (cb p.1 q.1) (if p.2 = q.2 then 0 else if q.2 then -1 else 1)
def plt (p q : Pos) : Prop := cp p q < 0
instance (p q : Pos) : Decidable (plt p q) := by unfold plt; infer_instance

theorem cp_refl (p : Pos) : cp p p = 0 := by unfold cp; simp [cb_refl, cor]
theorem cp_anti (p q : Pos) : cp q p = - cp p q := by
  unfold cp cor
  rw [cb_anti p.1 q.1]
  rcases p with ⟨a, s⟩
  rcases q with ⟨b, t⟩
  rcases s <;> rcases t <;> simp <;> repeat' split
  all_goals omega
theorem cp_eq {p q : Pos} (h : cp p q = 0) : p = q := by
  rcases p with ⟨a, s⟩
  rcases q with ⟨b, t⟩
  unfold cp cor at h
  simp only at h
  split at h
  · rename_i e
    have := cb_eq e
    subst this
    rcases s <;> rcases t <;> simp at h <;> rfl
  · omega
theorem cp_trans {p q r : Pos} (h1 : cp p q ≤ 0) (h2 : cp q r ≤ 0) : cp p r ≤ 0 := by
  rcases p with ⟨a, s⟩
  rcases q with ⟨b, t⟩
  rcases r with ⟨c, u⟩
  have t1 := cb_trans a b c
  have ra := cb_rng a b
  have rb := cb_rng b c
  have rc := cb_rng a c
  have t2 := cb_trans c a b
  have t3 := cb_trans b c a
  have n1 := cb_anti a b
  have n2 := cb_anti b c
  have n3 := cb_anti a c
  unfold cp cor at *
  simp only at *
  rcases s <;> rcases t <;> rcases u <;> simp only [if_true, if_false, Bool.false_eq_true, reduceCtorEq] at * <;> (repeat' split at *) <;> omega
theorem plt_irrefl (p : Pos) : ¬ plt p p := by unfold plt; rw [cp_refl]; omega
theorem plt_trans {p q r : Pos} (h1 : plt p q) (h2 : plt q r) : plt p r := by
  unfold plt at *
  have h3 := cp_trans (p := p) (q := q) (r := r) (by omega) (by omega)
  by_cases e : cp p r = 0
  · have := cp_eq e
    subst this
    have := cp_anti p q
    omega
  · omega
theorem plt_tri (p q : Pos) : plt p q ∨ p = q ∨ plt q p := by
  unfold plt
  have := cp_anti p q
  by_cases e : cp p q = 0
  · exact .inr (.inl (cp_eq e))
  · omega
theorem plt_asymm {p q : Pos} (h : plt p q) : ¬ plt q p := fun g => plt_irrefl p (plt_trans h g)
/-- whether what lies just behind q belongs to a set that begins with x and turns at each place of l -/
def mem (x : Bool) : List Pos → Pos → Bool
  | [], _ => x
  | p :: l, q => if plt q p then x else mem (!x) l q
def asc (l : List Pos) : Prop := l.Pairwise plt

theorem mem_lt {x : Bool} {q : Pos} : ∀ {l : List Pos}, (∀ p ∈ l, plt q p) → mem x l q = x
  | [], _ => rfl
  | p :: l, h => by unfold mem; rw [if_pos (h p (by simp))]

/-- one set has one list -/
theorem mem_inj : ∀ {l m : List Pos} {x : Bool}, asc l → asc m → (∀ q, mem x l q = mem x m q) → l = m
  | [], [], _, _, _, _ => rfl
  | [], p :: m, x, _, hm, h => by
    have := h p
    unfold mem at this
    rw [if_neg (plt_irrefl p), mem_lt (fun q hq => (List.pairwise_cons.1 hm).1 q hq)] at this
    cases x <;> cases this
  | p :: l, [], x, hl, _, h => by
    have := h p
    unfold mem at this
    rw [if_neg (plt_irrefl p), mem_lt (fun q hq => (List.pairwise_cons.1 hl).1 q hq)] at this
    cases x <;> cases this
  | p :: l, p' :: m, x, hl, hm, h => by
    obtain ⟨hl1, hl2⟩ := List.pairwise_cons.1 hl
    obtain ⟨hm1, hm2⟩ := List.pairwise_cons.1 hm
    rcases plt_tri p p' with g | rfl | g
    · have := h p
      unfold mem at this
      rw [if_neg (plt_irrefl p), if_pos g, mem_lt hl1] at this
      cases x <;> cases this
    · have : l = m := mem_inj (x := !x) hl2 hm2 (fun q => by
        by_cases g : plt q p
        · rw [mem_lt (fun r hr => plt_trans g (hl1 r hr)), mem_lt (fun r hr => plt_trans g (hm1 r hr))]
        · have := h q
          unfold mem at this
          rwa [if_neg g, if_neg g] at this)
      rw [this]
    · have := h p'
      unfold mem at this
      rw [if_neg (plt_irrefl p'), if_pos g, mem_lt hm1] at this
      cases x <;> cases this

/-- a cut as the program has it -/
abbrev Cut := Bs × Bool
def pos (n : Int) (c : Cut) : Pos := (keyV n c.1, c.2)
def cutC (n : Int) (a b : Cut) : Int := if cmpV n a.1 b.1 ≠ 0 ∨ a.2 = b.2 then cmpV n a.1 b.1 else if b.2 then -1 else 1
theorem cutC_pos {n : Int} (hn : scheme n = true) {a b : Cut} (ha : valid n a.1 = true) (hb : valid n b.1 = true) : cutC n a b = cp (pos n a) (pos n b) := by
  unfold cutC cp pos cor
  simp only
  rw [key_law hn ha hb]
  repeat' split
  all_goals (first | rfl | (exfalso; simp_all; done) | (simp_all; done) | omega)

/-- of two strings the lesser -/
def lesser (a b : Bs) : Bs := if Lib.compareBytes b a < 0 then b else a

/-- the cuts at which the value of f turns -/
def comb (n : Int) (f : Bool → Bool → Bool) (x y now : Bool) : List Cut → List Cut → List Cut
  | [], [] => []
  | c :: l, [] => if f (!x) y = now then comb n f (!x) y now l [] else c :: comb n f (!x) y (f (!x) y) l []
  | [], d :: m => if f x (!y) = now then comb n f x (!y) now [] m else d :: comb n f x (!y) (f x (!y)) [] m
  | c :: l, d :: m =>
    if cutC n c d < 0 then (if f (!x) y = now then comb n f (!x) y now l (d :: m) else c :: comb n f (!x) y (f (!x) y) l (d :: m))
    else if 0 < cutC n c d then (if f x (!y) = now then comb n f x (!y) now (c :: l) m else d :: comb n f x (!y) (f x (!y)) (c :: l) m)
    else (if f (!x) (!y) = now then comb n f (!x) (!y) now l m else (lesser c.1 d.1, c.2) :: comb n f (!x) (!y) (f (!x) (!y)) l m)
termination_by l m => l.length + m.length
end Go.Proofs.YtpjjkbdkgaehkaaGreatDoor.V
namespace Go.Proofs.YtpjjkbdkgaehkaaGreatDoor.V

def emit (c : Cut) (next now : Bool) (R : List Cut) : List Cut := if next = now then R else c :: R
def poss (n : Int) (l : List Cut) : List Pos := l.map (pos n)

theorem emit_mem {n : Int} {c : Cut} {next now : Bool} {R : List Cut} (h : ∀ p ∈ poss n R, plt (pos n c) p) (q : Pos) :
    mem now (poss n (emit c next now R)) q = if plt q (pos n c) then now else mem next (poss n R) q := by
  unfold emit
  by_cases e : next = now
  · subst e
    rw [if_pos rfl]
    split
    · rename_i g; exact mem_lt fun p hp => plt_trans g (h p hp)
    · rfl
  · rw [if_neg e]
    have : next = !now := by cases next <;> cases now <;> simp_all
    subst this
    rfl
theorem emit_asc {n : Int} {c : Cut} {next now : Bool} {R : List Cut} (h : ∀ p ∈ poss n R, plt (pos n c) p) (hR : asc (poss n R)) : asc (poss n (emit c next now R)) := by
  unfold emit
  split
  · exact hR
  · exact List.pairwise_cons.2 ⟨h, hR⟩
theorem emit_sub {c x : Cut} {next now : Bool} {R : List Cut} (h : x ∈ emit c next now R) : x = c ∨ x ∈ R := by
  unfold emit at h
  split at h
  · exact .inr h
  · exact List.mem_cons.1 h

theorem comb_l (n : Int) (f : Bool → Bool → Bool) (x y now : Bool) (c : Cut) (l : List Cut) : comb n f x y now (c :: l) [] = emit c (f (!x) y) now (comb n f (!x) y (f (!x) y) l []) := by
  rw [comb]; unfold emit; split
  · rename_i h; rw [h]
  · rfl
theorem comb_r (n : Int) (f : Bool → Bool → Bool) (x y now : Bool) (d : Cut) (m : List Cut) : comb n f x y now [] (d :: m) = emit d (f x (!y)) now (comb n f x (!y) (f x (!y)) [] m) := by
  rw [comb]; unfold emit; split
  · rename_i h; rw [h]
  · rfl
theorem comb_lt {n : Int} {f : Bool → Bool → Bool} {x y now : Bool} {c d : Cut} {l m : List Cut} (h : cutC n c d < 0) : comb n f x y now (c :: l) (d :: m) = emit c (f (!x) y) now (comb n f (!x) y (f (!x) y) l (d :: m)) := by
  rw [comb, if_pos h]; unfold emit; split
  · rename_i h; rw [h]
  · rfl
theorem comb_gt {n : Int} {f : Bool → Bool → Bool} {x y now : Bool} {c d : Cut} {l m : List Cut} (h : 0 < cutC n c d) : comb n f x y now (c :: l) (d :: m) = emit d (f x (!y)) now (comb n f x (!y) (f x (!y)) (c :: l) m) := by
  rw [comb, if_neg (by omega), if_pos h]; unfold emit; split
  · rename_i h; rw [h]
  · rfl
theorem comb_eq {n : Int} {f : Bool → Bool → Bool} {x y now : Bool} {c d : Cut} {l m : List Cut} (h : cutC n c d = 0) : comb n f x y now (c :: l) (d :: m) = emit (lesser c.1 d.1, c.2) (f (!x) (!y)) now (comb n f (!x) (!y) (f (!x) (!y)) l m) := by
  rw [comb, if_neg (by omega), if_neg (by omega)]; unfold emit; split
  · rename_i h; rw [h]
  · rfl

def okAll (n : Int) (l : List Cut) : Prop := ∀ c ∈ l, valid n c.1 = true
theorem lesser_or (a b : Bs) : lesser a b = a ∨ lesser a b = b := by unfold lesser; split <;> simp

/-- what a list of results has to be -/
structure CombOk (n : Int) (f : Bool → Bool → Bool) (x y : Bool) (l m R : List Cut) : Prop where
  asc : asc (poss n R)
  sub : ∀ p ∈ poss n R, p ∈ poss n l ∨ p ∈ poss n m
  ok : okAll n R
  val : ∀ q, mem (f x y) (poss n R) q = f (mem x (poss n l) q) (mem y (poss n m) q)
  len : R.length ≤ l.length + m.length

theorem mem_cons (x : Bool) (p : Pos) (l : List Pos) (q : Pos) : mem x (p :: l) q = if plt q p then x else mem (!x) l q := rfl

theorem comb_ok {n : Int} (hn : scheme n = true) (f : Bool → Bool → Bool) : ∀ (k : Nat) (l m : List Cut) (x y : Bool), l.length + m.length ≤ k → okAll n l → okAll n m → asc (poss n l) → asc (poss n m) →
    CombOk n f x y l m (comb n f x y (f x y) l m)
  | _, [], [], x, y, _, _, _, _, _ => by
    rw [comb]
    exact ⟨List.Pairwise.nil, fun p hp => by simp [poss] at hp, fun c hc => by simp at hc, fun q => rfl, by simp⟩
  | 0, _ :: _, _, _, _, h, _, _, _, _ => by simp at h
  | 0, [], _ :: _, _, _, h, _, _, _, _ => by simp at h
  | k + 1, c :: l, [], x, y, h, hl, hm, al, am => by
    obtain ⟨a1, a2⟩ := List.pairwise_cons.1 (show asc (pos n c :: poss n l) from al)
    have ih := comb_ok hn f k l [] (!x) y (by simp at h ⊢; omega) (fun d hd => hl d (by simp [hd])) hm a2 am
    rw [comb_l]
    have hgt : ∀ p ∈ poss n (comb n f (!x) y (f (!x) y) l []), plt (pos n c) p := fun p hp => by
      rcases ih.sub p hp with g | g
      · exact a1 p g
      · simp [poss] at g
    refine ⟨emit_asc hgt ih.asc, fun p hp => ?_, fun d hd => ?_, fun q => ?_, ?_⟩
    · obtain ⟨d, hd, rfl⟩ := List.mem_map.1 hp
      rcases emit_sub hd with rfl | hd
      · exact .inl (by simp [poss])
      · rcases ih.sub _ (List.mem_map.2 ⟨d, hd, rfl⟩) with g | g
        · exact .inl (List.mem_cons_of_mem _ g)
        · simp [poss] at g
    · rcases emit_sub hd with rfl | hd
      · exact hl _ (by simp)
      · exact ih.ok d hd
    · rw [emit_mem hgt, ih.val]
      show _ = f (mem x (pos n c :: poss n l) q) _
      rw [mem_cons]
      split
      · rfl
      · rfl
    · have := ih.len
      unfold emit; split <;> simp at * <;> omega
  | k + 1, [], d :: m, x, y, h, hl, hm, al, am => by
    obtain ⟨a1, a2⟩ := List.pairwise_cons.1 (show asc (pos n d :: poss n m) from am)
    have ih := comb_ok hn f k [] m x (!y) (by simp at h ⊢; omega) hl (fun d hd => hm d (by simp [hd])) al a2
    rw [comb_r]
    have hgt : ∀ p ∈ poss n (comb n f x (!y) (f x (!y)) [] m), plt (pos n d) p := fun p hp => by
      rcases ih.sub p hp with g | g
      · simp [poss] at g
      · exact a1 p g
    refine ⟨emit_asc hgt ih.asc, fun p hp => ?_, fun e he => ?_, fun q => ?_, ?_⟩
    · obtain ⟨e, he, rfl⟩ := List.mem_map.1 hp
      rcases emit_sub he with rfl | he
      · exact .inr (by simp [poss])
      · rcases ih.sub _ (List.mem_map.2 ⟨e, he, rfl⟩) with g | g
        · simp [poss] at g
        · exact .inr (List.mem_cons_of_mem _ g)
    · rcases emit_sub he with rfl | he
      · exact hm _ (by simp)
      · exact ih.ok e he
    · rw [emit_mem hgt, ih.val]
      show _ = f _ (mem y (pos n d :: poss n m) q)
      rw [mem_cons]
      split
      · rfl
      · rfl
    · have := ih.len
      unfold emit; split <;> simp at * <;> omega
  | k + 1, c :: l, d :: m, x, y, h, hl, hm, al, am => by
    obtain ⟨a1, a2⟩ := List.pairwise_cons.1 (show asc (pos n c :: poss n l) from al)
    obtain ⟨b1, b2⟩ := List.pairwise_cons.1 (show asc (pos n d :: poss n m) from am)
    have hc := hl c (by simp)
    have hd := hm d (by simp)
    have hl' : okAll n l := fun e he => hl e (by simp [he])
    have hm' : okAll n m := fun e he => hm e (by simp [he])
    have hcp := cutC_pos hn hc hd
    rcases plt_tri (pos n c) (pos n d) with g | g | g
    · have hlt : cutC n c d < 0 := by rw [hcp]; exact g
      have ih := comb_ok hn f k l (d :: m) (!x) y (by simp at h ⊢; omega) hl' hm a2 am
      rw [comb_lt hlt]
      have hgt : ∀ p ∈ poss n (comb n f (!x) y (f (!x) y) l (d :: m)), plt (pos n c) p := fun p hp => by
        rcases ih.sub p hp with e | e
        · exact a1 p e
        · rcases List.mem_cons.1 (show p ∈ pos n d :: poss n m from e) with rfl | e
          · exact g
          · exact plt_trans g (b1 p e)
      refine ⟨emit_asc hgt ih.asc, fun p hp => ?_, fun e he => ?_, fun q => ?_, ?_⟩
      · obtain ⟨e, he, rfl⟩ := List.mem_map.1 hp
        rcases emit_sub he with rfl | he
        · exact .inl (by simp [poss])
        · rcases ih.sub _ (List.mem_map.2 ⟨e, he, rfl⟩) with g | g
          · exact .inl (List.mem_cons_of_mem _ g)
          · exact .inr g
      · rcases emit_sub he with rfl | he
        · exact hc
        · exact ih.ok e he
      · rw [emit_mem hgt, ih.val]
        show _ = f (mem x (pos n c :: poss n l) q) (mem y (pos n d :: poss n m) q)
        rw [mem_cons x]
        split
        · rename_i gq
          rw [mem_lt (x := y) (l := pos n d :: poss n m) (fun p hp => ?_)]
          rcases List.mem_cons.1 hp with rfl | e
          · exact plt_trans gq g
          · exact plt_trans gq (plt_trans g (b1 p e))
        · rfl
      · have := ih.len
        unfold emit; split <;> simp at * <;> omega
    · have heq : cutC n c d = 0 := by rw [hcp, g]; exact cp_refl _
      have ih := comb_ok hn f k l m (!x) (!y) (by simp at h ⊢; omega) hl' hm' a2 b2
      have hle : pos n (lesser c.1 d.1, c.2) = pos n c := by
        rcases lesser_or c.1 d.1 with e | e
        · rw [e]
        · rw [e]
          have h1 : keyV n c.1 = keyV n d.1 := congrArg Prod.fst g
          show (keyV n d.1, c.2) = (keyV n c.1, c.2)
          rw [h1]
      rw [comb_eq heq]
      have hgt : ∀ p ∈ poss n (comb n f (!x) (!y) (f (!x) (!y)) l m), plt (pos n (lesser c.1 d.1, c.2)) p := fun p hp => by
        rw [hle]
        rcases ih.sub p hp with e | e
        · exact a1 p e
        · rw [g]; exact b1 p e
      refine ⟨emit_asc hgt ih.asc, fun p hp => ?_, fun e he => ?_, fun q => ?_, ?_⟩
      · obtain ⟨e, he, rfl⟩ := List.mem_map.1 hp
        rcases emit_sub he with rfl | he
        · rw [hle]; exact .inl (by simp [poss])
        · rcases ih.sub _ (List.mem_map.2 ⟨e, he, rfl⟩) with g | g
          · exact .inl (List.mem_cons_of_mem _ g)
          · exact .inr (List.mem_cons_of_mem _ g)
      · rcases emit_sub he with rfl | he
        · show valid n (lesser c.1 d.1) = true
          rcases lesser_or c.1 d.1 with e | e <;> rw [e] <;> assumption
        · exact ih.ok e he
      · rw [emit_mem hgt, ih.val, hle]
        show _ = f (mem x (pos n c :: poss n l) q) (mem y (pos n d :: poss n m) q)
        rw [mem_cons x, mem_cons y, ← g]
        split
        · rfl
        · rfl
      · have := ih.len
        unfold emit; split <;> simp at * <;> omega
    · have hlt : 0 < cutC n c d := by
        have g' : cp (pos n d) (pos n c) < 0 := g
        rw [hcp]; have := cp_anti (pos n d) (pos n c); omega
      have ih := comb_ok hn f k (c :: l) m x (!y) (by simp at h ⊢; omega) hl hm' al b2
      rw [comb_gt hlt]
      have hgt : ∀ p ∈ poss n (comb n f x (!y) (f x (!y)) (c :: l) m), plt (pos n d) p := fun p hp => by
        rcases ih.sub p hp with e | e
        · rcases List.mem_cons.1 (show p ∈ pos n c :: poss n l from e) with rfl | e
          · exact g
          · exact plt_trans g (a1 p e)
        · exact b1 p e
      refine ⟨emit_asc hgt ih.asc, fun p hp => ?_, fun e he => ?_, fun q => ?_, ?_⟩
      · obtain ⟨e, he, rfl⟩ := List.mem_map.1 hp
        rcases emit_sub he with rfl | he
        · exact .inr (by simp [poss])
        · rcases ih.sub _ (List.mem_map.2 ⟨e, he, rfl⟩) with g | g
          · exact .inl g
          · exact .inr (List.mem_cons_of_mem _ g)
      · rcases emit_sub he with rfl | he
        · exact hd
        · exact ih.ok e he
      · rw [emit_mem hgt, ih.val]
        show _ = f (mem x (pos n c :: poss n l) q) (mem y (pos n d :: poss n m) q)
        rw [mem_cons y]
        split
        · rename_i gq
          rw [mem_lt (x := x) (l := pos n c :: poss n l) (fun p hp => ?_)]
          rcases List.mem_cons.1 hp with rfl | e
          · exact plt_trans gq g
          · exact plt_trans gq (plt_trans g (a1 p e))
        · rfl
      · have := ih.len
        unfold emit; split <;> simp at * <;> omega
end Go.Proofs.YtpjjkbdkgaehkaaGreatDoor.V
namespace Go.Proofs.YtpjjkbdkgaehkaaGreatDoor.V

/-- an interval as the program has it: 0 unbounded, 1 closed, 2 open -/
structure Itv where
  lo : Bs
  lk : Int
  hi : Bs
  hk : Int

def Itv.low (x : Itv) : Cut := (x.lo, decide (x.lk = 2))
def Itv.high (x : Itv) : Cut := (x.hi, decide (x.hk = 1))
def boundB (n : Int) (v : Bs) (k : Int) : Bool := if k = 0 then v.isEmpty else (decide (k = 1) || decide (k = 2)) && valid n v
def insideB (n : Int) (x : Itv) : Bool := decide (x.lk = 0) || (decide (x.hk = 0) || decide (cutC n x.low x.high < 0))
def nextB (n : Int) (y x : Itv) : Bool := !decide (y.hk = 0) && (!decide (x.lk = 0) && decide (cutC n y.high x.low < 0))
def boundsB (n : Int) (x : Itv) : Bool := boundB n x.lo x.lk && boundB n x.hi x.hk
def noI : Itv := ⟨[], 0, [], 0⟩
/-- the k-th interval stands well behind the one before it -/
def okAt (n : Int) (l : List Itv) (k : Nat) : Bool := insideB n (l.getD k noI) && (decide (k = 0) || nextB n (l.getD (k - 1) noI) (l.getD k noI))
def ordB (n : Int) (l : List Itv) : Bool := (List.range l.length).all (okAt n l)
/-- a range set of the scheme n -/
def okR (n : Int) (l : List Itv) : Bool := scheme n && (decide (l.length ≤ 32) && (l.all (boundsB n) && ordB n l))

/-- the same, along the list -/
def Ord (n : Int) : List Itv → Prop
  | [] => True
  | x :: l => insideB n x = true ∧ (∀ z ∈ l.head?, nextB n x z = true) ∧ Ord n l
theorem ordB_iff (n : Int) (l : List Itv) : ordB n l = true ↔ ∀ k, k < l.length → okAt n l k = true := by
  unfold ordB
  rw [List.all_eq_true]
  exact ⟨fun h k hk => h k (List.mem_range.2 hk), fun h k hk => h k (List.mem_range.1 hk)⟩
theorem ord_of : ∀ {n : Int} {l : List Itv}, (∀ k, k < l.length → okAt n l k = true) → Ord n l
  | _, [], _ => trivial
  | n, [x], h => by
    have h0 := h 0 (by simp)
    unfold okAt at h0
    simp at h0
    exact ⟨h0, ⟨(fun z hz => by cases hz), trivial⟩⟩
  | n, x :: y :: l, h => by
    have h0 := h 0 (by simp)
    have h1 := h 1 (by simp)
    unfold okAt at h0 h1
    simp at h0 h1
    refine ⟨h0, fun z hz => ?_, ord_of (fun k hk => ?_)⟩
    · simp at hz; subst hz; exact h1.2
    · have h2 := h (k + 1) (by simp at hk ⊢; omega)
      unfold okAt at h2 ⊢
      rcases k with _ | k
      · simp at h2 ⊢; exact h2.1
      · simp at h2 ⊢; exact h2
theorem to_ord : ∀ {n : Int} {l : List Itv}, Ord n l → ∀ k, k < l.length → okAt n l k = true
  | _, [], _, k, hk => by simp at hk
  | n, x :: l, h, 0, _ => by unfold okAt; simp; exact h.1
  | n, x :: l, h, k + 1, hk => by
    have ih := to_ord h.2.2 k (by simp at hk; omega)
    unfold okAt at ih ⊢
    rcases k with _ | k
    · simp at ih ⊢
      rcases l with _ | ⟨y, l⟩
      · simp at hk
      · exact ⟨by simpa using ih, h.2.1 y (by simp)⟩
    · simp at ih ⊢; exact ih

/-! the cuts of a list of intervals -/
def cutsOf : List Itv → List Cut
  | [] => []
  | x :: l => (if x.lk = 0 then [] else [x.low]) ++ ((if x.hk = 0 then [] else [x.high]) ++ cutsOf l)
/-- whether the least versions are in -/
def firstB (l : List Itv) : Bool := l.any fun x => decide (x.lk = 0)
/-- the interval between two cuts -/
def mkI (a b : Option Cut) : Itv :=
  ⟨(match a with | none => [] | some c => c.1), (match a with | none => 0 | some c => if c.2 then 2 else 1), (match b with | none => [] | some c => c.1), (match b with | none => 0 | some c => if c.2 then 1 else 2)⟩
def ofC : Option (Option Cut) → List Cut → List Itv
  | none, [] => []
  | some a, [] => [mkI a none]
  | none, c :: l => ofC (some (some c)) l
  | some a, c :: l => mkI a (some c) :: ofC none l
def start (x : Bool) : Option (Option Cut) := if x then some none else none

theorem boundB_no {n : Int} {v : Bs} {k : Int} (h : boundB n v k = true) (hk : k = 0) : v = [] := by
  unfold boundB at h
  rw [if_pos hk] at h
  simpa using h
theorem boundB_yes {n : Int} {v : Bs} {k : Int} (h : boundB n v k = true) (hk : k ≠ 0) : (k = 1 ∨ k = 2) ∧ valid n v = true := by
  unfold boundB at h
  rw [if_neg hk, Bool.and_eq_true, Bool.or_eq_true] at h
  exact ⟨by simpa using h.1, h.2⟩

/-- what stands in a valid list: its head's cut first -/
def lowO (x : Itv) : Option Cut := if x.lk = 0 then none else some x.low
def highO (x : Itv) : Option Cut := if x.hk = 0 then none else some x.high
theorem mkI_self {n : Int} {x : Itv} (h : boundsB n x = true) : mkI (lowO x) (highO x) = x := by
  unfold boundsB at h
  rw [Bool.and_eq_true] at h
  obtain ⟨a, b, c, d⟩ := x
  have h1 : (match lowO ⟨a, b, c, d⟩ with | none => ([] : Bs) | some c => c.1) = a ∧ (match lowO ⟨a, b, c, d⟩ with | none => (0 : Int) | some c => if c.2 then 2 else 1) = b := by
    unfold lowO Itv.low
    by_cases h0 : b = 0
    · subst h0
      rw [if_pos rfl]
      exact ⟨(boundB_no h.1 rfl).symm, rfl⟩
    · rw [if_neg h0]
      rcases (boundB_yes h.1 h0).1 with rfl | rfl <;> exact ⟨rfl, rfl⟩
  have h2 : (match highO ⟨a, b, c, d⟩ with | none => ([] : Bs) | some c => c.1) = c ∧ (match highO ⟨a, b, c, d⟩ with | none => (0 : Int) | some c => if c.2 then 1 else 2) = d := by
    unfold highO Itv.high
    by_cases h0 : d = 0
    · subst h0
      rw [if_pos rfl]
      exact ⟨(boundB_no h.2 rfl).symm, rfl⟩
    · rw [if_neg h0]
      rcases (boundB_yes h.2 h0).1 with rfl | rfl <;> exact ⟨rfl, rfl⟩
  unfold mkI
  rw [h1.1, h1.2, h2.1, h2.2]

theorem cutsOf_cons (x : Itv) (l : List Itv) : cutsOf (x :: l) = (lowO x).toList ++ ((highO x).toList ++ cutsOf l) := by
  unfold lowO highO
  rw [cutsOf]
  split <;> split <;> rfl
theorem ofC_some (a b : Option Cut) (hb : b ≠ none) (l : List Cut) : ofC (some a) (b.toList ++ l) = mkI a b :: ofC none l := by
  rcases b with _ | c
  · exact absurd rfl hb
  · rfl

/-- behind an interval with an end no interval begins before all -/
theorem ord_later : ∀ {n : Int} {l : List Itv}, Ord n l → (∀ z ∈ l.head?, z.lk ≠ 0) → firstB l = false
  | _, [], _, _ => rfl
  | n, x :: l, h, hx => by
    have h0 : x.lk ≠ 0 := hx x (by simp)
    have ih := ord_later h.2.2 (fun z hz => by
      have := h.2.1 z hz
      unfold nextB at this
      simp at this
      exact this.2.1)
    unfold firstB at ih ⊢
    rw [List.any_cons, ih]
    simpa using h0
theorem norm : ∀ {n : Int} {l : List Itv}, Ord n l → (∀ x ∈ l, boundsB n x = true) → ofC (start (firstB l)) (cutsOf l) = l
  | _, [], _, _ => rfl
  | n, x :: l, h, hb => by
    have hl : firstB l = false := by
      refine ord_later h.2.2 (fun z hz => ?_)
      have := h.2.1 z hz
      unfold nextB at this
      simp at this
      exact this.2.1
    have ih := norm h.2.2 (fun y hy => hb y (by simp [hy]))
    rw [hl] at ih
    have hs := mkI_self (hb x (by simp))
    have hf : firstB (x :: l) = decide (x.lk = 0) := by
      unfold firstB at hl ⊢
      rw [List.any_cons, hl, Bool.or_false]
    rw [hf, cutsOf_cons]
    have key : ofC (some (lowO x)) ((highO x).toList ++ cutsOf l) = x :: l := by
      by_cases hk : x.hk = 0
      · have : l = [] := by
          rcases l with _ | ⟨z, l⟩
          · rfl
          · have := h.2.1 z (by simp)
            unfold nextB at this
            simp [hk] at this
        subst this
        have ho : highO x = none := by unfold highO; rw [if_pos hk]
        rw [ho] at hs ⊢
        show [mkI (lowO x) none] = [x]
        rw [hs]
      · have ho : highO x ≠ none := by unfold highO; rw [if_neg hk]; simp
        rw [ofC_some _ _ ho, hs]
        exact congrArg (x :: ·) ih
    by_cases hk : x.lk = 0
    · have ho : lowO x = none := by unfold lowO; rw [if_pos hk]
      rw [ho] at key ⊢
      rw [hk]
      exact key
    · have ho : lowO x = some x.low := by unfold lowO; rw [if_neg hk]
      rw [ho] at key ⊢
      rw [decide_eq_false hk]
      exact key

/-- the other way -/
theorem cuts_ofC : ∀ (o : Option (Option Cut)) (l : List Cut), cutsOf (ofC o l) = (match o with | some (some c) => [c] | _ => []) ++ l
  | none, [] => rfl
  | some none, [] => rfl
  | some (some c), [] => by
    obtain ⟨a, b⟩ := c
    cases b <;> rfl
  | none, c :: l => by
    have := cuts_ofC (some (some c)) l
    exact this
  | some none, c :: l => by
    have ih := cuts_ofC none l
    show cutsOf (mkI none (some c) :: ofC none l) = c :: l
    rw [cutsOf_cons, ih]
    obtain ⟨a, b⟩ := c
    cases b <;> rfl
  | some (some d), c :: l => by
    have ih := cuts_ofC none l
    show cutsOf (mkI (some d) (some c) :: ofC none l) = d :: c :: l
    rw [cutsOf_cons, ih]
    obtain ⟨a, b⟩ := c
    obtain ⟨a', b'⟩ := d
    cases b <;> cases b' <;> rfl
theorem cuts_start (x : Bool) (l : List Cut) : cutsOf (ofC (start x) l) = l := by
  rw [cuts_ofC]
  cases x <;> rfl
theorem len_ofC : ∀ (o : Option (Option Cut)) (l : List Cut), (ofC o l).length ≤ l.length + 1
  | none, [] => by simp [ofC]
  | some a, [] => by simp [ofC]
  | none, c :: l => by have := len_ofC (some (some c)) l; simp only [ofC, List.length_cons]; omega
  | some a, c :: l => by have := len_ofC none l; simp only [ofC, List.length_cons]; omega

theorem low_mk (c : Cut) (b : Option Cut) : (mkI (some c) b).low = c := by
  obtain ⟨a, s⟩ := c
  cases s <;> rfl
theorem high_mk (c : Cut) (a : Option Cut) : (mkI a (some c)).high = c := by
  obtain ⟨v, s⟩ := c
  cases s <;> rfl
theorem lk_mk (c : Cut) (b : Option Cut) : (mkI (some c) b).lk ≠ 0 := by
  obtain ⟨a, s⟩ := c
  cases s <;> simp [mkI]
theorem hk_mk (c : Cut) (a : Option Cut) : (mkI a (some c)).hk ≠ 0 := by
  obtain ⟨v, s⟩ := c
  cases s <;> simp [mkI]
theorem bounds_mk {n : Int} {a b : Option Cut} (ha : ∀ c ∈ a, valid n c.1 = true) (hb : ∀ c ∈ b, valid n c.1 = true) : boundsB n (mkI a b) = true := by
  unfold boundsB mkI boundB
  rw [Bool.and_eq_true]
  constructor
  · rcases a with _ | ⟨v, s⟩
    · rfl
    · have := ha (v, s) (by simp)
      cases s <;> simpa using this
  · rcases b with _ | ⟨v, s⟩
    · rfl
    · have := hb (v, s) (by simp)
      cases s <;> simpa using this
theorem ofC_bounds {n : Int} : ∀ (o : Option (Option Cut)) (l : List Cut), (∀ a ∈ o, ∀ c ∈ a, valid n c.1 = true) → okAll n l → ∀ x ∈ ofC o l, boundsB n x = true
  | none, [], _, _, x, hx => by simp [ofC] at hx
  | some a, [], h, _, x, hx => by
    simp [ofC] at hx
    subst hx
    exact bounds_mk (h a (by simp)) (fun c hc => by cases hc)
  | none, c :: l, _, hl, x, hx => ofC_bounds (some (some c)) l (fun a ha d hd => by
      simp at ha
      subst ha
      simp at hd
      subst hd
      exact hl _ (by simp)) (fun d hd => hl d (by simp [hd])) x hx
  | some a, c :: l, h, hl, x, hx => by
    rcases List.mem_cons.1 (show x ∈ mkI a (some c) :: ofC none l from hx) with rfl | hx
    · exact bounds_mk (h a (by simp)) (fun d hd => by simp at hd; subst hd; exact hl _ (by simp))
    · exact ofC_bounds none l (fun a ha => by cases ha) (fun d hd => hl d (by simp [hd])) x hx
theorem plt_cutC {n : Int} (hn : scheme n = true) {c d : Cut} (hc : valid n c.1 = true) (hd : valid n d.1 = true) : cutC n c d < 0 ↔ plt (pos n c) (pos n d) := by
  rw [cutC_pos hn hc hd]
  exact Iff.rfl
theorem head_none {_n : Int} {_c : Cut} : ∀ {l : List Cut}, ∀ z ∈ (ofC none l).head?, ∃ d m, l = d :: m ∧ z.low = d ∧ z.lk ≠ 0
  | [], z, hz => by simp [ofC] at hz
  | [d], z, hz => by
    simp [ofC] at hz
    subst hz
    exact ⟨d, [], rfl, low_mk d _, lk_mk d _⟩
  | d :: e :: m, z, hz => by
    simp [ofC] at hz
    subst hz
    exact ⟨d, e :: m, rfl, low_mk d _, lk_mk d _⟩
/-- ascending cuts make intervals in order -/
theorem ofC_ord {n : Int} (hn : scheme n = true) : ∀ (o : Option (Option Cut)) (l : List Cut), (∀ a ∈ o, ∀ c ∈ a, valid n c.1 = true ∧ ∀ d ∈ l, plt (pos n c) (pos n d)) → okAll n l → asc (poss n l) → Ord n (ofC o l)
  | none, [], _, _, _ => trivial
  | some a, [], _, _, _ => ⟨by unfold insideB; simp [mkI], fun z hz => by simp at hz, trivial⟩
  | none, c :: l, _, hl, al => by
    obtain ⟨a1, a2⟩ := List.pairwise_cons.1 (show asc (pos n c :: poss n l) from al)
    exact ofC_ord hn (some (some c)) l (fun a ha d hd => by
      simp at ha
      subst ha
      simp at hd
      subst hd
      exact ⟨hl _ (by simp), fun e he => a1 _ (List.mem_map.2 ⟨e, he, rfl⟩)⟩) (fun d hd => hl d (by simp [hd])) a2
  | some a, c :: l, h, hl, al => by
    obtain ⟨a1, a2⟩ := List.pairwise_cons.1 (show asc (pos n c :: poss n l) from al)
    have hc := hl c (by simp)
    refine ⟨?_, fun z hz => ?_, ofC_ord hn none l (fun a ha => by cases ha) (fun d hd => hl d (by simp [hd])) a2⟩
    · unfold insideB
      rcases a with _ | d
      · simp [mkI]
      · obtain ⟨h1, h2⟩ := h (some d) (by simp) d (by simp)
        rw [low_mk, high_mk, decide_eq_true ((plt_cutC hn h1 hc).2 (h2 c (by simp)))]
        simp
    · obtain ⟨d, m, rfl, e1, e2⟩ := head_none (_n := n) (_c := c) z hz
      unfold nextB
      rw [high_mk, e1, decide_eq_true ((plt_cutC hn hc (hl d (by simp))).2 (a1 _ (by simp [poss]))), decide_eq_false (hk_mk c a), decide_eq_false e2]
      rfl
theorem okR_of {n : Int} (hn : scheme n = true) {x : Bool} {l : List Cut} (hl : okAll n l) (al : asc (poss n l)) (hlen : (ofC (start x) l).length ≤ 32) : okR n (ofC (start x) l) = true := by
  have hs : ∀ a ∈ start x, ∀ c ∈ a, valid n c.1 = true ∧ ∀ d ∈ l, plt (pos n c) (pos n d) := fun a ha c hc => by
    cases x
    · cases ha
    · simp [start] at ha
      subst ha
      cases hc
  unfold okR
  rw [hn, decide_eq_true hlen, List.all_eq_true.2 (ofC_bounds _ _ (fun a ha c hc => (hs a ha c hc).1) hl), (ordB_iff _ _).2 (to_ord (ofC_ord hn _ _ hs hl al))]
  rfl

/-! of a valid list -/
structure Ok (n : Int) (l : List Itv) : Prop where
  sch : scheme n = true
  len : l.length ≤ 32
  bnd : ∀ x ∈ l, boundsB n x = true
  ord : Ord n l
theorem ok_of {n : Int} {l : List Itv} (h : okR n l = true) : Ok n l := by
  unfold okR at h
  rw [Bool.and_eq_true, Bool.and_eq_true, Bool.and_eq_true, List.all_eq_true] at h
  exact ⟨h.1, by simpa using h.2.1, h.2.2.1, ord_of ((ordB_iff _ _).1 h.2.2.2)⟩
theorem of_ok {n : Int} {l : List Itv} (h : Ok n l) : okR n l = true := by
  unfold okR
  rw [h.sch, decide_eq_true h.len, List.all_eq_true.2 h.bnd, (ordB_iff _ _).2 (to_ord h.ord)]
  rfl
theorem Ok.norm {n : Int} {l : List Itv} (h : Ok n l) : ofC (start (firstB l)) (cutsOf l) = l := V.norm h.ord h.bnd
theorem low_valid {n : Int} {x : Itv} (h : boundsB n x = true) (hk : x.lk ≠ 0) : valid n x.low.1 = true := by
  unfold boundsB at h
  rw [Bool.and_eq_true] at h
  exact (boundB_yes h.1 hk).2
theorem high_valid {n : Int} {x : Itv} (h : boundsB n x = true) (hk : x.hk ≠ 0) : valid n x.high.1 = true := by
  unfold boundsB at h
  rw [Bool.and_eq_true] at h
  exact (boundB_yes h.2 hk).2
theorem cuts_ok : ∀ {n : Int} {l : List Itv}, (∀ x ∈ l, boundsB n x = true) → okAll n (cutsOf l)
  | _, [], _, c, hc => by simp [cutsOf] at hc
  | n, x :: l, h, c, hc => by
    rw [cutsOf, List.mem_append, List.mem_append] at hc
    rcases hc with hc | hc | hc
    · split at hc
      · cases hc
      · rw [List.mem_singleton] at hc
        subst hc
        exact low_valid (h x (by simp)) ‹_›
    · split at hc
      · cases hc
      · rw [List.mem_singleton] at hc
        subst hc
        exact high_valid (h x (by simp)) ‹_›
    · exact cuts_ok (fun y hy => h y (by simp [hy])) c hc
/-- all cuts of a list in order that begins behind c are behind c -/
theorem cuts_asc {n : Int} (hn : scheme n = true) : ∀ {l : List Itv}, (∀ x ∈ l, boundsB n x = true) → Ord n l → asc (poss n (cutsOf l)) ∧ ∀ p, (∀ z ∈ l.head?, z.lk ≠ 0 ∧ plt p (pos n z.low)) → ∀ q ∈ poss n (cutsOf l), plt p q
  | [], _, _ => ⟨List.Pairwise.nil, fun p _ q hq => by simp [poss, cutsOf] at hq⟩
  | x :: l, hb, ho => by
    obtain ⟨i1, i2⟩ := cuts_asc hn (fun y hy => hb y (by simp [hy])) ho.2.2
    have hbx := hb x (by simp)
    have hhi : x.hk ≠ 0 → ∀ q ∈ poss n (cutsOf l), plt (pos n x.high) q := fun hk q hq => i2 _ (fun z hz => by
      have h1 := ho.2.1 z hz
      unfold nextB at h1
      simp only [Bool.and_eq_true, Bool.not_eq_true', decide_eq_false_iff_not, decide_eq_true_eq] at h1
      have hz' : z ∈ l := by
        rcases l with _ | ⟨y, l⟩
        · cases hz
        · simp at hz; simp [hz]
      exact ⟨h1.2.1, (plt_cutC hn (high_valid hbx hk) (low_valid (hb z (by simp [hz'])) h1.2.1)).1 h1.2.2⟩) q hq
    have hnil : x.hk = 0 → l = [] := fun hk => by
      rcases l with _ | ⟨z, l⟩
      · rfl
      · have := ho.2.1 z (by simp)
        unfold nextB at this
        simp [hk] at this
    have hin : x.lk ≠ 0 → x.hk ≠ 0 → plt (pos n x.low) (pos n x.high) := fun h1 h2 => by
      have := ho.1
      unfold insideB at this
      simp only [Bool.or_eq_true, decide_eq_true_eq] at this
      rcases this with h | h | h
      · exact absurd h h1
      · exact absurd h h2
      · exact (plt_cutC hn (low_valid hbx h1) (high_valid hbx h2)).1 h
    have htail : asc (poss n ((if x.hk = 0 then [] else [x.high]) ++ cutsOf l)) := by
      by_cases hk : x.hk = 0
      · rw [if_pos hk]
        exact i1
      · rw [if_neg hk]
        exact List.pairwise_cons.2 ⟨hhi hk, i1⟩
    have hlow : x.lk ≠ 0 → ∀ q ∈ poss n ((if x.hk = 0 then [] else [x.high]) ++ cutsOf l), plt (pos n x.low) q := fun h1 q hq => by
      by_cases hk : x.hk = 0
      · rw [if_pos hk, hnil hk] at hq
        simp [poss, cutsOf] at hq
      · rw [if_neg hk] at hq
        rcases List.mem_cons.1 (show q ∈ pos n x.high :: poss n (cutsOf l) from hq) with rfl | hq
        · exact hin h1 hk
        · exact plt_trans (hin h1 hk) (hhi hk q hq)
    rw [cutsOf]
    by_cases hk : x.lk = 0
    · rw [if_pos hk]
      exact ⟨htail, fun p hp => absurd hk (hp x (by simp)).1⟩
    · rw [if_neg hk]
      refine ⟨List.pairwise_cons.2 ⟨hlow hk, htail⟩, fun p hp q hq => ?_⟩
      have hpx := (hp x (by simp)).2
      rcases List.mem_cons.1 (show q ∈ pos n x.low :: poss n _ from hq) with rfl | hq
      · exact hpx
      · exact plt_trans hpx (hlow hk q hq)
theorem Ok.cuts {n : Int} {l : List Itv} (h : Ok n l) : okAll n (cutsOf l) := cuts_ok h.bnd
theorem Ok.asc {n : Int} {l : List Itv} (h : Ok n l) : asc (poss n (cutsOf l)) := (cuts_asc h.sch h.bnd h.ord).1
theorem cutsOf_len : ∀ l : List Itv, (cutsOf l).length ≤ 2 * l.length
  | [] => by simp [cutsOf]
  | x :: l => by
    have := cutsOf_len l
    rw [cutsOf, List.length_append, List.length_append, List.length_cons]
    split <;> split <;> simp <;> omega

/-- what lies just behind q is in the set -/
def inS (n : Int) (l : List Itv) (q : Pos) : Bool := mem (firstB l) (poss n (cutsOf l)) q
def inI (n : Int) (q : Pos) (x : Itv) : Bool := (decide (x.lk = 0) || !decide (plt q (pos n x.low))) && (decide (x.hk = 0) || decide (plt q (pos n x.high)))
theorem inS_any {n : Int} (hn : scheme n = true) (q : Pos) : ∀ {l : List Itv}, (∀ x ∈ l, boundsB n x = true) → Ord n l → inS n l q = l.any (inI n q)
  | [], _, _ => rfl
  | x :: l, hb, ho => by
    have ih := inS_any hn q (fun y hy => hb y (by simp [hy])) ho.2.2
    have hca := cuts_asc hn hb ho
    have hca2 := (cuts_asc hn (fun y hy => hb y (by simp [hy])) ho.2.2).2
    have hl : firstB l = false := by
      refine ord_later ho.2.2 (fun z hz => ?_)
      have := ho.2.1 z hz
      unfold nextB at this
      simp at this
      exact this.2.1
    have hf : firstB (x :: l) = decide (x.lk = 0) := by
      unfold firstB at hl ⊢
      rw [List.any_cons, hl, Bool.or_false]
    unfold inS at ih ⊢
    rw [hl] at ih
    rw [hf, List.any_cons, ← ih, cutsOf]
    have hbx := hb x (by simp)
    have hhi : x.hk ≠ 0 → ∀ q ∈ poss n (cutsOf l), plt (pos n x.high) q := fun hk q hq => hca2 _ (fun z hz => by
      have h1 := ho.2.1 z hz
      unfold nextB at h1
      simp only [Bool.and_eq_true, Bool.not_eq_true', decide_eq_false_iff_not, decide_eq_true_eq] at h1
      have hz' : z ∈ l := by
        rcases l with _ | ⟨y, l⟩
        · cases hz
        · simp at hz; simp [hz]
      exact ⟨h1.2.1, (plt_cutC hn (high_valid hbx hk) (low_valid (hb z (by simp [hz'])) h1.2.1)).1 h1.2.2⟩) q hq
    have hnil : x.hk = 0 → l = [] := fun hk => by
      rcases l with _ | ⟨z, l⟩
      · rfl
      · have := ho.2.1 z (by simp)
        unfold nextB at this
        simp [hk] at this
    have tail : mem true (poss n ((if x.hk = 0 then [] else [x.high]) ++ cutsOf l)) q = ((decide (x.hk = 0) || decide (plt q (pos n x.high))) || mem false (poss n (cutsOf l)) q) := by
      by_cases hk : x.hk = 0
      · rw [if_pos hk, hnil hk, decide_eq_true hk]
        rfl
      · rw [if_neg hk, decide_eq_false hk]
        show mem true (pos n x.high :: poss n (cutsOf l)) q = _
        rw [mem_cons]
        by_cases hq : plt q (pos n x.high)
        · rw [if_pos hq, decide_eq_true hq]
          rfl
        · rw [if_neg hq, decide_eq_false hq]
          rfl
    by_cases hk : x.lk = 0
    · rw [if_pos hk, decide_eq_true hk, List.nil_append, tail]
      unfold inI
      rw [decide_eq_true hk, Bool.true_or, Bool.true_and]
    · rw [if_neg hk, decide_eq_false hk]
      show mem false (pos n x.low :: poss n _) q = _
      rw [mem_cons]
      unfold inI
      by_cases hq : plt q (pos n x.low)
      · rw [if_pos hq, decide_eq_false hk, decide_eq_true hq]
        have : mem false (poss n (cutsOf l)) q = false := mem_lt (fun p hp => by
          by_cases hh : x.hk = 0
          · rw [hnil hh] at hp
            simp [poss, cutsOf] at hp
          · have hin : plt (pos n x.low) (pos n x.high) := by
              have := ho.1
              unfold insideB at this
              simp only [Bool.or_eq_true, decide_eq_true_eq] at this
              rcases this with h | h | h
              · exact absurd h hk
              · exact absurd h hh
              · exact (plt_cutC hn (low_valid hbx hk) (high_valid hbx hh)).1 h
            exact plt_trans hq (plt_trans hin (hhi hh p hp)))
        rw [this]
        rfl
      · rw [if_neg hq, decide_eq_false hk, decide_eq_false hq]
        show mem true (poss n ((if x.hk = 0 then [] else [x.high]) ++ cutsOf l)) q = _
        rw [tail]
        rfl
end Go.Proofs.YtpjjkbdkgaehkaaGreatDoor.V
namespace Go.Proofs.YtpjjkbdkgaehkaaGreatDoor.V

/-- of the strings of all cuts of L that lie where c lies the least one is c's -/
def Least (n : Int) (L : List Cut) (c : Cut) : Prop := c ∈ L ∧ ∀ d ∈ L, pos n d = pos n c → ¬ cb d.1 c.1 < 0
theorem cb_lt_eq {a b : Bs} (h1 : ¬ cb a b < 0) (h2 : ¬ cb b a < 0) : a = b := by
  have := cb_anti a b
  exact cb_eq (by omega)
theorem cb_nlt {a b c : Bs} (h1 : ¬ cb a b < 0) (h2 : ¬ cb b c < 0) : ¬ cb a c < 0 := by
  have e1 := cb_anti a b
  have e2 := cb_anti b c
  have e3 := cb_anti a c
  have := cb_trans c b a (by omega) (by omega)
  omega
theorem least_one {n : Int} {L : List Cut} {c d : Cut} (hc : Least n L c) (hd : Least n L d) (h : pos n c = pos n d) : c = d := by
  have h1 := hc.2 d hd.1 h.symm
  have h2 := hd.2 c hc.1 h
  have h3 := cb_lt_eq h2 h1
  have h4 : c.2 = d.2 := by have := congrArg Prod.snd h; exact this
  exact Prod.ext h3 h4
theorem least_lists {n : Int} {L : List Cut} : ∀ {R S : List Cut}, poss n R = poss n S → (∀ c ∈ R, Least n L c) → (∀ c ∈ S, Least n L c) → R = S
  | [], [], _, _, _ => rfl
  | [], _ :: _, h, _, _ => by simp [poss] at h
  | _ :: _, [], h, _, _ => by simp [poss] at h
  | c :: R, d :: S, h, hr, hs => by
    have h1 : pos n c = pos n d ∧ poss n R = poss n S := by simpa [poss] using h
    rw [least_one (hr c (by simp)) (hs d (by simp)) h1.1, least_lists h1.2 (fun e he => hr e (by simp [he])) (fun e he => hs e (by simp [he]))]

/-- one place more in front -/
theorem least_emit {n : Int} {P : Pos} {H L' : List Cut} {h : Cut} {R : List Cut} {nx now : Bool} (hH : ∀ d ∈ H, pos n d = P) (hL : ∀ p ∈ poss n L', plt P p) (hm : h ∈ H) (hmin : ∀ d ∈ H, ¬ cb d.1 h.1 < 0)
    (hR : ∀ e ∈ R, Least n L' e) {L : List Cut} (h1 : ∀ d ∈ L, d ∈ H ∨ d ∈ L') (h2 : ∀ d ∈ H, d ∈ L) (h3 : ∀ d ∈ L', d ∈ L) : ∀ e ∈ emit h nx now R, Least n L e := by
  intro e he
  rcases emit_sub he with rfl | he
  · refine ⟨h2 _ hm, fun d hd hp => ?_⟩
    rcases h1 d hd with g | g
    · exact hmin d g
    · have := hL _ (List.mem_map.2 ⟨d, g, rfl⟩)
      rw [hp, hH _ hm] at this
      exact absurd this (plt_irrefl _)
  · obtain ⟨g1, g2⟩ := hR e he
    refine ⟨h3 _ g1, fun d hd hp => ?_⟩
    rcases h1 d hd with g | g
    · have := hL _ (List.mem_map.2 ⟨e, g1, rfl⟩)
      rw [← hp, hH _ g] at this
      exact absurd this (plt_irrefl _)
    · exact g2 d g hp
theorem lesser_min (a b : Bs) : ¬ cb a (lesser a b) < 0 ∧ ¬ cb b (lesser a b) < 0 := by
  have h1 := cb_refl a
  have h2 := cb_refl b
  have h3 := cb_anti a b
  unfold lesser
  by_cases h : Lib.compareBytes b a < 0
  · rw [if_pos h]
    have : cb b a < 0 := h
    omega
  · rw [if_neg h]
    have : ¬ cb b a < 0 := h
    omega

theorem comb_least {n : Int} (hn : scheme n = true) (f : Bool → Bool → Bool) : ∀ (k : Nat) (l m : List Cut) (x y now : Bool), l.length + m.length ≤ k → okAll n l → okAll n m → asc (poss n l) → asc (poss n m) →
    ∀ c ∈ comb n f x y now l m, Least n (l ++ m) c
  | _, [], [], x, y, now, _, _, _, _, _ => by
    rw [comb]
    intro c hc
    cases hc
  | 0, _ :: _, _, _, _, _, h, _, _, _, _ => by simp at h
  | 0, [], _ :: _, _, _, _, h, _, _, _, _ => by simp at h
  | k + 1, c :: l, [], x, y, now, h, hl, hm, al, am => by
    obtain ⟨a1, a2⟩ := List.pairwise_cons.1 (show asc (pos n c :: poss n l) from al)
    have ih := comb_least hn f k l [] (!x) y (f (!x) y) (by simp at h ⊢; omega) (fun d hd => hl d (by simp [hd])) hm a2 am
    rw [comb_l]
    refine least_emit (P := pos n c) (H := [c]) (L' := l ++ []) (fun d hd => by rw [List.mem_singleton.1 hd]) (fun p hp => a1 p (by simpa using hp)) (by simp) (fun d hd => by rw [List.mem_singleton.1 hd]; have := cb_refl c.1; omega) ih ?_ ?_ ?_
    · intro d hd; simp at hd ⊢; exact hd
    · intro d hd; simp at hd ⊢; exact .inl hd
    · intro d hd; simp at hd ⊢; exact .inr hd
  | k + 1, [], d :: m, x, y, now, h, hl, hm, al, am => by
    obtain ⟨a1, a2⟩ := List.pairwise_cons.1 (show asc (pos n d :: poss n m) from am)
    have ih := comb_least hn f k [] m x (!y) (f x (!y)) (by simp at h ⊢; omega) hl (fun d hd => hm d (by simp [hd])) al a2
    rw [comb_r]
    refine least_emit (P := pos n d) (H := [d]) (L' := [] ++ m) (fun e he => by rw [List.mem_singleton.1 he]) (fun p hp => a1 p (by simpa using hp)) (by simp) (fun e he => by rw [List.mem_singleton.1 he]; have := cb_refl d.1; omega) ih ?_ ?_ ?_
    · intro e he; simp at he ⊢; exact he
    · intro e he; simp at he ⊢; exact .inl he
    · intro e he; simp at he ⊢; exact .inr he
  | k + 1, c :: l, d :: m, x, y, now, h, hl, hm, al, am => by
    obtain ⟨a1, a2⟩ := List.pairwise_cons.1 (show asc (pos n c :: poss n l) from al)
    obtain ⟨b1, b2⟩ := List.pairwise_cons.1 (show asc (pos n d :: poss n m) from am)
    have hc := hl c (by simp)
    have hd := hm d (by simp)
    have hl' : okAll n l := fun e he => hl e (by simp [he])
    have hm' : okAll n m := fun e he => hm e (by simp [he])
    have hcp := cutC_pos hn hc hd
    have pa : ∀ {L M : List Cut} {p : Pos}, p ∈ poss n (L ++ M) → p ∈ poss n L ∨ p ∈ poss n M := fun hp => by
      unfold poss at hp ⊢
      rw [List.map_append, List.mem_append] at hp
      exact hp
    rcases plt_tri (pos n c) (pos n d) with g | g | g
    · have hlt : cutC n c d < 0 := by rw [hcp]; exact g
      have ih := comb_least hn f k l (d :: m) (!x) y (f (!x) y) (by simp at h ⊢; omega) hl' hm a2 am
      rw [comb_lt hlt]
      refine least_emit (P := pos n c) (H := [c]) (L' := l ++ (d :: m)) (fun e he => by rw [List.mem_singleton.1 he]) (fun p hp => ?_) (by simp) (fun e he => by rw [List.mem_singleton.1 he]; have := cb_refl c.1; omega) ih ?_ ?_ ?_
      · rcases pa hp with hp | hp
        · exact a1 p hp
        · rcases List.mem_cons.1 (show p ∈ pos n d :: poss n m from hp) with rfl | e
          · exact g
          · exact plt_trans g (b1 p e)
      · intro e he; simp at he ⊢; exact he
      · intro e he; simp at he ⊢; exact .inl he
      · intro e he; simp at he ⊢; exact .inr he
    · have heq : cutC n c d = 0 := by rw [hcp, g]; exact cp_refl _
      have ih := comb_least hn f k l m (!x) (!y) (f (!x) (!y)) (by simp at h ⊢; omega) hl' hm' a2 b2
      rw [comb_eq heq]
      have h2 : c.2 = d.2 := by have := congrArg Prod.snd g; exact this
      have hlm := lesser_min c.1 d.1
      refine least_emit (P := pos n c) (H := [c, d]) (L' := l ++ m) (fun e he => ?_) (fun p hp => ?_) ?_ (fun e he => ?_) ih ?_ ?_ ?_
      · simp at he
        rcases he with rfl | rfl
        · rfl
        · exact g.symm
      · rcases pa hp with hp | hp
        · exact a1 p hp
        · rw [g]; exact b1 p hp
      · rcases lesser_or c.1 d.1 with e | e
        · rw [e]; simp
        · rw [e, h2]; simp
      · simp at he
        rcases he with rfl | rfl
        · exact hlm.1
        · exact hlm.2
      · intro e he
        simp at he ⊢
        rcases he with e | e | e | e
        · exact .inl (.inl e)
        · exact .inr (.inl e)
        · exact .inl (.inr e)
        · exact .inr (.inr e)
      · intro e he
        simp at he ⊢
        rcases he with e | e
        · exact .inl e
        · exact .inr (.inr (.inl e))
      · intro e he
        simp at he ⊢
        rcases he with e | e
        · exact .inr (.inl e)
        · exact .inr (.inr (.inr e))
    · have hlt : 0 < cutC n c d := by
        have g' : cp (pos n d) (pos n c) < 0 := g
        rw [hcp]; have := cp_anti (pos n d) (pos n c); omega
      have ih := comb_least hn f k (c :: l) m x (!y) (f x (!y)) (by simp at h ⊢; omega) hl hm' al b2
      rw [comb_gt hlt]
      refine least_emit (P := pos n d) (H := [d]) (L' := (c :: l) ++ m) (fun e he => by rw [List.mem_singleton.1 he]) (fun p hp => ?_) (by simp) (fun e he => by rw [List.mem_singleton.1 he]; have := cb_refl d.1; omega) ih ?_ ?_ ?_
      · rcases pa hp with hp | hp
        · rcases List.mem_cons.1 (show p ∈ pos n c :: poss n l from hp) with rfl | e
          · exact g
          · exact plt_trans g (a1 p e)
        · exact b1 p hp
      · intro e he
        simp at he ⊢
        rcases he with e | e | e | e
        · exact .inr (.inl e)
        · exact .inr (.inr (.inl e))
        · exact .inl e
        · exact .inr (.inr (.inr e))
      · intro e he
        simp at he ⊢
        exact .inr (.inr (.inl he))
      · intro e he
        simp at he ⊢
        rcases he with e | e | e
        · exact .inl e
        · exact .inr (.inl e)
        · exact .inr (.inr (.inr e))

/-- the combination of two lists of intervals, as the program computes it -/
def opL (n : Int) (f : Bool → Bool → Bool) (a b : List Itv) : List Itv :=
  ofC (start (f (firstB a) (firstB b))) (comb n f (firstB a) (firstB b) (f (firstB a) (firstB b)) (cutsOf a) (cutsOf b))
theorem opL_comb {n : Int} (f : Bool → Bool → Bool) {a b : List Itv} (ha : Ok n a) (hb : Ok n b) : CombOk n f (firstB a) (firstB b) (cutsOf a) (cutsOf b) (comb n f (firstB a) (firstB b) (f (firstB a) (firstB b)) (cutsOf a) (cutsOf b)) :=
  comb_ok ha.sch f _ _ _ _ _ (Nat.le_refl _) ha.cuts hb.cuts ha.asc hb.asc
theorem opL_ok {n : Int} (f : Bool → Bool → Bool) {a b : List Itv} (ha : Ok n a) (hb : Ok n b) (h : (opL n f a b).length ≤ 32) : Ok n (opL n f a b) :=
  ok_of (okR_of ha.sch (opL_comb f ha hb).ok (opL_comb f ha hb).asc h)
theorem opL_len {n : Int} (f : Bool → Bool → Bool) {a b : List Itv} (ha : Ok n a) (hb : Ok n b) : (opL n f a b).length ≤ 129 := by
  have h1 := (opL_comb f ha hb).len
  have h2 := cutsOf_len a
  have h3 := cutsOf_len b
  have h4 := len_ofC (start (f (firstB a) (firstB b))) (comb n f (firstB a) (firstB b) (f (firstB a) (firstB b)) (cutsOf a) (cutsOf b))
  have h5 := ha.len
  have h6 := hb.len
  unfold opL
  omega

/-! the reference's cuts: with an end before all and one behind all -/
structure Ec where
  e : Int
  v : Bs
  s : Int
def ebot : Ec := ⟨-1, [], 0⟩
def etop : Ec := ⟨1, [], 0⟩
def eat (c : Cut) : Ec := ⟨0, c.1, if c.2 then 1 else 0⟩
def ecmp (n : Int) (a b : Ec) : Int := if a.e ≠ b.e ∨ a.e ≠ 0 then a.e - b.e else if cmpV n a.v b.v ≠ 0 then cmpV n a.v b.v else a.s - b.s
def eLow (x : Itv) : Ec := if x.lk = 1 then ⟨0, x.lo, 0⟩ else if x.lk = 2 then ⟨0, x.lo, 1⟩ else ebot
def eHigh (x : Itv) : Ec := if x.hk = 1 then ⟨0, x.hi, 1⟩ else if x.hk = 2 then ⟨0, x.hi, 0⟩ else etop
theorem ecmp_at (n : Int) (c d : Cut) : ecmp n (eat c) (eat d) = cutC n c d := by
  obtain ⟨a, s⟩ := c
  obtain ⟨b, t⟩ := d
  unfold ecmp eat cutC
  simp only [ne_eq, not_true, or_self, if_false]
  by_cases h : cmpV n a b = 0
  · rw [if_neg (by simp [h])]
    cases s <;> cases t <;> simp [h]
  · rw [if_pos h, if_pos (.inl h)]
theorem eLow_no {x : Itv} (h : x.lk = 0) : eLow x = ebot := by unfold eLow; rw [if_neg (by omega), if_neg (by omega)]
theorem eHigh_no {x : Itv} (h : x.hk = 0) : eHigh x = etop := by unfold eHigh; rw [if_neg (by omega), if_neg (by omega)]
theorem eLow_at {n : Int} {x : Itv} (h : boundsB n x = true) (hk : x.lk ≠ 0) : eLow x = eat x.low := by
  unfold boundsB at h
  rw [Bool.and_eq_true] at h
  unfold eLow eat Itv.low
  rcases (boundB_yes h.1 hk).1 with e | e <;> simp [e]
theorem eHigh_at {n : Int} {x : Itv} (h : boundsB n x = true) (hk : x.hk ≠ 0) : eHigh x = eat x.high := by
  unfold boundsB at h
  rw [Bool.and_eq_true] at h
  unfold eHigh eat Itv.high
  rcases (boundB_yes h.2 hk).1 with e | e <;> simp [e]

/-- a cut laid into an ascending list -/
def radd (n : Int) (x : Ec) : List Ec → List Ec
  | [] => [x]
  | y :: l => if ecmp n y x < 0 then y :: radd n x l else if ecmp n y x = 0 then (if cb y.v x.v < 0 then y else x) :: l else x :: y :: l
def addI (n : Int) (l : List Ec) (x : Itv) : List Ec := radd n (eHigh x) (radd n (eLow x) l)
def rcuts (n : Int) (a b : List Itv) : List Ec := (a ++ b).foldl (addI n) [ebot, etop]
def coversB (n : Int) (l : List Itv) (a b : Ec) : Bool := l.any fun x => decide (ecmp n (eLow x) a ≤ 0) && decide (ecmp n b (eHigh x) ≤ 0)
def btw (a b : Ec) : Itv := ⟨if a.e = 0 then a.v else [], if a.e = 0 then 1 + a.s else 0, if b.e = 0 then b.v else [], if b.e = 0 then 2 - b.s else 0⟩
def rrun (h : Ec → Ec → Bool) : Option Ec → List Ec → List Itv
  | _, [] => []
  | none, [_] => []
  | some f, [e] => [btw f e]
  | none, e :: e' :: l => if h e e' then rrun h (some e) (e' :: l) else rrun h none (e' :: l)
  | some f, e :: e' :: l => if h e e' then rrun h (some f) (e' :: l) else btw f e :: rrun h none (e' :: l)
def opR (n : Int) (f : Bool → Bool → Bool) (a b : List Itv) : List Itv := rrun (fun x y => f (coversB n a x y) (coversB n b x y)) none (rcuts n a b)

/-! its list of cuts -/
def cins (n : Int) (c : Cut) : List Cut → List Cut
  | [] => [c]
  | d :: l => if cutC n d c < 0 then d :: cins n c l else if cutC n d c = 0 then (if cb d.1 c.1 < 0 then d else c) :: l else c :: d :: l
def ends (C : List Cut) : List Ec := ebot :: (C.map eat ++ [etop])
theorem radd_tail (n : Int) (c : Cut) : ∀ C : List Cut, radd n (eat c) (C.map eat ++ [etop]) = (cins n c C).map eat ++ [etop]
  | [] => rfl
  | d :: C => by
    have ih := radd_tail n c C
    show radd n (eat c) (eat d :: (C.map eat ++ [etop])) = _
    unfold radd cins
    rw [ecmp_at]
    by_cases h : cutC n d c < 0
    · rw [if_pos h, if_pos h, ih]
      rfl
    · rw [if_neg h, if_neg h]
      by_cases h0 : cutC n d c = 0
      · rw [if_pos h0, if_pos h0]
        show (if cb d.1 c.1 < 0 then eat d else eat c) :: _ = _
        by_cases h1 : cb d.1 c.1 < 0
        · rw [if_pos h1, if_pos h1]; rfl
        · rw [if_neg h1, if_neg h1]; rfl
      · rw [if_neg h0, if_neg h0]
        rfl
theorem radd_at (n : Int) (c : Cut) (C : List Cut) : radd n (eat c) (ends C) = ends (cins n c C) := by
  unfold ends
  rw [radd, if_pos (show ecmp n ebot (eat c) < 0 by unfold ecmp ebot eat; simp), radd_tail]
theorem radd_bot (n : Int) (C : List Cut) : radd n ebot (ends C) = ends C := by
  unfold ends
  rw [radd]
  rfl
theorem radd_top_tail (n : Int) : ∀ C : List Cut, radd n etop (C.map eat ++ [etop]) = C.map eat ++ [etop]
  | [] => rfl
  | d :: C => by
    show radd n etop (eat d :: (C.map eat ++ [etop])) = _
    rw [radd, if_pos (show ecmp n (eat d) etop < 0 by unfold ecmp eat etop; simp), radd_top_tail n C]
    rfl
theorem radd_top (n : Int) (C : List Cut) : radd n etop (ends C) = ends C := by
  unfold ends
  rw [radd, if_pos (show ecmp n ebot etop < 0 by unfold ecmp ebot etop; simp), radd_top_tail]
theorem addI_ends {n : Int} {x : Itv} (h : boundsB n x = true) (C : List Cut) : addI n (ends C) x = ends ((cutsOf [x]).foldl (fun C c => cins n c C) C) := by
  unfold addI cutsOf
  by_cases h1 : x.lk = 0 <;> by_cases h2 : x.hk = 0
  · rw [eLow_no h1, eHigh_no h2, radd_bot, radd_top, if_pos h1, if_pos h2]; rfl
  · rw [eLow_no h1, eHigh_at h h2, radd_bot, radd_at, if_pos h1, if_neg h2]; rfl
  · rw [eLow_at h h1, eHigh_no h2, radd_at, radd_top, if_neg h1, if_pos h2]; rfl
  · rw [eLow_at h h1, eHigh_at h h2, radd_at, radd_at, if_neg h1, if_neg h2]; rfl
theorem foldl_ends {n : Int} : ∀ {l : List Itv} (C : List Cut), (∀ x ∈ l, boundsB n x = true) → l.foldl (addI n) (ends C) = ends ((cutsOf l).foldl (fun C c => cins n c C) C)
  | [], C, _ => rfl
  | x :: l, C, h => by
    have ih := foldl_ends (l := l) ((cutsOf [x]).foldl (fun C c => cins n c C) C) (fun y hy => h y (by simp [hy]))
    rw [List.foldl_cons, addI_ends (h x (by simp)), ih, ← List.foldl_append]
    rw [show cutsOf (x :: l) = cutsOf [x] ++ cutsOf l by simp only [cutsOf, List.append_nil, List.append_assoc]]
theorem cutsOf_app : ∀ a b : List Itv, cutsOf (a ++ b) = cutsOf a ++ cutsOf b
  | [], b => rfl
  | x :: a, b => by rw [List.cons_append, cutsOf, cutsOf, cutsOf_app a b, List.append_assoc, List.append_assoc]

/-- what the list of cuts is -/
structure Sorted (n : Int) (L C : List Cut) : Prop where
  asc : asc (poss n C)
  least : ∀ c ∈ C, Least n L c
  all : ∀ d ∈ L, pos n d ∈ poss n C
  ok : okAll n C

theorem cins_in {n : Int} (hn : scheme n = true) {c : Cut} (hc : valid n c.1 = true) : ∀ {C : List Cut}, okAll n C → asc (poss n C) →
    asc (poss n (cins n c C)) ∧ (∀ e ∈ cins n c C, (e ∈ C ∧ (pos n e = pos n c → cb e.1 c.1 < 0)) ∨ (e = c ∧ ∀ y ∈ C, pos n y = pos n c → ¬ cb y.1 c.1 < 0)) ∧ (∀ y ∈ C, pos n y ∈ poss n (cins n c C)) ∧ pos n c ∈ poss n (cins n c C)
  | [], _, _ => by
    refine ⟨List.pairwise_singleton _ _, (fun e he => .inr ⟨by simpa [cins] using he, (fun y hy => by cases hy)⟩), (fun y hy => by cases hy), by simp [cins, poss]⟩
  | d :: C, hC, aC => by
    obtain ⟨a1, a2⟩ := List.pairwise_cons.1 (show V.asc (pos n d :: poss n C) from aC)
    have hd := hC d (by simp)
    have hcp := cutC_pos hn hd hc
    obtain ⟨i1, i2, i3, i4⟩ := cins_in hn hc (C := C) (fun e he => hC e (by simp [he])) a2
    unfold cins
    by_cases h : cutC n d c < 0
    · rw [if_pos h]
      have hlt : plt (pos n d) (pos n c) := by unfold plt; rw [← hcp]; exact h
      refine ⟨List.pairwise_cons.2 ⟨fun p hp => ?_, i1⟩, fun e he => ?_, fun y hy => ?_, List.mem_cons_of_mem _ i4⟩
      · obtain ⟨e, he, rfl⟩ := List.mem_map.1 hp
        rcases i2 e he with ⟨g, _⟩ | ⟨rfl, _⟩
        · exact a1 _ (List.mem_map.2 ⟨e, g, rfl⟩)
        · exact hlt
      · rcases List.mem_cons.1 he with rfl | he
        · exact .inl ⟨by simp, fun e0 => by rw [e0] at hlt; exact absurd hlt (plt_irrefl _)⟩
        · rcases i2 e he with ⟨g, g2⟩ | ⟨rfl, g⟩
          · exact .inl ⟨by simp [g], g2⟩
          · refine .inr ⟨rfl, fun y hy hp => ?_⟩
            rcases List.mem_cons.1 hy with rfl | hy
            · rw [hp] at hlt; exact absurd hlt (plt_irrefl _)
            · exact g y hy hp
      · rcases List.mem_cons.1 hy with rfl | hy
        · simp [poss]
        · exact List.mem_cons_of_mem _ (i3 y hy)
    · rw [if_neg h]
      by_cases h0 : cutC n d c = 0
      · rw [if_pos h0]
        have he0 : pos n d = pos n c := cp_eq (by rw [← hcp]; exact h0)
        have hrest : ∀ y ∈ C, pos n y ≠ pos n c := fun y hy e => by
          have := a1 _ (List.mem_map.2 ⟨y, hy, rfl⟩)
          rw [e, ← he0] at this
          exact plt_irrefl _ this
        by_cases h1 : cb d.1 c.1 < 0
        · rw [if_pos h1]
          refine ⟨aC, fun e he => .inl ⟨he, fun e0 => ?_⟩, fun y hy => List.mem_map.2 ⟨y, hy, rfl⟩, by rw [← he0]; simp [poss]⟩
          rcases List.mem_cons.1 he with rfl | he
          · exact h1
          · exact absurd e0 (hrest e he)
        · rw [if_neg h1]
          refine ⟨List.pairwise_cons.2 ⟨fun p hp => by rw [← he0]; exact a1 p hp, a2⟩, fun e he => ?_, fun y hy => ?_, by simp [poss]⟩
          · rcases List.mem_cons.1 he with rfl | he
            · refine .inr ⟨rfl, fun y hy hp => ?_⟩
              rcases List.mem_cons.1 hy with rfl | hy
              · exact h1
              · exact absurd hp (hrest y hy)
            · exact .inl ⟨by simp [he], fun e0 => absurd e0 (hrest e he)⟩
          · rcases List.mem_cons.1 hy with rfl | hy
            · rw [he0]; simp [poss]
            · exact List.mem_cons_of_mem _ (List.mem_map.2 ⟨y, hy, rfl⟩)
      · rw [if_neg h0]
        have hgt : plt (pos n c) (pos n d) := by
          have := cp_anti (pos n d) (pos n c)
          unfold plt
          omega
        have hno : ∀ y ∈ d :: C, pos n y ≠ pos n c := fun y hy e => by
          rcases List.mem_cons.1 hy with rfl | hy
          · rw [e] at hgt; exact plt_irrefl _ hgt
          · have := plt_trans hgt (a1 _ (List.mem_map.2 ⟨y, hy, rfl⟩))
            rw [e] at this
            exact plt_irrefl _ this
        refine ⟨List.pairwise_cons.2 ⟨fun p hp => ?_, aC⟩, fun e he => ?_, fun y hy => List.mem_cons_of_mem _ (List.mem_map.2 ⟨y, hy, rfl⟩), by simp [poss]⟩
        · rcases List.mem_cons.1 (show p ∈ pos n d :: poss n C from hp) with rfl | hp
          · exact hgt
          · exact plt_trans hgt (a1 p hp)
        · rcases List.mem_cons.1 he with rfl | he
          · exact .inr ⟨rfl, fun y hy hp => absurd hp (hno y hy)⟩
          · exact .inl ⟨he, fun e0 => absurd e0 (hno e he)⟩
theorem Sorted.add {n : Int} (hn : scheme n = true) {L C : List Cut} (h : Sorted n L C) {c : Cut} (hc : valid n c.1 = true) : Sorted n (L ++ [c]) (cins n c C) := by
  obtain ⟨i1, i2, i3, i4⟩ := cins_in hn hc h.ok h.asc
  refine ⟨i1, fun e he => ?_, fun d hd => ?_, fun e he => ?_⟩
  · rcases i2 e he with ⟨g, g2⟩ | ⟨rfl, g⟩
    · obtain ⟨l1, l2⟩ := h.least e g
      refine ⟨by simp [l1], fun d hd hp => ?_⟩
      rcases List.mem_append.1 hd with hd | hd
      · exact l2 d hd hp
      · rw [List.mem_singleton.1 hd] at hp ⊢
        have := g2 hp.symm
        have e1 := cb_anti e.1 c.1
        omega
    · refine ⟨by simp, fun d hd hp => ?_⟩
      rcases List.mem_append.1 hd with hd | hd
      · obtain ⟨y, hy, ey⟩ := List.mem_map.1 (h.all d hd)
        have hyc := g y hy (ey.trans hp)
        exact cb_nlt ((h.least y hy).2 d hd ey.symm) hyc
      · rw [List.mem_singleton.1 hd]
        have := cb_refl e.1
        omega
  · rcases List.mem_append.1 hd with hd | hd
    · obtain ⟨y, hy, ey⟩ := List.mem_map.1 (h.all d hd)
      rw [← ey]
      exact i3 y hy
    · rw [List.mem_singleton.1 hd]
      exact i4
  · rcases i2 e he with ⟨g, _⟩ | ⟨rfl, _⟩
    · exact h.ok e g
    · exact hc
theorem Sorted.fold {n : Int} (hn : scheme n = true) : ∀ {M L C : List Cut}, Sorted n L C → okAll n M → Sorted n (L ++ M) (M.foldl (fun C c => cins n c C) C)
  | [], L, C, h, _ => by rw [List.append_nil]; exact h
  | c :: M, L, C, h, hM => by
    have := Sorted.fold hn (M := M) (h.add hn (hM c (by simp))) (fun d hd => hM d (by simp [hd]))
    rw [List.append_assoc] at this
    exact this

/-! the cuts at which a value turns -/
def turns (g : Cut → Bool) : Bool → List Cut → List Cut
  | _, [] => []
  | now, c :: C => emit c (g c) now (turns g (g c) C)
/-- a set's value, by the cuts of a longer list -/
def valC (n : Int) (g : Cut → Bool) : Bool → List Cut → Pos → Bool
  | now, [], _ => now
  | now, c :: C, q => if plt q (pos n c) then now else valC n g (g c) C q
theorem turns_sub {g : Cut → Bool} : ∀ {now : Bool} {C : List Cut} {e : Cut}, e ∈ turns g now C → e ∈ C
  | _, [], _, h => h
  | now, c :: C, e, h => by
    rcases emit_sub h with rfl | h
    · simp
    · exact List.mem_cons_of_mem _ (turns_sub h)
theorem turns_poss {n : Int} {g : Cut → Bool} {now : Bool} {C : List Cut} {p : Pos} (h : p ∈ poss n (turns g now C)) : p ∈ poss n C := by
  obtain ⟨e, he, rfl⟩ := List.mem_map.1 h
  exact List.mem_map.2 ⟨e, turns_sub he, rfl⟩
theorem turns_asc {n : Int} {g : Cut → Bool} : ∀ {now : Bool} {C : List Cut}, asc (poss n C) → asc (poss n (turns g now C))
  | _, [], h => h
  | now, c :: C, h => by
    obtain ⟨a1, a2⟩ := List.pairwise_cons.1 (show asc (pos n c :: poss n C) from h)
    exact emit_asc (fun p hp => a1 p (turns_poss hp)) (turns_asc a2)
theorem turns_mem {n : Int} {g : Cut → Bool} : ∀ {now : Bool} {C : List Cut}, asc (poss n C) → ∀ q, mem now (poss n (turns g now C)) q = valC n g now C q
  | _, [], _, _ => rfl
  | now, c :: C, h, q => by
    obtain ⟨a1, a2⟩ := List.pairwise_cons.1 (show asc (pos n c :: poss n C) from h)
    show mem now (poss n (emit c (g c) now (turns g (g c) C))) q = if plt q (pos n c) then now else valC n g (g c) C q
    rw [emit_mem (fun p hp => a1 p (turns_poss hp)), turns_mem a2]
/-- the cuts of a set lie among those of C -/
theorem valC_mem {n : Int} : ∀ {C : List Cut} {l : List Pos} (x : Bool), asc (poss n C) → asc l → (∀ p ∈ l, p ∈ poss n C) → ∀ q, valC n (fun c => mem x l (pos n c)) x C q = mem x l q
  | [], l, x, _, _, hs, q => by
    rcases l with _ | ⟨p, l⟩
    · rfl
    · have := hs p (by simp)
      simp [poss] at this
  | c :: C, l, x, hC, hl, hs, q => by
    obtain ⟨a1, a2⟩ := List.pairwise_cons.1 (show asc (pos n c :: poss n C) from hC)
    have cong : ∀ (g h : Cut → Bool) (D : List Cut) (now : Bool), (∀ d ∈ D, g d = h d) → valC n g now D q = valC n h now D q := fun g h D => by
      induction D with
      | nil => intro now _; rfl
      | cons d D ih =>
        intro now hgh
        show (if plt q (pos n d) then now else valC n g (g d) D q) = if plt q (pos n d) then now else valC n h (h d) D q
        rw [hgh d (by simp), ih _ (fun e he => hgh e (by simp [he]))]
    show (if plt q (pos n c) then x else valC n _ (mem x l (pos n c)) C q) = mem x l q
    rcases l with _ | ⟨p, l⟩
    · have := valC_mem (C := C) (l := []) x a2 List.Pairwise.nil (fun p hp => by cases hp) q
      split
      · rfl
      · exact this
    · obtain ⟨b1, b2⟩ := List.pairwise_cons.1 hl
      rcases List.mem_cons.1 (show p ∈ pos n c :: poss n C from hs p (by simp)) with rfl | hp
      · have hv : mem x (pos n c :: l) (pos n c) = !x := by
          rw [mem_cons, if_neg (plt_irrefl _), mem_lt b1]
        rw [hv, mem_cons]
        split
        · rfl
        · rw [← valC_mem (C := C) (l := l) (!x) a2 b2 (fun p hp => by
            rcases List.mem_cons.1 (show p ∈ pos n c :: poss n C from hs p (by simp [hp])) with rfl | h
            · exact absurd (b1 _ hp) (plt_irrefl _)
            · exact h) q]
          refine cong _ _ _ _ (fun d hd => ?_)
          have := a1 _ (List.mem_map.2 ⟨d, hd, rfl⟩)
          show mem x (pos n c :: l) (pos n d) = _
          rw [mem_cons, if_neg (plt_asymm this)]
      · have hcp := a1 p hp
        have hall : ∀ r ∈ p :: l, plt (pos n c) r := fun r hr => by
          rcases List.mem_cons.1 hr with rfl | hr
          · exact hcp
          · exact plt_trans hcp (b1 r hr)
        rw [mem_lt hall, valC_mem (C := C) (l := p :: l) x a2 hl (fun r hr => by
          rcases List.mem_cons.1 (show r ∈ pos n c :: poss n C from hs r hr) with rfl | h
          · exact absurd (hall _ hr) (plt_irrefl _)
          · exact h) q]
        split
        · rename_i h
          exact (mem_lt (fun r hr => plt_trans h (hall r hr))).symm
        · rfl
theorem valC_two {n : Int} (f : Bool → Bool → Bool) (g h : Cut → Bool) : ∀ (C : List Cut) (x y : Bool) (q : Pos), valC n (fun c => f (g c) (h c)) (f x y) C q = f (valC n g x C q) (valC n h y C q)
  | [], _, _, _ => rfl
  | c :: C, x, y, q => by
    show (if plt q (pos n c) then f x y else valC n _ (f (g c) (h c)) C q) = f (if plt q (pos n c) then x else valC n g (g c) C q) (if plt q (pos n c) then y else valC n h (h c) C q)
    split
    · rfl
    · exact valC_two f g h C (g c) (h c) q

/-! its runs -/
def hd (C : List Cut) : Ec := match C with | [] => etop | d :: _ => eat d
def optE (e : Ec) : Option Cut := if e.e = 0 then some (e.v, decide (e.s = 1)) else none
theorem btw_at (c : Cut) (f : Ec) (hf : f = ebot ∨ ∃ d, f = eat d) : btw f (eat c) = mkI (optE f) (some c) := by
  obtain ⟨v, s⟩ := c
  rcases hf with rfl | ⟨⟨a, t⟩, rfl⟩
  · cases s <;> rfl
  · cases s <;> cases t <;> rfl
theorem btw_top (f : Ec) (hf : f = ebot ∨ ∃ d, f = eat d) : btw f etop = mkI (optE f) none := by
  rcases hf with rfl | ⟨⟨a, t⟩, rfl⟩
  · rfl
  · cases t <;> rfl
theorem optE_at (c : Cut) : optE (eat c) = some c := by
  obtain ⟨v, s⟩ := c
  cases s <;> rfl
theorem rrun_turns {h : Ec → Ec → Bool} {g : Cut → Bool} : ∀ {C : List Cut}, (∀ A c B, C = A ++ c :: B → h (eat c) (hd B) = g c) →
    (∀ e, rrun h none (e :: (C.map eat ++ [etop])) = if h e (hd C) then rrun h (some e) (e :: (C.map eat ++ [etop])) else ofC none (turns g false C)) ∧
    (∀ f e, (f = ebot ∨ ∃ d, f = eat d) → h e (hd C) = true → rrun h (some f) (e :: (C.map eat ++ [etop])) = ofC (some (optE f)) (turns g true C))
  | [], _ => by
    refine ⟨fun e => ?_, fun f e hf he => ?_⟩
    · show (if h e etop then rrun h (some e) [etop] else rrun h none [etop]) = if h e etop then (if h e etop then rrun h (some e) [etop] else btw e e :: rrun h none [etop]) else []
      by_cases hh : h e etop = true
      · rw [if_pos hh, if_pos hh, if_pos hh]
      · rw [if_neg hh, if_neg hh]; rfl
    · show (if h e etop then rrun h (some f) [etop] else _) = _
      rw [if_pos (show h e etop = true from he)]
      show [btw f etop] = _
      rw [btw_top f hf]
      rfl
  | c :: C, H => by
    obtain ⟨i1, i2⟩ := rrun_turns (h := h) (g := g) (C := C) (fun A d B e => H (c :: A) d B (by rw [e]; rfl))
    have hc : h (eat c) (hd C) = g c := H [] c C rfl
    have unf : ∀ e, rrun h none (e :: ((c :: C).map eat ++ [etop])) = if h e (eat c) then rrun h (some e) (eat c :: (C.map eat ++ [etop])) else rrun h none (eat c :: (C.map eat ++ [etop])) := fun e => rfl
    have unf2 : ∀ f e, rrun h (some f) (e :: ((c :: C).map eat ++ [etop])) = if h e (eat c) then rrun h (some f) (eat c :: (C.map eat ++ [etop])) else btw f e :: rrun h none (eat c :: (C.map eat ++ [etop])) := fun f e => rfl
    have e1 := i1 (eat c)
    rw [hc] at e1
    have stop : ∀ f, g c = false → rrun h (some f) (eat c :: (C.map eat ++ [etop])) = btw f (eat c) :: rrun h none (eat c :: (C.map eat ++ [etop])) := fun f hg => by
      rcases C with _ | ⟨d, C⟩
      · show (if h (eat c) etop then _ else btw f (eat c) :: rrun h none [etop]) = btw f (eat c) :: (if h (eat c) etop then _ else rrun h none [etop])
        have : h (eat c) etop = false := by rw [← hg]; exact hc
        rw [this]
        rfl
      · show (if h (eat c) (eat d) then _ else btw f (eat c) :: rrun h none (eat d :: (C.map eat ++ [etop]))) = btw f (eat c) :: (if h (eat c) (eat d) then _ else rrun h none (eat d :: (C.map eat ++ [etop])))
        have : h (eat c) (eat d) = false := by rw [← hg]; exact hc
        rw [this]
        rfl
    refine ⟨fun e => ?_, fun f e hf he => ?_⟩
    · by_cases hh : h e (eat c) = true
      · have : h e (hd (c :: C)) = true := hh
        rw [unf, if_pos hh, if_pos this, unf2, if_pos hh]
      · have : ¬ h e (hd (c :: C)) = true := hh
        rw [unf, if_neg hh, if_neg this, e1]
        show _ = ofC none (emit c (g c) false (turns g (g c) C))
        unfold emit
        rcases hg : g c with _ | _
        · rfl
        · rw [if_pos rfl, if_neg (show ¬ (true = false) by decide), i2 _ _ (.inr ⟨c, rfl⟩) (by rw [hc, hg]), optE_at]
          rfl
    · rw [unf2, if_pos (show h e (eat c) = true from he)]
      show _ = ofC (some (optE f)) (emit c (g c) true (turns g (g c) C))
      unfold emit
      rcases hg : g c with _ | _
      · rw [if_neg (by decide), stop f hg, e1, hg, btw_at c f hf]
        rfl
      · rw [if_pos rfl, i2 f _ hf (by rw [hc, hg])]

/-- what a set covers between two neighbouring cuts -/
theorem covers_at {n : Int} {l : List Itv} (hl : Ok n l) {C : List Cut} (aC : asc (poss n C)) (oC : okAll n C) (hs : ∀ d ∈ cutsOf l, pos n d ∈ poss n C) {A B : List Cut} {c : Cut} (e : C = A ++ c :: B) :
    coversB n l (eat c) (hd B) = inS n l (pos n c) := by
  have hn := hl.sch
  have hcv : valid n c.1 = true := oC c (by rw [e]; simp)
  rw [inS_any hn _ hl.bnd hl.ord]
  unfold coversB
  have each : ∀ x ∈ l, (decide (ecmp n (eLow x) (eat c) ≤ 0) && decide (ecmp n (hd B) (eHigh x) ≤ 0)) = inI n (pos n c) x := fun x hx => by
    have hbx := hl.bnd x hx
    have hlow : decide (ecmp n (eLow x) (eat c) ≤ 0) = (decide (x.lk = 0) || !decide (plt (pos n c) (pos n x.low))) := by
      by_cases hk : x.lk = 0
      · rw [eLow_no hk, decide_eq_true hk, Bool.true_or]
        exact decide_eq_true (by unfold ecmp ebot eat; simp)
      · rw [eLow_at hbx hk, ecmp_at, cutC_pos hn (low_valid hbx hk) hcv, decide_eq_false hk, Bool.false_or]
        have := cp_anti (pos n x.low) (pos n c)
        unfold plt
        by_cases hp : cp (pos n c) (pos n x.low) < 0
        · rw [decide_eq_true hp, decide_eq_false (by omega)]; rfl
        · rw [decide_eq_false hp, decide_eq_true (by omega)]; rfl
    have hhigh : decide (ecmp n (hd B) (eHigh x) ≤ 0) = (decide (x.hk = 0) || decide (plt (pos n c) (pos n x.high))) := by
      by_cases hk : x.hk = 0
      · rw [eHigh_no hk, decide_eq_true hk, Bool.true_or]
        refine decide_eq_true ?_
        rcases B with _ | ⟨d, B⟩
        · show ecmp n etop etop ≤ 0
          unfold ecmp etop; simp
        · show ecmp n (eat d) etop ≤ 0
          unfold ecmp etop eat; simp
      · rw [eHigh_at hbx hk, decide_eq_false hk, Bool.false_or]
        have hin : pos n x.high ∈ poss n C := hs _ (by
          obtain ⟨l1, l2, rfl⟩ := List.append_of_mem hx
          rw [cutsOf_app, cutsOf, if_neg hk]
          simp)
        have hparts : pos n x.high ∈ poss n A ∨ pos n x.high = pos n c ∨ pos n x.high ∈ poss n B := by
          rw [e] at hin
          unfold poss at hin ⊢
          rw [List.map_append, List.mem_append, List.map_cons, List.mem_cons] at hin
          exact hin
        have hA : asc (poss n A ++ (pos n c :: poss n B)) := by rw [e] at aC; unfold poss at aC ⊢; rw [List.map_append] at aC; exact aC
        obtain ⟨_, h2, h3⟩ := List.pairwise_append.1 hA
        obtain ⟨h4, h5⟩ := List.pairwise_cons.1 h2
        rcases B with _ | ⟨d, B⟩
        · show decide (ecmp n etop (eat x.high) ≤ 0) = _
          have : ¬ plt (pos n c) (pos n x.high) := by
            rcases hparts with h | h | h
            · exact plt_asymm (h3 _ h _ (by simp))
            · rw [h]; exact plt_irrefl _
            · simp [poss] at h
          rw [decide_eq_false this]
          exact decide_eq_false (by unfold ecmp etop eat; simp)
        · show decide (ecmp n (eat d) (eat x.high) ≤ 0) = _
          have hdv : valid n d.1 = true := oC d (by rw [e]; simp)
          rw [ecmp_at, cutC_pos hn hdv (high_valid hbx hk)]
          refine decide_eq_decide.2 ⟨fun h => ?_, fun h => ?_⟩
          · have hcd := h4 (pos n d) (by simp [poss])
            by_cases e0 : cp (pos n d) (pos n x.high) = 0
            · rw [← cp_eq e0]; exact hcd
            · exact plt_trans hcd (show cp _ _ < 0 by omega)
          · rcases hparts with g | g | g
            · exact absurd (h3 _ g _ (List.mem_cons_self ..)) (plt_asymm h)
            · rw [g] at h; exact absurd h (plt_irrefl _)
            · rcases List.mem_cons.1 (show pos n x.high ∈ pos n d :: poss n B from g) with g | g
              · rw [g, cp_refl]; exact Int.le_refl 0
              · have := (List.pairwise_cons.1 h5).1 _ g
                unfold plt at this
                omega
    rw [hlow, hhigh]
    rfl
  rw [Bool.eq_iff_iff, List.any_eq_true, List.any_eq_true]
  constructor
  · rintro ⟨x, hx, h⟩; exact ⟨x, hx, by rw [← each x hx]; exact h⟩
  · rintro ⟨x, hx, h⟩; exact ⟨x, hx, by rw [each x hx]; exact h⟩
theorem covers_bot {n : Int} {l : List Itv} (hl : Ok n l) {C : List Cut} (aC : asc (poss n C)) (oC : okAll n C) (hs : ∀ d ∈ cutsOf l, pos n d ∈ poss n C) : coversB n l ebot (hd C) = firstB l := by
  have hn := hl.sch
  unfold coversB firstB
  have each : ∀ x ∈ l, (decide (ecmp n (eLow x) ebot ≤ 0) && decide (ecmp n (hd C) (eHigh x) ≤ 0)) = decide (x.lk = 0) := fun x hx => by
    have hbx := hl.bnd x hx
    by_cases hk : x.lk = 0
    · rw [eLow_no hk, decide_eq_true hk, decide_eq_true (show ecmp n ebot ebot ≤ 0 by unfold ecmp ebot; simp), Bool.true_and]
      refine decide_eq_true ?_
      by_cases hh : x.hk = 0
      · rw [eHigh_no hh]
        rcases C with _ | ⟨d, B⟩
        · show ecmp n etop etop ≤ 0
          unfold ecmp etop; simp
        · show ecmp n (eat d) etop ≤ 0
          unfold ecmp etop eat; simp
      · rw [eHigh_at hbx hh]
        have hin : pos n x.high ∈ poss n C := hs _ (by
          obtain ⟨l1, l2, rfl⟩ := List.append_of_mem hx
          rw [cutsOf_app, cutsOf, if_neg hh]
          simp)
        rcases C with _ | ⟨d, B⟩
        · simp [poss] at hin
        · show ecmp n (eat d) (eat x.high) ≤ 0
          have hdv : valid n d.1 = true := oC d (by simp)
          rw [ecmp_at, cutC_pos hn hdv (high_valid hbx hh)]
          obtain ⟨a1, a2⟩ := List.pairwise_cons.1 (show asc (pos n d :: poss n B) from aC)
          rcases List.mem_cons.1 (show pos n x.high ∈ pos n d :: poss n B from hin) with g | g
          · rw [g, cp_refl]; exact Int.le_refl 0
          · have := a1 _ g
            unfold plt at this
            omega
    · rw [eLow_at hbx hk, decide_eq_false hk, decide_eq_false (show ¬ ecmp n (eat x.low) ebot ≤ 0 by unfold ecmp ebot eat; simp)]
      rfl
  rw [Bool.eq_iff_iff, List.any_eq_true, List.any_eq_true]
  constructor
  · rintro ⟨x, hx, h⟩; exact ⟨x, hx, by rw [← each x hx]; exact h⟩
  · rintro ⟨x, hx, h⟩; exact ⟨x, hx, by rw [each x hx]; exact h⟩

/-- program and reference compute the same -/
theorem opR_opL {n : Int} (f : Bool → Bool → Bool) {a b : List Itv} (ha : Ok n a) (hb : Ok n b) : opR n f a b = opL n f a b := by
  have hn := ha.sch
  have hab : ∀ x ∈ a ++ b, boundsB n x = true := fun x hx => (List.mem_append.1 hx).elim (ha.bnd x) (hb.bnd x)
  have hrc : rcuts n a b = ends ((cutsOf (a ++ b)).foldl (fun C c => cins n c C) []) := foldl_ends [] hab
  have hS : Sorted n ([] ++ cutsOf (a ++ b)) ((cutsOf (a ++ b)).foldl (fun C c => cins n c C) []) :=
    Sorted.fold hn ⟨List.Pairwise.nil, (fun c hc => by cases hc), (fun d hd => by cases hd), (fun c hc => by cases hc)⟩ (cuts_ok hab)
  rw [List.nil_append, cutsOf_app] at hS
  rw [cutsOf_app] at hrc
  obtain ⟨C, hC⟩ : ∃ C, C = (cutsOf a ++ cutsOf b).foldl (fun C c => cins n c C) [] := ⟨_, rfl⟩
  rw [← hC] at hS hrc
  have sa : ∀ d ∈ cutsOf a, pos n d ∈ poss n C := fun d hd => hS.all d (by simp [hd])
  have sb : ∀ d ∈ cutsOf b, pos n d ∈ poss n C := fun d hd => hS.all d (by simp [hd])
  have sa' : ∀ p ∈ poss n (cutsOf a), p ∈ poss n C := fun p hp => by obtain ⟨d, hd, rfl⟩ := List.mem_map.1 hp; exact sa d hd
  have sb' : ∀ p ∈ poss n (cutsOf b), p ∈ poss n C := fun p hp => by obtain ⟨d, hd, rfl⟩ := List.mem_map.1 hp; exact sb d hd
  obtain ⟨r1, r2⟩ := rrun_turns (h := fun x y => f (coversB n a x y) (coversB n b x y)) (g := fun c => f (inS n a (pos n c)) (inS n b (pos n c))) (C := C) (fun A c B e => by
    show f _ _ = f _ _
    rw [covers_at ha hS.asc hS.ok sa e, covers_at hb hS.asc hS.ok sb e])
  have hbot : f (coversB n a ebot (hd C)) (coversB n b ebot (hd C)) = f (firstB a) (firstB b) := by
    rw [covers_bot ha hS.asc hS.ok sa, covers_bot hb hS.asc hS.ok sb]
  have hrun : opR n f a b = ofC (start (f (firstB a) (firstB b))) (turns (fun c => f (inS n a (pos n c)) (inS n b (pos n c))) (f (firstB a) (firstB b)) C) := by
    unfold opR
    rw [hrc]
    unfold ends
    rw [r1 ebot, hbot]
    rcases hf : f (firstB a) (firstB b) with _ | _
    · rfl
    · rw [if_pos rfl, r2 ebot ebot (.inl rfl) (by show f _ _ = true; rw [hbot, hf])]
      rfl
  rw [hrun]
  unfold opL
  congr 1
  have hco := opL_comb f ha hb
  refine least_lists (L := cutsOf a ++ cutsOf b) (mem_inj (x := f (firstB a) (firstB b)) (turns_asc hS.asc) hco.asc (fun q => ?_)) (fun c hc => hS.least c (turns_sub hc)) (comb_least hn f _ _ _ _ _ _ (Nat.le_refl _) ha.cuts hb.cuts ha.asc hb.asc)
  rw [turns_mem hS.asc, hco.val, valC_two]
  congr 1
  · exact valC_mem _ hS.asc ha.asc sa' q
  · exact valC_mem _ hS.asc hb.asc sb' q
end Go.Proofs.YtpjjkbdkgaehkaaGreatDoor.V
