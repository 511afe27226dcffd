/-
  Lemmas for the law.
-/
import Derived.Test.YtbikeahmldobkaaGreatDoorC51x01
import Derived.Test.YtbikeahmldobkaaGreatDoorC51x03
set_option linter.all false
namespace Go.Proofs.YtbikeahmldobkaaGreatDoor.V
def rwt (s : Bs) (i : Nat) : Int := if s.length ≤ i then 1 else if s.getD i 0 = 126 then 0 else if lett (s.getD i 0) then 2 + (s.getD i 0).toNat else 300 + (s.getD i 0).toNat
def phi (n : Int) : Int := if n ≤ 2 then n - 1 else if n < 128 then n + 2 else n + 172
def Ascii (s : Bs) : Prop := ∀ c ∈ s, c.toNat < 128
theorem or_128 {c : UInt8} (h : c.toNat < 128) : (c ||| 128).toNat = c.toNat + 128 := by
 have h2 : ∀ n : Fin 128, ((UInt8.ofNat n.val) ||| 128).toNat = n.val + 128 := by decide +kernel
 have := h2 ⟨c.toNat, h⟩
 rwa [show UInt8.ofNat c.toNat = c from UInt8.ofNat_toNat] at this
theorem zkf {c : UInt8} (h : lett c = true) : 65 ≤ c.toNat ∧ c.toNat ≤ 122 := by
 unfold lett letB at h; simp at h; omega
theorem wt_ge (s : Bs) (i : Nat) (h : Ascii s) : 1 ≤ wt s i := by
 unfold wt
 split
 ·omega
 ·split
  ·omega
  ·split
   ·rename_i hl; have := zkf hl; omega
   ·rename_i hk _ _
    have hm : s.getD i 0 ∈ s := by
     rw [List.getD_eq_getElem?_getD, List.getElem?_eq_getElem (by omega)]; exact List.getElem_mem _
    have := or_128 (h _ hm); omega
theorem ztc (s : Bs) (i : Nat) (h : Ascii s) : rwt s i = phi (wt s i) := by
 unfold rwt wt
 split
 ·rfl
 ·split
  ·rfl
  ·split
   ·rename_i hl
    have := zkf hl
    unfold phi
    rw [if_neg (by omega), if_pos (by omega)]; omega
   ·rename_i hk _ _
    have hm : s.getD i 0 ∈ s := by
     rw [List.getD_eq_getElem?_getD, List.getElem?_eq_getElem (by omega)]; exact List.getElem_mem _
    have h1 := or_128 (h _ hm)
    have h2 := h _ hm
    unfold phi
    rw [h1, if_neg (by omega), if_neg (by omega)]; omega
theorem sgn_phi {a b : Int} (ha : 1 ≤ a) (hb : 1 ≤ b) : sgn (phi a - phi b) = Lib.compareInt a b := by
 unfold sgn phi Lib.compareInt
 repeat' split
 all_goals omega
theorem sgn_rwt (x y : Bs) (i : Nat) (hx : Ascii x) (hy : Ascii y) : sgn (rwt x i - rwt y i) = Lib.compareInt (wt x i) (wt y i) := by
 rw [ztc x i hx, ztc y i hy]
 exact sgn_phi (wt_ge x i hx) (wt_ge y i hy)
theorem sgn_zero {n : Int} : sgn n = 0 ↔ n = 0 := by unfold sgn; repeat' split <;> omega
theorem ztb (s : Bs) (i : Nat) : 0 ≤ rwt s i ∧ rwt s i ≤ 555 := by
 unfold rwt
 have := (s.getD i 0).toNat_lt
 repeat' split
 all_goals omega
theorem Ascii.take {s : Bs} (h : Ascii s) (d : Bool) : Ascii (zx s d).1 := fun c hc => h c ((List.takeWhile_sublist _).subset hc)
theorem Ascii.rest {s : Bs} (h : Ascii s) (d : Bool) : Ascii (zx s d).2 := fun c hc => h c ((List.dropWhile_sublist _).subset hc)
def pad : List Bs → List Bs → Int
 | [], [] => 0
 | [], b :: q => cor (numbers [48] b) (pad [] q)
 | a :: p, [] => cor (numbers a [48]) (pad p [])
 | a :: p, b :: q => cor (numbers a b) (pad p q)
theorem zos (x y : List Bs) (h : 0 < x.length ∨ 0 < y.length) : pad x y = cor (numbers (x.getD 0 [48]) (y.getD 0 [48])) (pad (x.drop 1) (y.drop 1)) := by
 cases x <;> cases y
 ·simp at h
 all_goals
  rw [pad]
  rfl
theorem zib : ∀ (k : Nat) (x y : List Bs), (∀ j, j < k → numbers (x.getD j [48]) (y.getD j [48]) = 0) → pad x y = pad (x.drop k) (y.drop k)
 | 0, _, _, _ => rfl
 | k + 1, x, y, h => by
  have h0 := h 0 (by omega)
  have e : pad x y = pad (x.drop 1) (y.drop 1) := by
   by_cases hl : 0 < x.length ∨ 0 < y.length
   ·rw [zos x y hl, h0, ue]
   ·have hx : x = [] := List.eq_nil_of_length_eq_zero (by omega)
    have hy : y = [] := List.eq_nil_of_length_eq_zero (by omega)
    subst hx hy; rfl
  rw [e, zib k (x.drop 1) (y.drop 1) (fun j hj => by
    have := h (j + 1) (by omega)
    simpa [List.getD_eq_getElem?_getD, List.getElem?_drop, Nat.add_comm] using this)]
  simp
theorem pad_hit (k : Nat) (x y : List Bs) (h : ∀ j, j < k → numbers (x.getD j [48]) (y.getD j [48]) = 0) (hk : k < x.length ∨ k < y.length) (h0 : numbers (x.getD k [48]) (y.getD k [48]) ≠ 0) :
  pad x y = numbers (x.getD k [48]) (y.getD k [48]) := by
 rw [zib k x y h, zos _ _ (by simp only [List.length_drop]; omega)]
 have e1 : (x.drop k).getD 0 [48] = x.getD k [48] := by simp [List.getD_eq_getElem?_getD, List.getElem?_drop]
 have e2 : (y.drop k).getD 0 [48] = y.getD k [48] := by simp [List.getD_eq_getElem?_getD, List.getElem?_drop]
 rw [e1, e2, js h0]
theorem pad_end (k : Nat) (x y : List Bs) (h : ∀ j, j < k → numbers (x.getD j [48]) (y.getD j [48]) = 0) (hk : ¬ (k < x.length ∨ k < y.length)) : pad x y = 0 := by
 rw [zib k x y h, List.drop_of_length_le (by omega), List.drop_of_length_le (by omega), pad]
theorem vr (a : Bs) (l : List Bs) : qd (a :: l) = if (qd l).isEmpty && (value a).isEmpty then [] else a :: qd l := by
 unfold qd
 rw [List.reverse_cons, List.dropWhile_append]
 rcases h : (List.dropWhile (fun x => (value x).isEmpty) l.reverse) with _ | ⟨b, r⟩
 ·rcases hv : (value a).isEmpty with _ | _ <;> simp [hv]
 ·simp
theorem zjk {a b : Bs} (h : value a = []) : numbers a b = if (value b).isEmpty then 0 else -1 := by
 unfold numbers
 rw [h]
 rcases hb : value b with _ | ⟨c, r⟩
 ·rfl
 ·rw [List.isEmpty_cons, if_neg (by decide)]
  unfold Lib.compareInt
  rw [if_pos (by simp; try omega)]; rfl
theorem zlx {a b : Bs} (h : value b = []) : numbers a b = if (value a).isEmpty then 0 else 1 := by
 unfold numbers
 rw [h]
 rcases hb : value a with _ | ⟨c, r⟩
 ·rfl
 ·rw [List.isEmpty_cons, if_neg (by decide)]
  unfold Lib.compareInt
  rw [if_neg (by simp; try omega), if_pos (by simp; try omega)]; rfl
theorem zmq (l : List Bs) : jb numbers [] l = if l.isEmpty then 0 else -1 := by cases l <;> rfl
theorem zi4 (l : List Bs) : jb numbers l [] = if l.isEmpty then 0 else 1 := by cases l <;> rfl
theorem zdz : ∀ x y : List Bs, pad x y = jb numbers (qd x) (qd y)
 | [], [] => by rw [pad]; rfl
 | [], b :: q => by
  have ih := zdz [] q
  have e : qd [] = [] := rfl
  rw [e, zmq] at ih ⊢
  rw [pad, zjk (a := [48]) (by decide), ih, vr]
  rcases (value b).isEmpty with _ | _ <;> rcases (qd q).isEmpty with _ | _ <;> simp [cor]
 | a :: p, [] => by
  have ih := zdz p []
  have e : qd [] = [] := rfl
  rw [e, zi4] at ih ⊢
  rw [pad, zlx (b := [48]) (by decide), ih, vr]
  rcases (value a).isEmpty with _ | _ <;> rcases (qd p).isEmpty with _ | _ <;> simp [cor]
 | a :: p, b :: q => by
  have ih := zdz p q
  rw [pad, vr, vr, ih]
  rcases hp : (qd p).isEmpty && (value a).isEmpty with _ | _ <;> rcases hq : (qd q).isEmpty && (value b).isEmpty with _ | _
  ·simp [jb]
  ·rw [Bool.and_eq_true, List.isEmpty_iff, List.isEmpty_iff] at hq
   rw [zlx hq.2, hq.1, zi4, if_pos rfl, if_neg Bool.false_ne_true, zi4]
   rcases h1 : (value a).isEmpty with _ | _ <;> rcases h2 : (qd p).isEmpty with _ | _ <;> (rw [h1, h2] at hp; simp [cor] at hp ⊢)
  ·rw [Bool.and_eq_true, List.isEmpty_iff, List.isEmpty_iff] at hp
   rw [zjk hp.2, hp.1, zmq, if_pos rfl, if_neg Bool.false_ne_true, zmq]
   rcases h1 : (value b).isEmpty with _ | _ <;> rcases h2 : (qd q).isEmpty with _ | _ <;> (rw [h1, h2] at hq; simp [cor] at hq ⊢)
  ·rw [Bool.and_eq_true, List.isEmpty_iff, List.isEmpty_iff] at hp hq
   rw [zjk hp.2, hp.1, hq.1, hq.2, if_pos rfl, if_pos rfl]
   rfl
theorem pad_dots (a b : Bs) : pad (zl 46 a) (zl 46 b) = zaw a b := zdz _ _
theorem zqq {o : Bs} (ho : Ascii o) {c : UInt8} (h : kind o c = true) : c.toNat < 128 := by
 unfold kind at h
 rw [Bool.or_eq_true, Bool.or_eq_true] at h
 rcases h with (h | h) | h
 ·have := zkf h; omega
 ·unfold dig digB at h; simp at h; omega
 ·exact ho c (by simpa using h)
theorem zer {o : Bs} (ho : Ascii o) {s : Bs} (h : only (kind o) s = true) : Ascii s := fun c hc => by
 unfold only at h
 rw [Bool.and_eq_true, List.all_eq_true] at h
 exact zqq ho (h.1 c hc)
theorem zli (l : Bs) (h : l.all (fun c => decide (c.toNat < 128)) = true) : Ascii l := fun c hc => by
 rw [List.all_eq_true] at h
 simpa using h c hc
theorem zea {ep s : Bs} {x : Bs × Bs × Bs} (h : jc ep s = some x) : Ascii x.2.1 ∧ Ascii x.2.2 := by
 have a1 : Ascii [46, 43, 126, 45] := zli _ (by decide)
 have a2 : Ascii allow := zli _ (by decide)
 unfold jc at h
 split at h
 ·split at h
  ·rename_i hk
   simp only [Option.some.injEq] at h; subst h
   rw [Bool.and_eq_true] at hk
   exact ⟨zer a1 hk.1, fun c hc => by simp at hc⟩
  ·cases h
 ·split at h
  ·rename_i hr
   split at h
   ·rename_i hk
    simp only [Option.some.injEq] at h; subst h
    rw [Bool.and_eq_true] at hk
    exact ⟨zer a1 hk.1, zer a2 hr⟩
   ·cases h
  ·cases h
theorem zdi {v : Bs} {x : Bs × Bs × Bs} (h : zw v = some x) : Ascii x.2.1 ∧ Ascii x.2.2 := by
 unfold zw at h
 split at h
 ·split at h
  ·exact zea h
  ·cases h
 ·exact zea h
theorem zks {a b c d : Bs} (h : value a = value c) (g : value b = value d) : numbers a b = numbers c d := by
 unfold numbers; rw [h, g]
end Go.Proofs.YtbikeahmldobkaaGreatDoor.V
namespace Go.Proofs.YtbikeahmldobkaaGreatDoor.V
abbrev Pos := Bs × Bool
def cp (p q : Pos) : Int := cor (cb p.1 q.1) (if p.2 = q.2 then 0 else if q.2 then -1 else 1)
def plt (p q : Pos) : Prop := cp p q < 0
instance (p q : Pos) : Decidable (plt p q) := by unfold plt; infer_instance
theorem zfp (p : Pos) : cp p p = 0 := by unfold cp; simp [uh, cor]
theorem zd3 (p q : Pos) : cp q p = - cp p q := by
 unfold cp cor
 rw [kf p.1 q.1]
 rcases p with ⟨a, s⟩
 rcases q with ⟨b, t⟩
 rcases s <;> rcases t <;> simp <;> repeat' split
 all_goals omega
theorem cp_eq {p q : Pos} (h : cp p q = 0) : p = q := by
 rcases p with ⟨a, s⟩
 rcases q with ⟨b, t⟩
 unfold cp cor at h
 simp only at h
 split at h
 ·rename_i e
  have := zjg e
  subst this
  rcases s <;> rcases t <;> simp at h <;> rfl
 ·omega
theorem cp_trans {p q r : Pos} (h1 : cp p q ≤ 0) (h2 : cp q r ≤ 0) : cp p r ≤ 0 := by
 rcases p with ⟨a, s⟩
 rcases q with ⟨b, t⟩
 rcases r with ⟨c, u⟩
 have t1 := wh a b c
 have ra := zjv a b
 have rb := zjv b c
 have rc := zjv a c
 have t2 := wh c a b
 have t3 := wh b c a
 have n1 := kf a b
 have n2 := kf b c
 have n3 := kf a c
 unfold cp cor at *
 simp only at *
 rcases s <;> rcases t <;> rcases u <;> simp only [if_true, if_false, Bool.false_eq_true, reduceCtorEq] at * <;> (repeat' split at *) <;> omega
theorem qg (p : Pos) : ¬ plt p p := by unfold plt; rw [zfp]; omega
theorem qe {p q r : Pos} (h1 : plt p q) (h2 : plt q r) : plt p r := by
 unfold plt at *
 have h3 := cp_trans (p := p) (q := q) (r := r) (by omega) (by omega)
 by_cases e : cp p r = 0
 ·have := cp_eq e
  subst this
  have := zd3 p q
  omega
 ·omega
theorem zm0 (p q : Pos) : plt p q ∨ p = q ∨ plt q p := by
 unfold plt
 have := zd3 p q
 by_cases e : cp p q = 0
 ·exact .inr (.inl (cp_eq e))
 ·omega
theorem uo {p q : Pos} (h : plt p q) : ¬ plt q p := fun g => qg p (qe h g)
def mem (x : Bool) : List Pos → Pos → Bool
 | [], _ => x
 | p :: l, q => if plt q p then x else mem (!x) l q
def asc (l : List Pos) : Prop := l.Pairwise plt
theorem yl {x : Bool} {q : Pos} : ∀ {l : List Pos}, (∀ p ∈ l, plt q p) → mem x l q = x
 | [], _ => rfl
 | p :: l, h => by unfold mem; rw [if_pos (h p (by simp))]
theorem zsu : ∀ {l m : List Pos} {x : Bool}, asc l → asc m → (∀ q, mem x l q = mem x m q) → l = m
 | [], [], _, _, _, _ => rfl
 | [], p :: m, x, _, hm, h => by
  have := h p
  unfold mem at this
  rw [if_neg (qg p), yl (fun q hq => (List.pairwise_cons.1 hm).1 q hq)] at this
  cases x <;> cases this
 | p :: l, [], x, hl, _, h => by
  have := h p
  unfold mem at this
  rw [if_neg (qg p), yl (fun q hq => (List.pairwise_cons.1 hl).1 q hq)] at this
  cases x <;> cases this
 | p :: l, p' :: m, x, hl, hm, h => by
  obtain ⟨hl1, g1⟩ := List.pairwise_cons.1 hl
  obtain ⟨g0, g2⟩ := List.pairwise_cons.1 hm
  rcases zm0 p p' with g | rfl | g
  ·have := h p
   unfold mem at this
   rw [if_neg (qg p), if_pos g, yl hl1] at this
   cases x <;> cases this
  ·have : l = m := zsu (x := !x) g1 g2 (fun q => by
     by_cases g : plt q p
     · rw [yl (fun r hr => qe g (hl1 r hr)), yl (fun r hr => qe g (g0 r hr))]
     · have := h q
       unfold mem at this
       rwa [if_neg g, if_neg g] at this)
   rw [this]
  ·have := h p'
   unfold mem at this
   rw [if_neg (qg p'), if_pos g, yl g0] at this
   cases x <;> cases this
abbrev Cut := Bs × Bool
def pos (n : Int) (c : Cut) : Pos := (keyV n c.1, c.2)
def cutC (n : Int) (a b : Cut) : Int := if cmpV n a.1 b.1 ≠ 0 ∨ a.2 = b.2 then cmpV n a.1 b.1 else if b.2 then -1 else 1
theorem zau {n : Int} (hn : scheme n = true) {a b : Cut} (ha : valid n a.1 = true) (hb : valid n b.1 = true) : cutC n a b = cp (pos n a) (pos n b) := by
 unfold cutC cp pos cor
 simp only
 rw [zd4 hn ha hb]
 repeat' split
 all_goals (first | rfl | (exfalso; simp_all; done) | (simp_all; done) | omega)
def lesser (a b : Bs) : Bs := if Lib.compareBytes b a < 0 then b else a
def comb (n : Int) (f : Bool → Bool → Bool) (x y now : Bool) : List Cut → List Cut → List Cut
 | [], [] => []
 | c :: l, [] => if f (!x) y = now then comb n f (!x) y now l [] else c :: comb n f (!x) y (f (!x) y) l []
 | [], d :: m => if f x (!y) = now then comb n f x (!y) now [] m else d :: comb n f x (!y) (f x (!y)) [] m
 | c :: l, d :: m =>
  if cutC n c d < 0 then (if f (!x) y = now then comb n f (!x) y now l (d :: m) else c :: comb n f (!x) y (f (!x) y) l (d :: m))
  else if 0 < cutC n c d then (if f x (!y) = now then comb n f x (!y) now (c :: l) m else d :: comb n f x (!y) (f x (!y)) (c :: l) m)
  else (if f (!x) (!y) = now then comb n f (!x) (!y) now l m else (lesser c.1 d.1, c.2) :: comb n f (!x) (!y) (f (!x) (!y)) l m)
termination_by l m => l.length + m.length
end Go.Proofs.YtbikeahmldobkaaGreatDoor.V
namespace Go.Proofs.YtbikeahmldobkaaGreatDoor.V
def emit (c : Cut) (next now : Bool) (R : List Cut) : List Cut := if next = now then R else c :: R
def poss (n : Int) (l : List Cut) : List Pos := l.map (pos n)
theorem zbo {n : Int} {c : Cut} {next now : Bool} {R : List Cut} (h : ∀ p ∈ poss n R, plt (pos n c) p) (q : Pos) :
  mem now (poss n (emit c next now R)) q = if plt q (pos n c) then now else mem next (poss n R) q := by
 unfold emit
 by_cases e : next = now
 ·subst e
  rw [if_pos rfl]
  split
  ·rename_i g; exact yl fun p hp => qe g (h p hp)
  ·rfl
 ·rw [if_neg e]
  have : next = !now := by cases next <;> cases now <;> simp_all
  subst this
  rfl
theorem zbs {n : Int} {c : Cut} {next now : Bool} {R : List Cut} (h : ∀ p ∈ poss n R, plt (pos n c) p) (hR : asc (poss n R)) : asc (poss n (emit c next now R)) := by
 unfold emit
 split
 ·exact hR
 ·exact List.pairwise_cons.2 ⟨h, hR⟩
theorem xf {c x : Cut} {next now : Bool} {R : List Cut} (h : x ∈ emit c next now R) : x = c ∨ x ∈ R := by
 unfold emit at h
 split at h
 ·exact .inr h
 ·exact List.mem_cons.1 h
theorem comb_l (n : Int) (f : Bool → Bool → Bool) (x y now : Bool) (c : Cut) (l : List Cut) : comb n f x y now (c :: l) [] = emit c (f (!x) y) now (comb n f (!x) y (f (!x) y) l []) := by
 rw [comb]; unfold emit; split
 ·rename_i h; rw [h]
 ·rfl
theorem comb_r (n : Int) (f : Bool → Bool → Bool) (x y now : Bool) (d : Cut) (m : List Cut) : comb n f x y now [] (d :: m) = emit d (f x (!y)) now (comb n f x (!y) (f x (!y)) [] m) := by
 rw [comb]; unfold emit; split
 ·rename_i h; rw [h]
 ·rfl
theorem zs2 {n : Int} {f : Bool → Bool → Bool} {x y now : Bool} {c d : Cut} {l m : List Cut} (h : cutC n c d < 0) : comb n f x y now (c :: l) (d :: m) = emit c (f (!x) y) now (comb n f (!x) y (f (!x) y) l (d :: m)) := by
 rw [comb, if_pos h]; unfold emit; split
 ·rename_i h; rw [h]
 ·rfl
theorem ztd {n : Int} {f : Bool → Bool → Bool} {x y now : Bool} {c d : Cut} {l m : List Cut} (h : 0 < cutC n c d) : comb n f x y now (c :: l) (d :: m) = emit d (f x (!y)) now (comb n f x (!y) (f x (!y)) (c :: l) m) := by
 rw [comb, if_neg (by omega), if_pos h]; unfold emit; split
 ·rename_i h; rw [h]
 ·rfl
theorem zta {n : Int} {f : Bool → Bool → Bool} {x y now : Bool} {c d : Cut} {l m : List Cut} (h : cutC n c d = 0) : comb n f x y now (c :: l) (d :: m) = emit (lesser c.1 d.1, c.2) (f (!x) (!y)) now (comb n f (!x) (!y) (f (!x) (!y)) l m) := by
 rw [comb, if_neg (by omega), if_neg (by omega)]; unfold emit; split
 ·rename_i h; rw [h]
 ·rfl
def uj (n : Int) (l : List Cut) : Prop := ∀ c ∈ l, valid n c.1 = true
theorem zgm (a b : Bs) : lesser a b = a ∨ lesser a b = b := by unfold lesser; split <;> simp
structure CombOk (n : Int) (f : Bool → Bool → Bool) (x y : Bool) (l m R : List Cut) : Prop where
 asc : asc (poss n R)
 sub : ∀ p ∈ poss n R, p ∈ poss n l ∨ p ∈ poss n m
 ok : uj n R
 val : ∀ q, mem (f x y) (poss n R) q = f (mem x (poss n l) q) (mem y (poss n m) q)
 len : R.length ≤ l.length + m.length
theorem mem_cons (x : Bool) (p : Pos) (l : List Pos) (q : Pos) : mem x (p :: l) q = if plt q p then x else mem (!x) l q := rfl
theorem zdr {n : Int} (hn : scheme n = true) (f : Bool → Bool → Bool) : ∀ (k : Nat) (l m : List Cut) (x y : Bool), l.length + m.length ≤ k → uj n l → uj n m → asc (poss n l) → asc (poss n m) →
  CombOk n f x y l m (comb n f x y (f x y) l m)
 | _, [], [], x, y, _, _, _, _, _ => by
  rw [comb]
  exact ⟨List.Pairwise.nil, fun p hp => by simp [poss] at hp, fun c hc => by simp at hc, fun q => rfl, by simp⟩
 | 0, _ :: _, _, _, _, h, _, _, _, _ => by simp at h
 | 0, [], _ :: _, _, _, h, _, _, _, _ => by simp at h
 | k + 1, c :: l, [], x, y, h, hl, hm, al, am => by
  obtain ⟨a1, a2⟩ := List.pairwise_cons.1 (show asc (pos n c :: poss n l) from al)
  have ih := zdr hn f k l [] (!x) y (by simp at h ⊢; omega) (fun d hd => hl d (by simp [hd])) hm a2 am
  rw [comb_l]
  have g0 : ∀ p ∈ poss n (comb n f (!x) y (f (!x) y) l []), plt (pos n c) p := fun p hp => by
   rcases ih.sub p hp with g | g
   ·exact a1 p g
   ·simp [poss] at g
  refine ⟨zbs g0 ih.asc, fun p hp => ?_, fun d hd => ?_, fun q => ?_, ?_⟩
  ·obtain ⟨d, hd, rfl⟩ := List.mem_map.1 hp
   rcases xf hd with rfl | hd
   ·exact .inl (by simp [poss])
   ·rcases ih.sub _ (List.mem_map.2 ⟨d, hd, rfl⟩) with g | g
    ·exact .inl (List.mem_cons_of_mem _ g)
    ·simp [poss] at g
  ·rcases xf hd with rfl | hd
   ·exact hl _ (by simp)
   ·exact ih.ok d hd
  ·rw [zbo g0, ih.val]
   show _ = f (mem x (pos n c :: poss n l) q) _
   rw [mem_cons]
   split
   ·rfl
   ·rfl
  ·have := ih.len
   unfold emit; split <;> simp at * <;> omega
 | k + 1, [], d :: m, x, y, h, hl, hm, al, am => by
  obtain ⟨a1, a2⟩ := List.pairwise_cons.1 (show asc (pos n d :: poss n m) from am)
  have ih := zdr hn f k [] m x (!y) (by simp at h ⊢; omega) hl (fun d hd => hm d (by simp [hd])) al a2
  rw [comb_r]
  have g0 : ∀ p ∈ poss n (comb n f x (!y) (f x (!y)) [] m), plt (pos n d) p := fun p hp => by
   rcases ih.sub p hp with g | g
   ·simp [poss] at g
   ·exact a1 p g
  refine ⟨zbs g0 ih.asc, fun p hp => ?_, fun e he => ?_, fun q => ?_, ?_⟩
  ·obtain ⟨e, he, rfl⟩ := List.mem_map.1 hp
   rcases xf he with rfl | he
   ·exact .inr (by simp [poss])
   ·rcases ih.sub _ (List.mem_map.2 ⟨e, he, rfl⟩) with g | g
    ·simp [poss] at g
    ·exact .inr (List.mem_cons_of_mem _ g)
  ·rcases xf he with rfl | he
   ·exact hm _ (by simp)
   ·exact ih.ok e he
  ·rw [zbo g0, ih.val]
   show _ = f _ (mem y (pos n d :: poss n m) q)
   rw [mem_cons]
   split
   ·rfl
   ·rfl
  ·have := ih.len
   unfold emit; split <;> simp at * <;> omega
 | k + 1, c :: l, d :: m, x, y, h, hl, hm, al, am => by
  obtain ⟨a1, a2⟩ := List.pairwise_cons.1 (show asc (pos n c :: poss n l) from al)
  obtain ⟨b1, b2⟩ := List.pairwise_cons.1 (show asc (pos n d :: poss n m) from am)
  have hc := hl c (by simp)
  have hd := hm d (by simp)
  have g3 : uj n l := fun e he => hl e (by simp [he])
  have g4 : uj n m := fun e he => hm e (by simp [he])
  have g1 := zau hn hc hd
  rcases zm0 (pos n c) (pos n d) with g | g | g
  ·have hlt : cutC n c d < 0 := by rw [g1]; exact g
   have ih := zdr hn f k l (d :: m) (!x) y (by simp at h ⊢; omega) g3 hm a2 am
   rw [zs2 hlt]
   have g0 : ∀ p ∈ poss n (comb n f (!x) y (f (!x) y) l (d :: m)), plt (pos n c) p := fun p hp => by
    rcases ih.sub p hp with e | e
    ·exact a1 p e
    ·rcases List.mem_cons.1 (show p ∈ pos n d :: poss n m from e) with rfl | e
     ·exact g
     ·exact qe g (b1 p e)
   refine ⟨zbs g0 ih.asc, fun p hp => ?_, fun e he => ?_, fun q => ?_, ?_⟩
   ·obtain ⟨e, he, rfl⟩ := List.mem_map.1 hp
    rcases xf he with rfl | he
    ·exact .inl (by simp [poss])
    ·rcases ih.sub _ (List.mem_map.2 ⟨e, he, rfl⟩) with g | g
     ·exact .inl (List.mem_cons_of_mem _ g)
     ·exact .inr g
   ·rcases xf he with rfl | he
    ·exact hc
    ·exact ih.ok e he
   ·rw [zbo g0, ih.val]
    show _ = f (mem x (pos n c :: poss n l) q) (mem y (pos n d :: poss n m) q)
    rw [mem_cons x]
    split
    ·rename_i gq
     rw [yl (x := y) (l := pos n d :: poss n m) (fun p hp => ?_)]
     rcases List.mem_cons.1 hp with rfl | e
     ·exact qe gq g
     ·exact qe gq (qe g (b1 p e))
    ·rfl
   ·have := ih.len
    unfold emit; split <;> simp at * <;> omega
  ·have g5 : cutC n c d = 0 := by rw [g1, g]; exact zfp _
   have ih := zdr hn f k l m (!x) (!y) (by simp at h ⊢; omega) g3 g4 a2 b2
   have g2 : pos n (lesser c.1 d.1, c.2) = pos n c := by
    rcases zgm c.1 d.1 with e | e
    ·rw [e]
    ·rw [e]
     have h1 : keyV n c.1 = keyV n d.1 := congrArg Prod.fst g
     show (keyV n d.1, c.2) = (keyV n c.1, c.2)
     rw [h1]
   rw [zta g5]
   have g0 : ∀ p ∈ poss n (comb n f (!x) (!y) (f (!x) (!y)) l m), plt (pos n (lesser c.1 d.1, c.2)) p := fun p hp => by
    rw [g2]
    rcases ih.sub p hp with e | e
    ·exact a1 p e
    ·rw [g]; exact b1 p e
   refine ⟨zbs g0 ih.asc, fun p hp => ?_, fun e he => ?_, fun q => ?_, ?_⟩
   ·obtain ⟨e, he, rfl⟩ := List.mem_map.1 hp
    rcases xf he with rfl | he
    ·rw [g2]; exact .inl (by simp [poss])
    ·rcases ih.sub _ (List.mem_map.2 ⟨e, he, rfl⟩) with g | g
     ·exact .inl (List.mem_cons_of_mem _ g)
     ·exact .inr (List.mem_cons_of_mem _ g)
   ·rcases xf he with rfl | he
    ·show valid n (lesser c.1 d.1) = true
     rcases zgm c.1 d.1 with e | e <;> rw [e] <;> assumption
    ·exact ih.ok e he
   ·rw [zbo g0, ih.val, g2]
    show _ = f (mem x (pos n c :: poss n l) q) (mem y (pos n d :: poss n m) q)
    rw [mem_cons x, mem_cons y, ← g]
    split
    ·rfl
    ·rfl
   ·have := ih.len
    unfold emit; split <;> simp at * <;> omega
  ·have hlt : 0 < cutC n c d := by
    have g' : cp (pos n d) (pos n c) < 0 := g
    rw [g1]; have := zd3 (pos n d) (pos n c); omega
   have ih := zdr hn f k (c :: l) m x (!y) (by simp at h ⊢; omega) hl g4 al b2
   rw [ztd hlt]
   have g0 : ∀ p ∈ poss n (comb n f x (!y) (f x (!y)) (c :: l) m), plt (pos n d) p := fun p hp => by
    rcases ih.sub p hp with e | e
    ·rcases List.mem_cons.1 (show p ∈ pos n c :: poss n l from e) with rfl | e
     ·exact g
     ·exact qe g (a1 p e)
    ·exact b1 p e
   refine ⟨zbs g0 ih.asc, fun p hp => ?_, fun e he => ?_, fun q => ?_, ?_⟩
   ·obtain ⟨e, he, rfl⟩ := List.mem_map.1 hp
    rcases xf he with rfl | he
    ·exact .inr (by simp [poss])
    ·rcases ih.sub _ (List.mem_map.2 ⟨e, he, rfl⟩) with g | g
     ·exact .inl g
     ·exact .inr (List.mem_cons_of_mem _ g)
   ·rcases xf he with rfl | he
    ·exact hd
    ·exact ih.ok e he
   ·rw [zbo g0, ih.val]
    show _ = f (mem x (pos n c :: poss n l) q) (mem y (pos n d :: poss n m) q)
    rw [mem_cons y]
    split
    ·rename_i gq
     rw [yl (x := x) (l := pos n c :: poss n l) (fun p hp => ?_)]
     rcases List.mem_cons.1 hp with rfl | e
     ·exact qe gq g
     ·exact qe gq (qe g (a1 p e))
    ·rfl
   ·have := ih.len
    unfold emit; split <;> simp at * <;> omega
end Go.Proofs.YtbikeahmldobkaaGreatDoor.V
