/-
  Lemmas for the law.
-/
import Derived.Test.YtbikeahmldobkaaGreatDoorC50x01
set_option linter.all false
namespace Go.Proofs.YtbikeahmldobkaaGreatDoor.V
def verB (c : UInt8) : Bool := kind [46, 43, 126, 45, 58] c
theorem zac {P : UInt8 → Prop} (c : UInt8) (hc : P c) : ∀ l : Bs, (∀ x ∈ zm c l, ∀ b ∈ x, P b) → ∀ b ∈ l, P b
 | [], _, b, hb => by simp at hb
 | a :: l, h, b, hb => by
  unfold zm at h
  by_cases e : a = c
  ·subst e
   simp only [beq_self_eq_true, if_true] at h
   rcases List.mem_cons.1 hb with rfl | hb
   ·exact hc
   ·exact zac a hc l (fun x hx => h x (by simp [hx])) b hb
  ·rw [if_neg (by simpa using e)] at h
   rcases hs : zm c l with _ | ⟨y, r⟩
   ·exact absurd hs (zs2 c l)
   ·rw [hs] at h
    simp only at h
    rcases List.mem_cons.1 hb with rfl | hb
    ·exact h (b :: y) (by simp) b (by simp)
    ·exact zac c hc l (fun x hx z hz => by
       rw [hs] at hx
       rcases List.mem_cons.1 hx with rfl | hx
       · exact h (a :: x) (by simp) z (by simp [hz])
       · exact h x (by simp [hx]) z hz) b hb
theorem zq1 (c : UInt8) : ∀ l : Bs, c ∈ l → l = l.takeWhile (· != c) ++ c :: l.drop ((l.takeWhile (· != c)).length + 1)
 | [], h => by simp at h
 | b :: l, h => by
  by_cases e : b = c
  ·subst e; simp
  ·have hb : (b != c) = true := by simpa using e
   have ih := zq1 c l (by
     rcases List.mem_cons.1 h with h | h
     · exact absurd h.symm e
     · exact h)
   rw [List.takeWhile_cons, if_pos hb, List.length_cons, List.drop_succ_cons, List.cons_append, ← ih]
theorem zmv (c : UInt8) (l : Bs) (h : (cut1 c l).2.2 = true) : l = (cut1 c l).1 ++ c :: (cut1 c l).2.1 := by
 unfold cut1 at *
 by_cases hc : c ∈ l
 ·rw [if_pos hc]; exact zq1 c l hc
 ·rw [if_neg hc] at h; cases h
theorem cut_none (c : UInt8) (l : Bs) (h : (cut1 c l).2.2 = false) : (cut1 c l).1 = l := by
 unfold cut1 at *
 split
 ·rename_i hc; rw [if_pos hc] at h; cases h
 ·rfl
theorem zhd {P : UInt8 → Prop} (c : UInt8) (hc : P c) (l : Bs) (h1 : ∀ b ∈ (cut1 c l).1, P b) (h2 : (cut1 c l).2.2 = true → ∀ b ∈ (cut1 c l).2.1, P b) : ∀ b ∈ l, P b := by
 intro b hb
 rcases h : (cut1 c l).2.2 with _ | _
 ·rw [cut_none c l h] at h1; exact h1 b hb
 ·rw [zmv c l h] at hb
  rcases List.mem_append.1 hb with g | g
  ·exact h1 b g
  ·rcases List.mem_cons.1 g with rfl | g
   ·exact hc
   ·exact h2 h b g
theorem zft {p : UInt8 → Bool} {l : Bs} (h : only p l = true) : ∀ b ∈ l, p b = true := by
 unfold only at h
 rw [Bool.and_eq_true, List.all_eq_true] at h
 exact h.1
theorem zeq {o o' : Bs} (ho : ∀ c ∈ o, c ∈ o') {c : UInt8} (h : kind o c = true) : kind o' c = true := by
 unfold kind at *
 rw [Bool.or_eq_true] at *
 rcases h with h | h
 ·exact .inl h
 ·exact .inr (by simpa using ho c (by simpa using h))
theorem zn3 {x : Bs} {e : Bool} (h : numb x e = true) : ∀ b ∈ x, verB b = true := fun b hb => by
 unfold numb digits at h
 rw [Bool.and_eq_true] at h
 have := zft h.1 b hb
 unfold verB kind; rw [this]; simp
theorem ident_in {x : Bs} {e : Bool} (h : kh e x = true) : ∀ b ∈ x, verB b = true := fun b hb => by
 unfold kh at h
 rw [Bool.and_eq_true] at h
 exact zeq (by simp) (zft h.1 b hb)
theorem zmy {s : Bs} {e : Bool} (h : identifiers s e = true) : ∀ b ∈ s, verB b = true := by
 unfold identifiers at h
 rw [List.all_eq_true] at h
 exact zac 46 (by decide +kernel) s fun x hx => ident_in (h x hx)
theorem dot_in {s : Bs} (h : ze6 s = true) : ∀ b ∈ s, verB b = true := by
 unfold ze6 at h
 rw [List.all_eq_true] at h
 exact zac 46 (by decide +kernel) s fun x hx => zn3 (h x hx)
theorem sem_in {s : Bs} (h : (zo s).isSome = true) : ∀ b ∈ s, verB b = true := by
 unfold zo at h
 split at h
 ·cases h
 ·rename_i hn
  split at h
  ·rename_i ha
   rw [List.all_eq_true] at ha
   simp only [Bool.or_eq_true, Bool.and_eq_true, Bool.not_eq_true', not_or, not_and, Bool.not_eq_false] at hn
   obtain ⟨⟨h1, h2⟩, _⟩ := hn
   refine zhd 43 (by decide +kernel) s (zhd 45 (by decide +kernel) _ (zac 46 (by decide +kernel) _ fun x hx => zn3 (ha x hx)) fun e => zmy (h2 e)) fun e => zmy (h1 e)
  ·cases h
theorem zj3 {ep s : Bs} (h : (jg ep s).isSome = true) : ∀ b ∈ s, verB b = true := by
 unfold jg at h
 split at h
 ·split at h
  ·rename_i g
   rw [Bool.and_eq_true] at g
   exact fun b hb => zeq (by simp) (zft g.1 b hb)
  ·cases h
 ·rename_i h0
  split at h
  ·rename_i g1
   split at h
   ·rename_i g2
    rw [Bool.and_eq_true] at g2
    have e1 := fun b hb => zeq (o' := [46, 43, 126, 45, 58]) (by simp) (zft g2.1 b hb)
    have e2 := fun b hb => zeq (o' := [46, 43, 126, 45, 58]) (by simp [allow]) (zft g1 b hb)
    unfold jd at *
    rcases Lib.lastIndexByte_spec ⟨s.toArray⟩ 45 with ⟨e, _⟩ | ⟨i, hi, e, hc, _⟩
    ·rw [e] at h0; simp at h0
    ·rw [e] at e1 e2
     have g0 : i < s.length := by rw [show (ByteArray.mk s.toArray).size = s.length by show s.toArray.size = _; simp] at hi; exact hi
     intro b hb
     rw [← List.take_append_drop i s, List.drop_eq_getElem_cons g0] at hb
     rcases List.mem_append.1 hb with q | q
     ·exact e1 b (by simpa using q)
     ·rcases List.mem_cons.1 q with rfl | q
      ·have : s[i] = 45 := by
        have e3 : (ByteArray.mk s.toArray).data[i]! = s[i] := by simp [g0]
        rw [e3] at hc
        exact UInt8.toNat_inj.1 (show s[i].toNat = 45 by omega)
       rw [this]; decide +kernel
      ·exact e2 b (by simpa using q)
   ·cases h
  ·cases h
theorem deb_in {s : Bs} (h : (zz s).isSome = true) : ∀ b ∈ s, verB b = true := by
 unfold zz at h
 split at h
 ·rename_i hc
  split at h
  ·rename_i hn
   exact zhd 58 (by decide +kernel) s (zn3 hn) fun _ => zj3 h
  ·cases h
 ·exact zj3 h
theorem valid_in {n : Int} {v : Bs} (h : valid n v = true) : ∀ b ∈ v, verB b = true := by
 unfold valid yn at h
 rw [Bool.and_eq_true] at h
 obtain ⟨_, h⟩ := h
 repeat' split at h
 ·exact sem_in h
 ·exact deb_in h
 ·exact dot_in h
 ·cases h
theorem zmf {n : Int} {v : Bs} (h : valid n v = true) {c : UInt8} (hc : verB c = false) : c ∉ v := fun g => by
 rw [valid_in h c g] at hc; cases hc
end Go.Proofs.YtbikeahmldobkaaGreatDoor.V
namespace Go.Proofs.YtbikeahmldobkaaGreatDoor.V
structure Comp where
 par : Int
 sch : Int
 name : Bs
 ver : Bs
 dig : List Int
deriving DecidableEq
def zbq (c : Comp) : Bool := jx c.name && valid c.sch c.ver
def zdj (l : List Comp) (i : Nat) (c : Comp) : Bool := zbq c && (decide (-1 ≤ c.par) && (decide (c.par < i) && !decide (c ∈ l.take i)))
def qg (l : List Comp) : Nat → Bool
 | 0 => true
 | k + 1 => qg l k && match l[k]? with | some c => zdj l k c | none => true
def zjl (art : List Int) (time : Int) (l : List Comp) : Bool := !decide (art = List.replicate 32 0) && (decide (0 ≤ time) && (decide (time ≤ 1099511627776) && decide (l.length ≤ 128)))
def jo (art : List Int) (time : Int) (l : List Comp) : Bool := zjl art time l && qg l l.length
theorem yl {l : List Comp} {k : Nat} (h : k < l.length) : qg l (k + 1) = (qg l k && zdj l k l[k]) := by
 show (qg l k && match l[k]? with | some c => zdj l k c | none => true) = _
 rw [List.getElem?_eq_getElem h]
theorem zb7 {l : List Comp} : ∀ {m k : Nat}, k ≤ m → qg l k = false → qg l m = false
 | 0, k, h, e => by obtain rfl : k = 0 := by omega
                    exact e
 | m + 1, k, h, e => by
  by_cases g : k = m + 1
  ·subst g; exact e
  ·show (qg l m && _) = false
   rw [zb7 (by omega) e]; rfl
theorem zs1 {l : List Comp} {k m : Nat} (h : k ≤ m) (e : qg l m = true) : qg l k = true := by
 rcases hh : qg l k with _ | _
 ·rw [zb7 h hh] at e; cases e
 ·rfl
theorem ztb {l : List Comp} {k : Nat} (e : qg l l.length = true) (h : k < l.length) : zdj l k l[k] = true := by
 have := zs1 (show k + 1 ≤ l.length by omega) e
 rw [yl h] at this
 exact (Bool.and_eq_true_iff.1 this).2
theorem zke {l : List Comp} {k : Nat} {c : Comp} : zdj l k c = true ↔ zbq c = true ∧ -1 ≤ c.par ∧ c.par < k ∧ c ∉ l.take k := by
 unfold zdj; simp [Bool.and_eq_true]
end Go.Proofs.YtbikeahmldobkaaGreatDoor.V
namespace Go.Proofs.YtbikeahmldobkaaGreatDoor.V
theorem zsb {c : Comp} : zbq c = true ↔ jx c.name = true ∧ valid c.sch c.ver = true := by unfold zbq; rw [Bool.and_eq_true]
end Go.Proofs.YtbikeahmldobkaaGreatDoor.V
namespace Go.Proofs.YtbikeahmldobkaaGreatDoor.V
def rwt (s : Bs) (i : Nat) : Int := if s.length ≤ i then 1 else if s.getD i 0 = 126 then 0 else if lett (s.getD i 0) then 2 + (s.getD i 0).toNat else 300 + (s.getD i 0).toNat
def phi (n : Int) : Int := if n ≤ 2 then n - 1 else if n < 128 then n + 2 else n + 172
def Ascii (s : Bs) : Prop := ∀ c ∈ s, c.toNat < 128
theorem or_128 {c : UInt8} (h : c.toNat < 128) : (c ||| 128).toNat = c.toNat + 128 := by
 have h2 : ∀ n : Fin 128, ((UInt8.ofNat n.val) ||| 128).toNat = n.val + 128 := by decide +kernel
 have := h2 ⟨c.toNat, h⟩
 rwa [show UInt8.ofNat c.toNat = c from UInt8.ofNat_toNat] at this
theorem zk5 {c : UInt8} (h : lett c = true) : 65 ≤ c.toNat ∧ c.toNat ≤ 122 := by
 unfold lett letB at h; simp at h; omega
theorem wt_ge (s : Bs) (i : Nat) (h : Ascii s) : 1 ≤ wt s i := by
 unfold wt
 split
 ·omega
 ·split
  ·omega
  ·split
   ·rename_i hl; have := zk5 hl; omega
   ·rename_i hk _ _
    have hm : s.getD i 0 ∈ s := by
     rw [List.getD_eq_getElem?_getD, List.getElem?_eq_getElem (by omega)]; exact List.getElem_mem _
    have := or_128 (h _ hm); omega
theorem zug (s : Bs) (i : Nat) (h : Ascii s) : rwt s i = phi (wt s i) := by
 unfold rwt wt
 split
 ·rfl
 ·split
  ·rfl
  ·split
   ·rename_i hl
    have := zk5 hl
    unfold phi
    rw [if_neg (by omega), if_pos (by omega)]; omega
   ·rename_i hk _ _
    have hm : s.getD i 0 ∈ s := by
     rw [List.getD_eq_getElem?_getD, List.getElem?_eq_getElem (by omega)]; exact List.getElem_mem _
    have h1 := or_128 (h _ hm)
    have h2 := h _ hm
    unfold phi
    rw [h1, if_neg (by omega), if_neg (by omega)]; omega
theorem sgn_phi {a b : Int} (ha : 1 ≤ a) (hb : 1 ≤ b) : sgn (phi a - phi b) = Lib.compareInt a b := by
 unfold sgn phi Lib.compareInt
 repeat' split
 all_goals omega
theorem sgn_rwt (x y : Bs) (i : Nat) (hx : Ascii x) (hy : Ascii y) : sgn (rwt x i - rwt y i) = Lib.compareInt (wt x i) (wt y i) := by
 rw [zug x i hx, zug y i hy]
 exact sgn_phi (wt_ge x i hx) (wt_ge y i hy)
theorem sgn_zero {n : Int} : sgn n = 0 ↔ n = 0 := by unfold sgn; repeat' split <;> omega
theorem zuf (s : Bs) (i : Nat) : 0 ≤ rwt s i ∧ rwt s i ≤ 555 := by
 unfold rwt
 have := (s.getD i 0).toNat_lt
 repeat' split
 all_goals omega
theorem Ascii.take {s : Bs} (h : Ascii s) (d : Bool) : Ascii (qb s d).1 := fun c hc => h c ((List.takeWhile_sublist _).subset hc)
theorem Ascii.rest {s : Bs} (h : Ascii s) (d : Bool) : Ascii (qb s d).2 := fun c hc => h c ((List.dropWhile_sublist _).subset hc)
def pad : List Bs → List Bs → Int
 | [], [] => 0
 | [], b :: q => cor (numbers [48] b) (pad [] q)
 | a :: p, [] => cor (numbers a [48]) (pad p [])
 | a :: p, b :: q => cor (numbers a b) (pad p q)
theorem zpj (x y : List Bs) (h : 0 < x.length ∨ 0 < y.length) : pad x y = cor (numbers (x.getD 0 [48]) (y.getD 0 [48])) (pad (x.drop 1) (y.drop 1)) := by
 cases x <;> cases y
 ·simp at h
 all_goals
  rw [pad]
  rfl
theorem zi7 : ∀ (k : Nat) (x y : List Bs), (∀ j, j < k → numbers (x.getD j [48]) (y.getD j [48]) = 0) → pad x y = pad (x.drop k) (y.drop k)
 | 0, _, _, _ => rfl
 | k + 1, x, y, h => by
  have h0 := h 0 (by omega)
  have e : pad x y = pad (x.drop 1) (y.drop 1) := by
   by_cases hl : 0 < x.length ∨ 0 < y.length
   ·rw [zpj x y hl, h0, uy]
   ·have hx : x = [] := List.eq_nil_of_length_eq_zero (by omega)
    have hy : y = [] := List.eq_nil_of_length_eq_zero (by omega)
    subst hx hy; rfl
  rw [e, zi7 k (x.drop 1) (y.drop 1) (fun j hj => by
    have := h (j + 1) (by omega)
    simpa [List.getD_eq_getElem?_getD, List.getElem?_drop, Nat.add_comm] using this)]
  simp
theorem pad_hit (k : Nat) (x y : List Bs) (h : ∀ j, j < k → numbers (x.getD j [48]) (y.getD j [48]) = 0) (hk : k < x.length ∨ k < y.length) (h0 : numbers (x.getD k [48]) (y.getD k [48]) ≠ 0) :
  pad x y = numbers (x.getD k [48]) (y.getD k [48]) := by
 rw [zi7 k x y h, zpj _ _ (by simp only [List.length_drop]; omega)]
 have e1 : (x.drop k).getD 0 [48] = x.getD k [48] := by simp [List.getD_eq_getElem?_getD, List.getElem?_drop]
 have e2 : (y.drop k).getD 0 [48] = y.getD k [48] := by simp [List.getD_eq_getElem?_getD, List.getElem?_drop]
 rw [e1, e2, ke h0]
theorem pad_end (k : Nat) (x y : List Bs) (h : ∀ j, j < k → numbers (x.getD j [48]) (y.getD j [48]) = 0) (hk : ¬ (k < x.length ∨ k < y.length)) : pad x y = 0 := by
 rw [zi7 k x y h, List.drop_of_length_le (by omega), List.drop_of_length_le (by omega), pad]
theorem wn (a : Bs) (l : List Bs) : qe (a :: l) = if (qe l).isEmpty && (value a).isEmpty then [] else a :: qe l := by
 unfold qe
 rw [List.reverse_cons, List.dropWhile_append]
 rcases h : (List.dropWhile (fun x => (value x).isEmpty) l.reverse) with _ | ⟨b, r⟩
 ·rcases hv : (value a).isEmpty with _ | _ <;> simp [hv]
 ·simp
theorem zkf {a b : Bs} (h : value a = []) : numbers a b = if (value b).isEmpty then 0 else -1 := by
 unfold numbers
 rw [h]
 rcases hb : value b with _ | ⟨c, r⟩
 ·rfl
 ·rw [List.isEmpty_cons, if_neg (by decide)]
  unfold Lib.compareInt
  rw [if_pos (by simp; try omega)]; rfl
theorem zml {a b : Bs} (h : value b = []) : numbers a b = if (value a).isEmpty then 0 else 1 := by
 unfold numbers
 rw [h]
 rcases hb : value a with _ | ⟨c, r⟩
 ·rfl
 ·rw [List.isEmpty_cons, if_neg (by decide)]
  unfold Lib.compareInt
  rw [if_neg (by simp; try omega), if_pos (by simp; try omega)]; rfl
theorem znh (l : List Bs) : je numbers [] l = if l.isEmpty then 0 else -1 := by cases l <;> rfl
theorem zj0 (l : List Bs) : je numbers l [] = if l.isEmpty then 0 else 1 := by cases l <;> rfl
theorem zeo : ∀ x y : List Bs, pad x y = je numbers (qe x) (qe y)
 | [], [] => by rw [pad]; rfl
 | [], b :: q => by
  have ih := zeo [] q
  have e : qe [] = [] := rfl
  rw [e, znh] at ih ⊢
  rw [pad, zkf (a := [48]) (by decide), ih, wn]
  rcases (value b).isEmpty with _ | _ <;> rcases (qe q).isEmpty with _ | _ <;> simp [cor]
 | a :: p, [] => by
  have ih := zeo p []
  have e : qe [] = [] := rfl
  rw [e, zj0] at ih ⊢
  rw [pad, zml (b := [48]) (by decide), ih, wn]
  rcases (value a).isEmpty with _ | _ <;> rcases (qe p).isEmpty with _ | _ <;> simp [cor]
 | a :: p, b :: q => by
  have ih := zeo p q
  rw [pad, wn, wn, ih]
  rcases hp : (qe p).isEmpty && (value a).isEmpty with _ | _ <;> rcases hq : (qe q).isEmpty && (value b).isEmpty with _ | _
  ·simp [je]
  ·rw [Bool.and_eq_true, List.isEmpty_iff, List.isEmpty_iff] at hq
   rw [zml hq.2, hq.1, zj0, if_pos rfl, if_neg Bool.false_ne_true, zj0]
   rcases h1 : (value a).isEmpty with _ | _ <;> rcases h2 : (qe p).isEmpty with _ | _ <;> (rw [h1, h2] at hp; simp [cor] at hp ⊢)
  ·rw [Bool.and_eq_true, List.isEmpty_iff, List.isEmpty_iff] at hp
   rw [zkf hp.2, hp.1, znh, if_pos rfl, if_neg Bool.false_ne_true, znh]
   rcases h1 : (value b).isEmpty with _ | _ <;> rcases h2 : (qe q).isEmpty with _ | _ <;> (rw [h1, h2] at hq; simp [cor] at hq ⊢)
  ·rw [Bool.and_eq_true, List.isEmpty_iff, List.isEmpty_iff] at hp hq
   rw [zkf hp.2, hp.1, hq.1, hq.2, if_pos rfl, if_pos rfl]
   rfl
theorem pad_dots (a b : Bs) : pad (zm 46 a) (zm 46 b) = zbl a b := zeo _ _
theorem zrp {o : Bs} (ho : Ascii o) {c : UInt8} (h : kind o c = true) : c.toNat < 128 := by
 unfold kind at h
 rw [Bool.or_eq_true, Bool.or_eq_true] at h
 rcases h with (h | h) | h
 ·have := zk5 h; omega
 ·unfold dig digB at h; simp at h; omega
 ·exact ho c (by simpa using h)
theorem zfh {o : Bs} (ho : Ascii o) {s : Bs} (h : only (kind o) s = true) : Ascii s := fun c hc => by
 unfold only at h
 rw [Bool.and_eq_true, List.all_eq_true] at h
 exact zrp ho (h.1 c hc)
theorem zl7 (l : Bs) (h : l.all (fun c => decide (c.toNat < 128)) = true) : Ascii l := fun c hc => by
 rw [List.all_eq_true] at h
 simpa using h c hc
theorem ze1 {ep s : Bs} {x : Bs × Bs × Bs} (h : jg ep s = some x) : Ascii x.2.1 ∧ Ascii x.2.2 := by
 have a1 : Ascii [46, 43, 126, 45] := zl7 _ (by decide)
 have a2 : Ascii allow := zl7 _ (by decide)
 unfold jg at h
 split at h
 ·split at h
  ·rename_i hk
   simp only [Option.some.injEq] at h; subst h
   rw [Bool.and_eq_true] at hk
   exact ⟨zfh a1 hk.1, fun c hc => by simp at hc⟩
  ·cases h
 ·split at h
  ·rename_i hr
   split at h
   ·rename_i hk
    simp only [Option.some.injEq] at h; subst h
    rw [Bool.and_eq_true] at hk
    exact ⟨zfh a1 hk.1, zfh a2 hr⟩
   ·cases h
  ·cases h
theorem zd9 {v : Bs} {x : Bs × Bs × Bs} (h : zz v = some x) : Ascii x.2.1 ∧ Ascii x.2.2 := by
 unfold zz at h
 split at h
 ·split at h
  ·exact ze1 h
  ·cases h
 ·exact ze1 h
theorem zlk {a b c d : Bs} (h : value a = value c) (g : value b = value d) : numbers a b = numbers c d := by
 unfold numbers; rw [h, g]
end Go.Proofs.YtbikeahmldobkaaGreatDoor.V
namespace Go.Proofs.YtbikeahmldobkaaGreatDoor.V
abbrev Pos := Bs × Bool
def cp (p q : Pos) : Int := cor (cb p.1 q.1) (if p.2 = q.2 then 0 else if q.2 then -1 else 1)
def plt (p q : Pos) : Prop := cp p q < 0
instance (p q : Pos) : Decidable (plt p q) := by unfold plt; infer_instance
theorem zgf (p : Pos) : cp p p = 0 := by unfold cp; simp [vh, cor]
theorem zes (p q : Pos) : cp q p = - cp p q := by
 unfold cp cor
 rw [kd p.1 q.1]
 rcases p with ⟨a, s⟩
 rcases q with ⟨b, t⟩
 rcases s <;> rcases t <;> simp <;> repeat' split
 all_goals omega
theorem cp_eq {p q : Pos} (h : cp p q = 0) : p = q := by
 rcases p with ⟨a, s⟩
 rcases q with ⟨b, t⟩
 unfold cp cor at h
 simp only at h
 split at h
 ·rename_i e
  have := zka e
  subst this
  rcases s <;> rcases t <;> simp at h <;> rfl
 ·omega
theorem cp_trans {p q r : Pos} (h1 : cp p q ≤ 0) (h2 : cp q r ≤ 0) : cp p r ≤ 0 := by
 rcases p with ⟨a, s⟩
 rcases q with ⟨b, t⟩
 rcases r with ⟨c, u⟩
 have t1 := zad a b c
 have ra := zfr a b
 have rb := zfr b c
 have rc := zfr a c
 have t2 := zad c a b
 have t3 := zad b c a
 have n1 := kd a b
 have n2 := kd b c
 have n3 := kd a c
 unfold cp cor at *
 simp only at *
 rcases s <;> rcases t <;> rcases u <;> simp only [if_true, if_false, Bool.false_eq_true, reduceCtorEq] at * <;> (repeat' split at *) <;> omega
theorem qh (p : Pos) : ¬ plt p p := by unfold plt; rw [zgf]; omega
theorem qf {p q r : Pos} (h1 : plt p q) (h2 : plt q r) : plt p r := by
 unfold plt at *
 have h3 := cp_trans (p := p) (q := q) (r := r) (by omega) (by omega)
 by_cases e : cp p r = 0
 ·have := cp_eq e
  subst this
  have := zes p q
  omega
 ·omega
theorem zns (p q : Pos) : plt p q ∨ p = q ∨ plt q p := by
 unfold plt
 have := zes p q
 by_cases e : cp p q = 0
 ·exact .inr (.inl (cp_eq e))
 ·omega
theorem vp {p q : Pos} (h : plt p q) : ¬ plt q p := fun g => qh p (qf h g)
def mem (x : Bool) : List Pos → Pos → Bool
 | [], _ => x
 | p :: l, q => if plt q p then x else mem (!x) l q
def asc (l : List Pos) : Prop := l.Pairwise plt
theorem yz {x : Bool} {q : Pos} : ∀ {l : List Pos}, (∀ p ∈ l, plt q p) → mem x l q = x
 | [], _ => rfl
 | p :: l, h => by unfold mem; rw [if_pos (h p (by simp))]
theorem ztw : ∀ {l m : List Pos} {x : Bool}, asc l → asc m → (∀ q, mem x l q = mem x m q) → l = m
 | [], [], _, _, _, _ => rfl
 | [], p :: m, x, _, hm, h => by
  have := h p
  unfold mem at this
  rw [if_neg (qh p), yz (fun q hq => (List.pairwise_cons.1 hm).1 q hq)] at this
  cases x <;> cases this
 | p :: l, [], x, hl, _, h => by
  have := h p
  unfold mem at this
  rw [if_neg (qh p), yz (fun q hq => (List.pairwise_cons.1 hl).1 q hq)] at this
  cases x <;> cases this
 | p :: l, p' :: m, x, hl, hm, h => by
  obtain ⟨hl1, g0⟩ := List.pairwise_cons.1 hl
  obtain ⟨hm1, g1⟩ := List.pairwise_cons.1 hm
  rcases zns p p' with g | rfl | g
  ·have := h p
   unfold mem at this
   rw [if_neg (qh p), if_pos g, yz hl1] at this
   cases x <;> cases this
  ·have : l = m := ztw (x := !x) g0 g1 (fun q => by
     by_cases g : plt q p
     · rw [yz (fun r hr => qf g (hl1 r hr)), yz (fun r hr => qf g (hm1 r hr))]
     · have := h q
       unfold mem at this
       rwa [if_neg g, if_neg g] at this)
   rw [this]
  ·have := h p'
   unfold mem at this
   rw [if_neg (qh p'), if_pos g, yz hm1] at this
   cases x <;> cases this
abbrev Cut := Bs × Bool
def pos (n : Int) (c : Cut) : Pos := (keyV n c.1, c.2)
def cutC (n : Int) (a b : Cut) : Int := if cmpV n a.1 b.1 ≠ 0 ∨ a.2 = b.2 then cmpV n a.1 b.1 else if b.2 then -1 else 1
theorem zbh {n : Int} (hn : scheme n = true) {a b : Cut} (ha : valid n a.1 = true) (hb : valid n b.1 = true) : cutC n a b = cp (pos n a) (pos n b) := by
 unfold cutC cp pos cor
 simp only
 rw [wl hn ha hb]
 repeat' split
 all_goals (first | rfl | (exfalso; simp_all; done) | (simp_all; done) | omega)
def lesser (a b : Bs) : Bs := if Lib.compareBytes b a < 0 then b else a
def comb (n : Int) (f : Bool → Bool → Bool) (x y now : Bool) : List Cut → List Cut → List Cut
 | [], [] => []
 | c :: l, [] => if f (!x) y = now then comb n f (!x) y now l [] else c :: comb n f (!x) y (f (!x) y) l []
 | [], d :: m => if f x (!y) = now then comb n f x (!y) now [] m else d :: comb n f x (!y) (f x (!y)) [] m
 | c :: l, d :: m =>
  if cutC n c d < 0 then (if f (!x) y = now then comb n f (!x) y now l (d :: m) else c :: comb n f (!x) y (f (!x) y) l (d :: m))
  else if 0 < cutC n c d then (if f x (!y) = now then comb n f x (!y) now (c :: l) m else d :: comb n f x (!y) (f x (!y)) (c :: l) m)
  else (if f (!x) (!y) = now then comb n f (!x) (!y) now l m else (lesser c.1 d.1, c.2) :: comb n f (!x) (!y) (f (!x) (!y)) l m)
termination_by l m => l.length + m.length
end Go.Proofs.YtbikeahmldobkaaGreatDoor.V
namespace Go.Proofs.YtbikeahmldobkaaGreatDoor.V
def emit (c : Cut) (next now : Bool) (R : List Cut) : List Cut := if next = now then R else c :: R
def poss (n : Int) (l : List Cut) : List Pos := l.map (pos n)
theorem zce {n : Int} {c : Cut} {next now : Bool} {R : List Cut} (h : ∀ p ∈ poss n R, plt (pos n c) p) (q : Pos) :
  mem now (poss n (emit c next now R)) q = if plt q (pos n c) then now else mem next (poss n R) q := by
 unfold emit
 by_cases e : next = now
 ·subst e
  rw [if_pos rfl]
  split
  ·rename_i g; exact yz fun p hp => qf g (h p hp)
  ·rfl
 ·rw [if_neg e]
  have : next = !now := by cases next <;> cases now <;> simp_all
  subst this
  rfl
theorem zch {n : Int} {c : Cut} {next now : Bool} {R : List Cut} (h : ∀ p ∈ poss n R, plt (pos n c) p) (hR : asc (poss n R)) : asc (poss n (emit c next now R)) := by
 unfold emit
 split
 ·exact hR
 ·exact List.pairwise_cons.2 ⟨h, hR⟩
theorem xt {c x : Cut} {next now : Bool} {R : List Cut} (h : x ∈ emit c next now R) : x = c ∨ x ∈ R := by
 unfold emit at h
 split at h
 ·exact .inr h
 ·exact List.mem_cons.1 h
theorem comb_l (n : Int) (f : Bool → Bool → Bool) (x y now : Bool) (c : Cut) (l : List Cut) : comb n f x y now (c :: l) [] = emit c (f (!x) y) now (comb n f (!x) y (f (!x) y) l []) := by
 rw [comb]; unfold emit; split
 ·rename_i h; rw [h]
 ·rfl
theorem comb_r (n : Int) (f : Bool → Bool → Bool) (x y now : Bool) (d : Cut) (m : List Cut) : comb n f x y now [] (d :: m) = emit d (f x (!y)) now (comb n f x (!y) (f x (!y)) [] m) := by
 rw [comb]; unfold emit; split
 ·rename_i h; rw [h]
 ·rfl
theorem zt5 {n : Int} {f : Bool → Bool → Bool} {x y now : Bool} {c d : Cut} {l m : List Cut} (h : cutC n c d < 0) : comb n f x y now (c :: l) (d :: m) = emit c (f (!x) y) now (comb n f (!x) y (f (!x) y) l (d :: m)) := by
 rw [comb, if_pos h]; unfold emit; split
 ·rename_i h; rw [h]
 ·rfl
theorem zuh {n : Int} {f : Bool → Bool → Bool} {x y now : Bool} {c d : Cut} {l m : List Cut} (h : 0 < cutC n c d) : comb n f x y now (c :: l) (d :: m) = emit d (f x (!y)) now (comb n f x (!y) (f x (!y)) (c :: l) m) := by
 rw [comb, if_neg (by omega), if_pos h]; unfold emit; split
 ·rename_i h; rw [h]
 ·rfl
theorem zue {n : Int} {f : Bool → Bool → Bool} {x y now : Bool} {c d : Cut} {l m : List Cut} (h : cutC n c d = 0) : comb n f x y now (c :: l) (d :: m) = emit (lesser c.1 d.1, c.2) (f (!x) (!y)) now (comb n f (!x) (!y) (f (!x) (!y)) l m) := by
 rw [comb, if_neg (by omega), if_neg (by omega)]; unfold emit; split
 ·rename_i h; rw [h]
 ·rfl
def vl (n : Int) (l : List Cut) : Prop := ∀ c ∈ l, valid n c.1 = true
theorem zhk (a b : Bs) : lesser a b = a ∨ lesser a b = b := by unfold lesser; split <;> simp
structure CombOk (n : Int) (f : Bool → Bool → Bool) (x y : Bool) (l m R : List Cut) : Prop where
 asc : asc (poss n R)
 sub : ∀ p ∈ poss n R, p ∈ poss n l ∨ p ∈ poss n m
 ok : vl n R
 val : ∀ q, mem (f x y) (poss n R) q = f (mem x (poss n l) q) (mem y (poss n m) q)
 len : R.length ≤ l.length + m.length
theorem mem_cons (x : Bool) (p : Pos) (l : List Pos) (q : Pos) : mem x (p :: l) q = if plt q p then x else mem (!x) l q := rfl
theorem zeh {n : Int} (hn : scheme n = true) (f : Bool → Bool → Bool) : ∀ (k : Nat) (l m : List Cut) (x y : Bool), l.length + m.length ≤ k → vl n l → vl n m → asc (poss n l) → asc (poss n m) →
  CombOk n f x y l m (comb n f x y (f x y) l m)
 | _, [], [], x, y, _, _, _, _, _ => by
  rw [comb]
  exact ⟨List.Pairwise.nil, fun p hp => by simp [poss] at hp, fun c hc => by simp at hc, fun q => rfl, by simp⟩
 | 0, _ :: _, _, _, _, h, _, _, _, _ => by simp at h
 | 0, [], _ :: _, _, _, h, _, _, _, _ => by simp at h
 | k + 1, c :: l, [], x, y, h, hl, hm, al, am => by
  obtain ⟨a1, a2⟩ := List.pairwise_cons.1 (show asc (pos n c :: poss n l) from al)
  have ih := zeh hn f k l [] (!x) y (by simp at h ⊢; omega) (fun d hd => hl d (by simp [hd])) hm a2 am
  rw [comb_l]
  have g0 : ∀ p ∈ poss n (comb n f (!x) y (f (!x) y) l []), plt (pos n c) p := fun p hp => by
   rcases ih.sub p hp with g | g
   ·exact a1 p g
   ·simp [poss] at g
  refine ⟨zch g0 ih.asc, fun p hp => ?_, fun d hd => ?_, fun q => ?_, ?_⟩
  ·obtain ⟨d, hd, rfl⟩ := List.mem_map.1 hp
   rcases xt hd with rfl | hd
   ·exact .inl (by simp [poss])
   ·rcases ih.sub _ (List.mem_map.2 ⟨d, hd, rfl⟩) with g | g
    ·exact .inl (List.mem_cons_of_mem _ g)
    ·simp [poss] at g
  ·rcases xt hd with rfl | hd
   ·exact hl _ (by simp)
   ·exact ih.ok d hd
  ·rw [zce g0, ih.val]
   show _ = f (mem x (pos n c :: poss n l) q) _
   rw [mem_cons]
   split
   ·rfl
   ·rfl
  ·have := ih.len
   unfold emit; split <;> simp at * <;> omega
 | k + 1, [], d :: m, x, y, h, hl, hm, al, am => by
  obtain ⟨a1, a2⟩ := List.pairwise_cons.1 (show asc (pos n d :: poss n m) from am)
  have ih := zeh hn f k [] m x (!y) (by simp at h ⊢; omega) hl (fun d hd => hm d (by simp [hd])) al a2
  rw [comb_r]
  have g0 : ∀ p ∈ poss n (comb n f x (!y) (f x (!y)) [] m), plt (pos n d) p := fun p hp => by
   rcases ih.sub p hp with g | g
   ·simp [poss] at g
   ·exact a1 p g
  refine ⟨zch g0 ih.asc, fun p hp => ?_, fun e he => ?_, fun q => ?_, ?_⟩
  ·obtain ⟨e, he, rfl⟩ := List.mem_map.1 hp
   rcases xt he with rfl | he
   ·exact .inr (by simp [poss])
   ·rcases ih.sub _ (List.mem_map.2 ⟨e, he, rfl⟩) with g | g
    ·simp [poss] at g
    ·exact .inr (List.mem_cons_of_mem _ g)
  ·rcases xt he with rfl | he
   ·exact hm _ (by simp)
   ·exact ih.ok e he
  ·rw [zce g0, ih.val]
   show _ = f _ (mem y (pos n d :: poss n m) q)
   rw [mem_cons]
   split
   ·rfl
   ·rfl
  ·have := ih.len
   unfold emit; split <;> simp at * <;> omega
 | k + 1, c :: l, d :: m, x, y, h, hl, hm, al, am => by
  obtain ⟨a1, a2⟩ := List.pairwise_cons.1 (show asc (pos n c :: poss n l) from al)
  obtain ⟨b1, b2⟩ := List.pairwise_cons.1 (show asc (pos n d :: poss n m) from am)
  have hc := hl c (by simp)
  have hd := hm d (by simp)
  have g3 : vl n l := fun e he => hl e (by simp [he])
  have g4 : vl n m := fun e he => hm e (by simp [he])
  have g1 := zbh hn hc hd
  rcases zns (pos n c) (pos n d) with g | g | g
  ·have hlt : cutC n c d < 0 := by rw [g1]; exact g
   have ih := zeh hn f k l (d :: m) (!x) y (by simp at h ⊢; omega) g3 hm a2 am
   rw [zt5 hlt]
   have g0 : ∀ p ∈ poss n (comb n f (!x) y (f (!x) y) l (d :: m)), plt (pos n c) p := fun p hp => by
    rcases ih.sub p hp with e | e
    ·exact a1 p e
    ·rcases List.mem_cons.1 (show p ∈ pos n d :: poss n m from e) with rfl | e
     ·exact g
     ·exact qf g (b1 p e)
   refine ⟨zch g0 ih.asc, fun p hp => ?_, fun e he => ?_, fun q => ?_, ?_⟩
   ·obtain ⟨e, he, rfl⟩ := List.mem_map.1 hp
    rcases xt he with rfl | he
    ·exact .inl (by simp [poss])
    ·rcases ih.sub _ (List.mem_map.2 ⟨e, he, rfl⟩) with g | g
     ·exact .inl (List.mem_cons_of_mem _ g)
     ·exact .inr g
   ·rcases xt he with rfl | he
    ·exact hc
    ·exact ih.ok e he
   ·rw [zce g0, ih.val]
    show _ = f (mem x (pos n c :: poss n l) q) (mem y (pos n d :: poss n m) q)
    rw [mem_cons x]
    split
    ·rename_i gq
     rw [yz (x := y) (l := pos n d :: poss n m) (fun p hp => ?_)]
     rcases List.mem_cons.1 hp with rfl | e
     ·exact qf gq g
     ·exact qf gq (qf g (b1 p e))
    ·rfl
   ·have := ih.len
    unfold emit; split <;> simp at * <;> omega
  ·have g5 : cutC n c d = 0 := by rw [g1, g]; exact zgf _
   have ih := zeh hn f k l m (!x) (!y) (by simp at h ⊢; omega) g3 g4 a2 b2
   have g2 : pos n (lesser c.1 d.1, c.2) = pos n c := by
    rcases zhk c.1 d.1 with e | e
    ·rw [e]
    ·rw [e]
     have h1 : keyV n c.1 = keyV n d.1 := congrArg Prod.fst g
     show (keyV n d.1, c.2) = (keyV n c.1, c.2)
     rw [h1]
   rw [zue g5]
   have g0 : ∀ p ∈ poss n (comb n f (!x) (!y) (f (!x) (!y)) l m), plt (pos n (lesser c.1 d.1, c.2)) p := fun p hp => by
    rw [g2]
    rcases ih.sub p hp with e | e
    ·exact a1 p e
    ·rw [g]; exact b1 p e
   refine ⟨zch g0 ih.asc, fun p hp => ?_, fun e he => ?_, fun q => ?_, ?_⟩
   ·obtain ⟨e, he, rfl⟩ := List.mem_map.1 hp
    rcases xt he with rfl | he
    ·rw [g2]; exact .inl (by simp [poss])
    ·rcases ih.sub _ (List.mem_map.2 ⟨e, he, rfl⟩) with g | g
     ·exact .inl (List.mem_cons_of_mem _ g)
     ·exact .inr (List.mem_cons_of_mem _ g)
   ·rcases xt he with rfl | he
    ·show valid n (lesser c.1 d.1) = true
     rcases zhk c.1 d.1 with e | e <;> rw [e] <;> assumption
    ·exact ih.ok e he
   ·rw [zce g0, ih.val, g2]
    show _ = f (mem x (pos n c :: poss n l) q) (mem y (pos n d :: poss n m) q)
    rw [mem_cons x, mem_cons y, ← g]
    split
    ·rfl
    ·rfl
   ·have := ih.len
    unfold emit; split <;> simp at * <;> omega
  ·have hlt : 0 < cutC n c d := by
    have g' : cp (pos n d) (pos n c) < 0 := g
    rw [g1]; have := zes (pos n d) (pos n c); omega
   have ih := zeh hn f k (c :: l) m x (!y) (by simp at h ⊢; omega) hl g4 al b2
   rw [zuh hlt]
   have g0 : ∀ p ∈ poss n (comb n f x (!y) (f x (!y)) (c :: l) m), plt (pos n d) p := fun p hp => by
    rcases ih.sub p hp with e | e
    ·rcases List.mem_cons.1 (show p ∈ pos n c :: poss n l from e) with rfl | e
     ·exact g
     ·exact qf g (a1 p e)
    ·exact b1 p e
   refine ⟨zch g0 ih.asc, fun p hp => ?_, fun e he => ?_, fun q => ?_, ?_⟩
   ·obtain ⟨e, he, rfl⟩ := List.mem_map.1 hp
    rcases xt he with rfl | he
    ·exact .inr (by simp [poss])
    ·rcases ih.sub _ (List.mem_map.2 ⟨e, he, rfl⟩) with g | g
     ·exact .inl g
     ·exact .inr (List.mem_cons_of_mem _ g)
   ·rcases xt he with rfl | he
    ·exact hd
    ·exact ih.ok e he
   ·rw [zce g0, ih.val]
    show _ = f (mem x (pos n c :: poss n l) q) (mem y (pos n d :: poss n m) q)
    rw [mem_cons y]
    split
    ·rename_i gq
     rw [yz (x := x) (l := pos n c :: poss n l) (fun p hp => ?_)]
     rcases List.mem_cons.1 hp with rfl | e
     ·exact qf gq g
     ·exact qf gq (qf g (a1 p e))
    ·rfl
   ·have := ih.len
    unfold emit; split <;> simp at * <;> omega
end Go.Proofs.YtbikeahmldobkaaGreatDoor.V
