import Derived.Test.YtcfbkcapbbhmpaaGreatDoorC39x09
import Derived.Test.YtcfbkcapbbhmpaaGreatDoorC39x01
set_option linter.all false
namespace Go.Proofs.YtcfbkcapbbhmpaaGreatDoor
open Go.RowKit
namespace V
def pkC (p q : Int × Bs) : Int := orI [Lib.compareInt p.1 q.1, Lib.compareBytes p.2 q.2]
theorem pkC_lt {p q : Int × Bs} : pkC p q < 0 ↔ p.1 < q.1 ∨ p.1 = q.1 ∧ cb p.2 q.2 < 0 := by
 have : pkC p q = cor (Lib.compareInt p.1 q.1) (cb p.2 q.2) := by
  show cor _ (cor _ 0) = _
  rw [zcz]
 rw [this]
 unfold Lib.compareInt cor
 repeat' split
 all_goals (first | omega | (simp_all; done) | (simp at *; omega))
theorem zvj {p q r : Int × Bs} (h : pkC p q < 0) (g : pkC q r < 0) : pkC p r < 0 := by
 rw [pkC_lt] at *
 rcases h with h | ⟨h, h2⟩
 ·rcases g with g | ⟨g, g2⟩
  ·exact .inl (by omega)
  ·exact .inl (by omega)
 ·rcases g with g | ⟨g, g2⟩
  ·exact .inl (by omega)
  ·refine .inr ⟨by omega, ?_⟩
   have h3 := za0 p.2 q.2 r.2 (by omega) (by omega)
   by_cases e : cb p.2 r.2 = 0
   ·have e2 := zlr e
    rw [e2] at h2
    rw [kt r.2 q.2] at g2
    omega
   ·omega
theorem pkC_tri {p q : Int × Bs} (h : ¬ pkC p q < 0) (hne : ¬ q = p) : pkC q p < 0 := by
 rw [pkC_lt] at *
 by_cases h1 : q.1 < p.1
 ·exact .inl h1
 ·have h2 : q.1 = p.1 := by
   by_cases h3 : p.1 < q.1
   ·exact absurd (.inl h3) h
   ·omega
  refine .inr ⟨h2, ?_⟩
  have h4 := kt p.2 q.2
  have h5 : ¬ cb p.2 q.2 < 0 := fun e => h (.inr ⟨h2.symm, e⟩)
  by_cases h6 : cb p.2 q.2 = 0
  ·exact absurd (Prod.ext h2 (zlr h6).symm) hne
  ·rw [h4]; omega
def Asc (l : List (Int × Bs)) : Prop := l.Pairwise fun a b => pkC a b < 0
def kr (p : Int × Bs) (l : List (Int × Bs)) : Nat → List (Int × Bs) × Bool
 | 0 => ([], false)
 | k + 1 => match l[k]? with
  | none => kr p l k
  | some x => ((if (kr p l k).2 = false ∧ pkC p x < 0 then (kr p l k).1 ++ [p] else (kr p l k).1) ++ [x], (kr p l k).2 || decide (pkC p x < 0) || decide (x = p))
def addP (p : Int × Bs) (l : List (Int × Bs)) : List (Int × Bs) := if (kr p l l.length).2 = true then (kr p l l.length).1 else (kr p l l.length).1 ++ [p]
theorem zc9 {p : Int × Bs} {l : List (Int × Bs)} {k : Nat} (h : k < l.length) : kr p l (k + 1) = ((if (kr p l k).2 = false ∧ pkC p l[k] < 0 then (kr p l k).1 ++ [p] else (kr p l k).1) ++ [l[k]], (kr p l k).2 || decide (pkC p l[k] < 0) || decide (l[k] = p)) := by
 rw [kr, List.getElem?_eq_getElem h]
theorem zoc {p : Int × Bs} {l : List (Int × Bs)} (hl : Asc l) : ∀ k, k ≤ l.length → ((kr p l k).2 = true ∧ Asc ((kr p l k).1 ++ l.drop k)) ∨ ((kr p l k).2 = false ∧ (kr p l k).1 = l.take k ∧ ∀ x ∈ l.take k, pkC x p < 0)
 | 0, _ => .inr ⟨rfl, rfl, fun x hx => by simp at hx⟩
 | k + 1, hk => by
  have hlt : k < l.length := by omega
  have hd := List.drop_eq_getElem_cons hlt
  have ht : l.take (k + 1) = l.take k ++ [l[k]] := List.take_succ_eq_append_getElem hlt
  have hsplit : l = l.take k ++ l[k] :: l.drop (k + 1) := by rw [← hd, List.take_append_drop]
  rcases zoc hl k (by omega) with ⟨h1, h2⟩ | ⟨h1, h2, h3⟩
  ·left
   rw [zc9 hlt, h1]
   refine ⟨by simp, ?_⟩
   rw [if_neg (by simp)]
   rw [hd] at h2
   simpa using h2
  ·rw [zc9 hlt, h1, h2]
   by_cases hp : pkC p l[k] < 0
   ·left
    refine ⟨by simp [hp], ?_⟩
    rw [if_pos ⟨rfl, hp⟩]
    have hl2 := hl
    unfold Asc at hl2 ⊢
    rw [hsplit, List.pairwise_append, List.pairwise_cons] at hl2
    obtain ⟨a1, ⟨a2, a3⟩, a4⟩ := hl2
    have e : l.take k ++ [p] ++ [l[k]] ++ l.drop (k + 1) = l.take k ++ (p :: l[k] :: l.drop (k + 1)) := by simp
    rw [show ((l.take k ++ [p] ++ [l[k]], false || decide (pkC p l[k] < 0) || decide (l[k] = p)) : List (Int × Bs) × Bool).1 = l.take k ++ [p] ++ [l[k]] from rfl, e, List.pairwise_append, List.pairwise_cons, List.pairwise_cons]
    refine ⟨a1, ⟨fun y hy => ?_, a2, a3⟩, fun x hx y hy => ?_⟩
    ·rcases List.mem_cons.1 hy with rfl | hy
     ·exact hp
     ·exact zvj hp (a2 y hy)
    ·rcases List.mem_cons.1 hy with rfl | hy
     ·exact h3 x hx
     ·exact a4 x hx y hy
   ·rw [if_neg (fun e => hp e.2)]
    by_cases he : l[k] = p
    ·left
     refine ⟨by simp [he], ?_⟩
     show Asc (l.take k ++ [l[k]] ++ l.drop (k + 1))
     rw [List.append_assoc, List.singleton_append, ← hsplit]
     exact hl
    ·right
     refine ⟨by simp [hp, he], ht.symm, fun x hx => ?_⟩
     rw [ht] at hx
     rcases List.mem_append.1 hx with hx | hx
     ·exact h3 x hx
     ·rw [List.mem_singleton.1 hx]
      exact pkC_tri hp he
theorem addP_asc {p : Int × Bs} {l : List (Int × Bs)} (hl : Asc l) : Asc (addP p l) := by
 unfold addP
 rcases zoc (p := p) hl l.length (Nat.le_refl _) with ⟨h1, h2⟩ | ⟨h1, h2, h3⟩
 ·rw [if_pos h1]
  simpa using h2
 ·rw [if_neg (by rw [h1]; decide), h2, List.take_length]
  rw [List.take_length] at h3
  unfold Asc at hl ⊢
  rw [List.pairwise_append]
  exact ⟨hl, List.pairwise_singleton _ _, fun x hx y hy => by rw [List.mem_singleton.1 hy]; exact h3 x hx⟩
theorem zfd {p : Int × Bs} {l : List (Int × Bs)} : ∀ k, k ≤ l.length → (∀ x ∈ (kr p l k).1, x ∈ l ∨ x = p) ∧ (kr p l k).1.length ≤ k + 1 ∧ ((kr p l k).2 = false → (kr p l k).1.length = k)
 | 0, _ => ⟨fun x hx => by simp [kr] at hx, by simp [kr], fun _ => rfl⟩
 | k + 1, hk => by
  have hlt : k < l.length := by omega
  obtain ⟨h1, h2, h3⟩ := zfd (p := p) (l := l) k (by omega)
  rw [zc9 hlt]
  by_cases hc : (kr p l k).2 = false ∧ pkC p l[k] < 0
  ·rw [if_pos hc]
   refine ⟨fun x hx => ?_, by simp; have := h3 hc.1; omega, fun e => by simp [hc.2] at e⟩
   rcases List.mem_append.1 hx with hx | hx
   ·rcases List.mem_append.1 hx with hx | hx
    ·exact h1 x hx
    ·exact .inr (List.mem_singleton.1 hx)
   ·rw [List.mem_singleton.1 hx]; exact .inl (List.getElem_mem hlt)
  ·rw [if_neg hc]
   refine ⟨fun x hx => ?_, by simp; omega, fun e => ?_⟩
   ·rcases List.mem_append.1 hx with hx | hx
    ·exact h1 x hx
    ·rw [List.mem_singleton.1 hx]; exact .inl (List.getElem_mem hlt)
   ·have h4 : (kr p l k).2 = false := by
     cases h : (kr p l k).2
     ·rfl
     ·rw [h] at e; simp at e
    simp [h3 h4]
theorem addP_mem {p : Int × Bs} {l : List (Int × Bs)} {x : Int × Bs} (h : x ∈ addP p l) : x ∈ l ∨ x = p := by
 obtain ⟨h1, _, _⟩ := zfd (p := p) (l := l) l.length (Nat.le_refl _)
 unfold addP at h
 split at h
 ·exact h1 x h
 ·rcases List.mem_append.1 h with h | h
  ·exact h1 x h
  ·exact .inr (List.mem_singleton.1 h)
theorem addP_len {p : Int × Bs} {l : List (Int × Bs)} : (addP p l).length ≤ l.length + 1 := by
 obtain ⟨_, h2, h3⟩ := zfd (p := p) (l := l) l.length (Nat.le_refl _)
 unfold addP
 split
 ·exact h2
 ·rename_i h
  rw [List.length_append, h3 (by simpa using h)]
  exact Nat.le_refl _
def pk (a : Aff) : Int × Bs := (a.sch, a.name)
theorem zmf {l : List Aff} : ∀ {m : Nat}, (∀ k (hk : k < l.length), k < m → zcb l k l[k] = true) → yu l m = true
 | 0, _ => rfl
 | m + 1, h => by
  by_cases hm : m < l.length
  ·rw [zb3 hm, zmf (fun k hk hkm => h k hk (by omega)), h m hm (Nat.lt_succ_self m)]
   rfl
  ·show (yu l m && match l[m]? with | some a => zcb l m a | none => true) = true
   rw [zmf (fun k hk hkm => h k hk (by omega)), List.getElem?_eq_none (by omega)]
   rfl
theorem zvf {l : List Aff} (hs : ∀ a ∈ l, kh a = true) (ha : Asc (l.map pk)) : yu l l.length = true := by
 refine zmf (fun k hk _ => ?_)
 unfold zcb
 rw [hs _ (List.getElem_mem hk), Bool.and_true]
 by_cases h0 : k = 0
 ·simp [h0]
 ·have h1 : k - 1 < l.length := by omega
  have h2 := (List.pairwise_iff_getElem.1 ha) (k - 1) k (by simpa using h1) (by simpa using hk) (by omega)
  rw [List.getElem_map, List.getElem_map] at h2
  have h3 : affC l[k - 1] l[k] < 0 := h2
  rw [List.getD_eq_getElem?_getD, List.getElem?_eq_getElem h1]
  simp [h3]
structure MadeV (x : Adv) : Prop where
 id : xu x.id = true
 idl : x.id.length ≤ 100
 rev0 : 1 ≤ x.rev
 rev1 : x.rev ≤ 3
 sev0 : 1 ≤ x.sev
 sev1 : x.sev ≤ 10
 len : x.aff.length ≤ 3
 snd : ∀ a ∈ x.aff, kh a = true
 asc : Asc (x.aff.map pk)
def zjx : List Bs := [[119, 45, 49], [119, 45, 50], [119, 45, 51]]
theorem madeId {s : Bs} (h : s ∈ zjx) : xu s = true ∧ s.length ≤ 100 := by
 simp only [zjx, List.mem_cons, List.not_mem_nil, or_false] at h
 rcases h with e | e | e <;> (rw [e]; decide)
theorem MadeV.ok {x : Adv} (h : MadeV x) : qp x = true := by
 unfold qp zhb
 have h1 := h.id
 have := h.rev0; have := h.rev1; have := h.sev0; have := h.sev1; have := h.len
 rw [h1, zvf h.snd h.asc]
 simp only [Bool.true_and, Bool.and_true, Bool.and_eq_true, decide_eq_true_eq]
 omega
theorem zn5 {n : Int} {l : List Itv} (h : Ok n l) (h0 : l ≠ []) : (xm l).length ≤ 10000 := by
 rcases l with _ | ⟨x, r⟩
 ·exact absurd rfl h0
 ·have hle : ∀ y ∈ zw x :: r.map zw, y.length ≤ 133 := by
   intro y hy
   rw [← List.map_cons (f := zw), List.mem_map] at hy
   obtain ⟨z, hz, rfl⟩ := hy
   exact (zhl (zqe h hz)).len
  have h1 := zpu hle
  have h2 := h.len
  rw [List.length_map] at h1
  rw [List.length_cons] at h2
  show (Lib.join (zw x :: r.map zw) orT).length ≤ _
  omega
theorem zr0 {ls : List (List Bs)} {b : Nat} (h : ∀ l ∈ ls, jl l l.length ≤ b) : jp ls ls.length ≤ ls.length * b := by
 unfold jp
 rw [List.take_length]
 induction ls with
 | nil => simp
 | cons l ls ih =>
  have h2 := h l (List.mem_cons_self ..)
  have h3 := ih (fun x hx => h x (List.mem_cons_of_mem _ hx))
  simp only [List.map_cons, List.sum_cons, List.length_cons]
  rw [Nat.add_mul, Nat.one_mul]
  omega
theorem zbh (n : Nat) (h : n < 11) : (Lib.decDigits n).length ≤ 2 := by
 have h : n = 0 ∨ n = 1 ∨ n = 2 ∨ n = 3 ∨ n = 4 ∨ n = 5 ∨ n = 6 ∨ n = 7 ∨ n = 8 ∨ n = 9 ∨ n = 10 := by omega
 rcases h with rfl | rfl | rfl | rfl | rfl | rfl | rfl | rfl | rfl | rfl | rfl <;> (unfold Lib.decDigits; simp [Lib.decDigits])
theorem MadeV.words {x : Adv} (h : MadeV x) : ∀ l ∈ qi x, l.length = 4 ∧ ∀ w ∈ l, w.length ≤ 10000 := by
 intro l hl
 unfold qi jw at hl
 rw [List.take_length] at hl
 rcases List.mem_cons.1 hl with rfl | hl
 ·refine ⟨rfl, fun w hw => ?_⟩
  have := h.rev0; have := h.rev1; have := h.sev0; have := h.sev1
  simp only [xp, List.mem_cons, List.not_mem_nil, or_false] at hw
  rcases hw with rfl | rfl | rfl | rfl
  ·decide
  ·have := h.idl; omega
  ·have := zbh x.rev.toNat (by omega); omega
  ·have := zbh x.sev.toNat (by omega); omega
 ·obtain ⟨a, ha, rfl⟩ := List.mem_map.1 hl
  obtain ⟨h1, h2, h3, h4⟩ := yq (h.snd a ha)
  refine ⟨rfl, fun w hw => ?_⟩
  simp only [uw, List.mem_cons, List.not_mem_nil, or_false] at hw
  rcases hw with rfl | rfl | rfl | rfl
  ·decide
  ·have := zel a.sch; omega
  ·have := zfv h1; omega
  ·exact zn5 (zab h4) (fun e => by rw [e] at h3; simp at h3)
theorem zux (a b c d : Bs) : jl [a, b, c, d] [a, b, c, d].length ≤ 3 * (a.length + b.length + c.length + d.length) + 8 := by
 have h1 := xy a; have h2 := xy b; have h3 := xy c; have h4 := xy d
 unfold jl
 simp only [List.length_cons, List.length_nil, List.take_succ_cons, List.take_zero, List.map_cons, List.map_nil, List.sum_cons, List.sum_nil]
 omega
theorem MadeV.line {x : Adv} (h : MadeV x) : ∀ l ∈ qi x, jl l l.length ≤ 31000 := by
 intro l hl
 unfold qi jw at hl
 rw [List.take_length] at hl
 rcases List.mem_cons.1 hl with rfl | hl
 ·have := h.rev0; have := h.rev1; have := h.sev0; have := h.sev1
  have h1 := h.idl
  have h2 := zbh x.rev.toNat (by omega)
  have h3 := zbh x.sev.toNat (by omega)
  have h4 := zux advW x.id (Lib.decDigits x.rev.toNat) (Lib.decDigits x.sev.toNat)
  have h5 : advW.length = 8 := rfl
  unfold xp
  omega
 ·obtain ⟨a, ha, rfl⟩ := List.mem_map.1 hl
  obtain ⟨h1, h2, h3, h4⟩ := yq (h.snd a ha)
  have h5 := zux affW (qb a.sch) a.name (xm a.its)
  have h6 := zel a.sch
  have h7 := zfv h1
  have h8 := zn5 (zab h4) (fun e => by rw [e] at h3; simp at h3)
  have h9 : affW.length = 7 := rfl
  unfold uw
  omega
theorem MadeV.enc {x : Adv} (h : MadeV x) : encE (qi x) = 0 := by
 have hw := h.words
 have hlen : (qi x).length ≤ 4 := by
  unfold qi jw
  rw [List.take_length, List.length_cons, List.length_map]
  have := h.len
  omega
 have hb : zx (qi x) = 0 := ut.2 (fun l hl => by
   obtain ⟨h1, h2⟩ := hw l hl
   exact zc5.2 ⟨by omega, by omega, fun w hx => by have := h2 w hx; omega⟩)
 unfold encE
 rw [if_neg (by omega), if_pos hb, if_neg]
 have h1 := zr0 (ls := qi x) (b := 31000) (fun l hl => h.line l hl)
 have : (qi x).length * 31000 ≤ 4 * 31000 := Nat.mul_le_mul_right _ hlen
 omega
theorem MadeV.encV {x : Adv} (h : MadeV x) : V.encV x = (doc (qi x), 0) := by
 unfold V.encV
 rw [if_pos h.ok, if_pos h.enc]
end V
end Go.Proofs.YtcfbkcapbbhmpaaGreatDoor
