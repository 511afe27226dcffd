/-
  Lemmas for the law.
-/
import Derived.Test.YtnhfaincdabdkaaGreatDoorC36x16
import Derived.Test.YtnhfaincdabdkaaGreatDoorC36x01
set_option linter.all false
namespace Go.Proofs.YtnhfaincdabdkaaGreatDoor
open Go.RowKit
namespace V
def pkC (p q : Int × Bs) : Int := orI [Lib.compareInt p.1 q.1, Lib.compareBytes p.2 q.2]
theorem pkC_lt {p q : Int × Bs} : pkC p q < 0 ↔ p.1 < q.1 ∨ p.1 = q.1 ∧ cb p.2 q.2 < 0 := by
 have : pkC p q = cor (Lib.compareInt p.1 q.1) (cb p.2 q.2) := by
  show cor _ (cor _ 0) = _
  rw [zbz]
 rw [this]
 unfold Lib.compareInt cor
 repeat' split
 all_goals (first | omega | (simp_all; done) | (simp at *; omega))
theorem ztv {p q r : Int × Bs} (h : pkC p q < 0) (g : pkC q r < 0) : pkC p r < 0 := by
 rw [pkC_lt] at *
 rcases h with h | ⟨h, h2⟩
 ·rcases g with g | ⟨g, g2⟩
  ·exact .inl (by omega)
  ·exact .inl (by omega)
 ·rcases g with g | ⟨g, g2⟩
  ·exact .inl (by omega)
  ·refine .inr ⟨by omega, ?_⟩
   have h3 := wn p.2 q.2 r.2 (by omega) (by omega)
   by_cases e : cb p.2 r.2 = 0
   ·have e2 := zj2 e
    rw [e2] at h2
    rw [kd r.2 q.2] at g2
    omega
   ·omega
theorem pkC_tri {p q : Int × Bs} (h : ¬ pkC p q < 0) (hne : ¬ q = p) : pkC q p < 0 := by
 rw [pkC_lt] at *
 by_cases h1 : q.1 < p.1
 ·exact .inl h1
 ·have h2 : q.1 = p.1 := by
   by_cases h3 : p.1 < q.1
   ·exact absurd (.inl h3) h
   ·omega
  refine .inr ⟨h2, ?_⟩
  have h4 := kd p.2 q.2
  have h5 : ¬ cb p.2 q.2 < 0 := fun e => h (.inr ⟨h2.symm, e⟩)
  by_cases h6 : cb p.2 q.2 = 0
  ·exact absurd (Prod.ext h2 (zj2 h6).symm) hne
  ·rw [h4]; omega
def Asc (l : List (Int × Bs)) : Prop := l.Pairwise fun a b => pkC a b < 0
def jz (p : Int × Bs) (l : List (Int × Bs)) : Nat → List (Int × Bs) × Bool
 | 0 => ([], false)
 | k + 1 => match l[k]? with
  | none => jz p l k
  | some x => ((if (jz p l k).2 = false ∧ pkC p x < 0 then (jz p l k).1 ++ [p] else (jz p l k).1) ++ [x], (jz p l k).2 || decide (pkC p x < 0) || decide (x = p))
def addP (p : Int × Bs) (l : List (Int × Bs)) : List (Int × Bs) := if (jz p l l.length).2 = true then (jz p l l.length).1 else (jz p l l.length).1 ++ [p]
theorem zb9 {p : Int × Bs} {l : List (Int × Bs)} {k : Nat} (h : k < l.length) : jz p l (k + 1) = ((if (jz p l k).2 = false ∧ pkC p l[k] < 0 then (jz p l k).1 ++ [p] else (jz p l k).1) ++ [l[k]], (jz p l k).2 || decide (pkC p l[k] < 0) || decide (l[k] = p)) := by
 rw [jz, List.getElem?_eq_getElem h]
theorem zmj {p : Int × Bs} {l : List (Int × Bs)} (hl : Asc l) : ∀ k, k ≤ l.length → ((jz p l k).2 = true ∧ Asc ((jz p l k).1 ++ l.drop k)) ∨ ((jz p l k).2 = false ∧ (jz p l k).1 = l.take k ∧ ∀ x ∈ l.take k, pkC x p < 0)
 | 0, _ => .inr ⟨rfl, rfl, fun x hx => by simp at hx⟩
 | k + 1, hk => by
  have hlt : k < l.length := by omega
  have hd := List.drop_eq_getElem_cons hlt
  have ht : l.take (k + 1) = l.take k ++ [l[k]] := List.take_succ_eq_append_getElem hlt
  have hsplit : l = l.take k ++ l[k] :: l.drop (k + 1) := by rw [← hd, List.take_append_drop]
  rcases zmj hl k (by omega) with ⟨h1, h2⟩ | ⟨h1, h2, h3⟩
  ·left
   rw [zb9 hlt, h1]
   refine ⟨by simp, ?_⟩
   rw [if_neg (by simp)]
   rw [hd] at h2
   simpa using h2
  ·rw [zb9 hlt, h1, h2]
   by_cases hp : pkC p l[k] < 0
   ·left
    refine ⟨by simp [hp], ?_⟩
    rw [if_pos ⟨rfl, hp⟩]
    have hl2 := hl
    unfold Asc at hl2 ⊢
    rw [hsplit, List.pairwise_append, List.pairwise_cons] at hl2
    obtain ⟨a1, ⟨a2, a3⟩, a4⟩ := hl2
    have e : l.take k ++ [p] ++ [l[k]] ++ l.drop (k + 1) = l.take k ++ (p :: l[k] :: l.drop (k + 1)) := by simp
    rw [show ((l.take k ++ [p] ++ [l[k]], false || decide (pkC p l[k] < 0) || decide (l[k] = p)) : List (Int × Bs) × Bool).1 = l.take k ++ [p] ++ [l[k]] from rfl, e, List.pairwise_append, List.pairwise_cons, List.pairwise_cons]
    refine ⟨a1, ⟨fun y hy => ?_, a2, a3⟩, fun x hx y hy => ?_⟩
    ·rcases List.mem_cons.1 hy with rfl | hy
     ·exact hp
     ·exact ztv hp (a2 y hy)
    ·rcases List.mem_cons.1 hy with rfl | hy
     ·exact h3 x hx
     ·exact a4 x hx y hy
   ·rw [if_neg (fun e => hp e.2)]
    by_cases he : l[k] = p
    ·left
     refine ⟨by simp [he], ?_⟩
     show Asc (l.take k ++ [l[k]] ++ l.drop (k + 1))
     rw [List.append_assoc, List.singleton_append, ← hsplit]
     exact hl
    ·right
     refine ⟨by simp [hp, he], ht.symm, fun x hx => ?_⟩
     rw [ht] at hx
     rcases List.mem_append.1 hx with hx | hx
     ·exact h3 x hx
     ·rw [List.mem_singleton.1 hx]
      exact pkC_tri hp he
theorem addP_asc {p : Int × Bs} {l : List (Int × Bs)} (hl : Asc l) : Asc (addP p l) := by
 unfold addP
 rcases zmj (p := p) hl l.length (Nat.le_refl _) with ⟨h1, h2⟩ | ⟨h1, h2, h3⟩
 ·rw [if_pos h1]
  simpa using h2
 ·rw [if_neg (by rw [h1]; decide), h2, List.take_length]
  rw [List.take_length] at h3
  unfold Asc at hl ⊢
  rw [List.pairwise_append]
  exact ⟨hl, List.pairwise_singleton _ _, fun x hx y hy => by rw [List.mem_singleton.1 hy]; exact h3 x hx⟩
theorem zec {p : Int × Bs} {l : List (Int × Bs)} : ∀ k, k ≤ l.length → (∀ x ∈ (jz p l k).1, x ∈ l ∨ x = p) ∧ (jz p l k).1.length ≤ k + 1 ∧ ((jz p l k).2 = false → (jz p l k).1.length = k)
 | 0, _ => ⟨fun x hx => by simp [jz] at hx, by simp [jz], fun _ => rfl⟩
 | k + 1, hk => by
  have hlt : k < l.length := by omega
  obtain ⟨h1, h2, h3⟩ := zec (p := p) (l := l) k (by omega)
  rw [zb9 hlt]
  by_cases hc : (jz p l k).2 = false ∧ pkC p l[k] < 0
  ·rw [if_pos hc]
   refine ⟨fun x hx => ?_, by simp; have := h3 hc.1; omega, fun e => by simp [hc.2] at e⟩
   rcases List.mem_append.1 hx with hx | hx
   ·rcases List.mem_append.1 hx with hx | hx
    ·exact h1 x hx
    ·exact .inr (List.mem_singleton.1 hx)
   ·rw [List.mem_singleton.1 hx]; exact .inl (List.getElem_mem hlt)
  ·rw [if_neg hc]
   refine ⟨fun x hx => ?_, by simp; omega, fun e => ?_⟩
   ·rcases List.mem_append.1 hx with hx | hx
    ·exact h1 x hx
    ·rw [List.mem_singleton.1 hx]; exact .inl (List.getElem_mem hlt)
   ·have h4 : (jz p l k).2 = false := by
     cases h : (jz p l k).2
     ·rfl
     ·rw [h] at e; simp at e
    simp [h3 h4]
theorem addP_mem {p : Int × Bs} {l : List (Int × Bs)} {x : Int × Bs} (h : x ∈ addP p l) : x ∈ l ∨ x = p := by
 obtain ⟨h1, _, _⟩ := zec (p := p) (l := l) l.length (Nat.le_refl _)
 unfold addP at h
 split at h
 ·exact h1 x h
 ·rcases List.mem_append.1 h with h | h
  ·exact h1 x h
  ·exact .inr (List.mem_singleton.1 h)
theorem addP_len {p : Int × Bs} {l : List (Int × Bs)} : (addP p l).length ≤ l.length + 1 := by
 obtain ⟨_, h2, h3⟩ := zec (p := p) (l := l) l.length (Nat.le_refl _)
 unfold addP
 split
 ·exact h2
 ·rename_i h
  rw [List.length_append, h3 (by simpa using h)]
  exact Nat.le_refl _
def pk (a : Aff) : Int × Bs := (a.sch, a.name)
theorem zkv {l : List Aff} : ∀ {m : Nat}, (∀ k (hk : k < l.length), k < m → zbs l k l[k] = true) → uy l m = true
 | 0, _ => rfl
 | m + 1, h => by
  by_cases hm : m < l.length
  ·rw [zco hm, zkv (fun k hk hkm => h k hk (by omega)), h m hm (Nat.lt_succ_self m)]
   rfl
  ·show (uy l m && match l[m]? with | some a => zbs l m a | none => true) = true
   rw [zkv (fun k hk hkm => h k hk (by omega)), List.getElem?_eq_none (by omega)]
   rfl
theorem ztq {l : List Aff} (hs : ∀ a ∈ l, kp a = true) (ha : Asc (l.map pk)) : uy l l.length = true := by
 refine zkv (fun k hk _ => ?_)
 unfold zbs
 rw [hs _ (List.getElem_mem hk), Bool.and_true]
 by_cases h0 : k = 0
 ·simp [h0]
 ·have h1 : k - 1 < l.length := by omega
  have h2 := (List.pairwise_iff_getElem.1 ha) (k - 1) k (by simpa using h1) (by simpa using hk) (by omega)
  rw [List.getElem_map, List.getElem_map] at h2
  have h3 : affC l[k - 1] l[k] < 0 := h2
  rw [List.getD_eq_getElem?_getD, List.getElem?_eq_getElem h1]
  simp [h3]
structure MadeV (x : Adv) : Prop where
 id : zay x.id = true
 idl : x.id.length ≤ 100
 rev0 : 1 ≤ x.rev
 rev1 : x.rev ≤ 3
 sev0 : 1 ≤ x.sev
 sev1 : x.sev ≤ 10
 len : x.aff.length ≤ 3
 snd : ∀ a ∈ x.aff, kp a = true
 asc : Asc (x.aff.map pk)
def zh9 : List Bs := [[119, 45, 49], [119, 45, 50], [119, 45, 51]]
theorem madeId {s : Bs} (h : s ∈ zh9) : zay s = true ∧ s.length ≤ 100 := by
 simp only [zh9, List.mem_cons, List.not_mem_nil, or_false] at h
 rcases h with e | e | e <;> (rw [e]; decide)
theorem MadeV.ok {x : Adv} (h : MadeV x) : ka x = true := by
 unfold ka zia
 have h1 := h.id
 have := h.rev0; have := h.rev1; have := h.sev0; have := h.sev1; have := h.len
 rw [h1, ztq h.snd h.asc]
 simp only [Bool.true_and, Bool.and_true, Bool.and_eq_true, decide_eq_true_eq]
 omega
theorem zmd {n : Int} {l : List Itv} (h : Ok n l) (h0 : l ≠ []) : (uz l).length ≤ 10000 := by
 rcases l with _ | ⟨x, r⟩
 ·exact absurd rfl h0
 ·have hle : ∀ y ∈ qc x :: r.map qc, y.length ≤ 133 := by
   intro y hy
   rw [← List.map_cons (f := qc), List.mem_map] at hy
   obtain ⟨z, hz, rfl⟩ := hy
   exact (zf9 (zoj h hz)).len
  have h1 := znw hle
  have h2 := h.len
  rw [List.length_map] at h1
  rw [List.length_cons] at h2
  show (Lib.join (qc x :: r.map qc) orT).length ≤ _
  omega
theorem zp8 {ls : List (List Bs)} {b : Nat} (h : ∀ l ∈ ls, kc l l.length ≤ b) : ks ls ls.length ≤ ls.length * b := by
 unfold ks
 rw [List.take_length]
 induction ls with
 | nil => simp
 | cons l ls ih =>
  have h2 := h l (List.mem_cons_self ..)
  have h3 := ih (fun x hx => h x (List.mem_cons_of_mem _ hx))
  simp only [List.map_cons, List.sum_cons, List.length_cons]
  rw [Nat.add_mul, Nat.one_mul]
  omega
theorem zao (n : Nat) (h : n < 11) : (Lib.decDigits n).length ≤ 2 := by
 have h : n = 0 ∨ n = 1 ∨ n = 2 ∨ n = 3 ∨ n = 4 ∨ n = 5 ∨ n = 6 ∨ n = 7 ∨ n = 8 ∨ n = 9 ∨ n = 10 := by omega
 rcases h with rfl | rfl | rfl | rfl | rfl | rfl | rfl | rfl | rfl | rfl | rfl <;> (unfold Lib.decDigits; simp [Lib.decDigits])
theorem MadeV.words {x : Adv} (h : MadeV x) : ∀ l ∈ qv x, l.length = 4 ∧ ∀ w ∈ l, w.length ≤ 10000 := by
 intro l hl
 unfold qv kj at hl
 rw [List.take_length] at hl
 rcases List.mem_cons.1 hl with rfl | hl
 ·refine ⟨rfl, fun w hw => ?_⟩
  have := h.rev0; have := h.rev1; have := h.sev0; have := h.sev1
  simp only [xd, List.mem_cons, List.not_mem_nil, or_false] at hw
  rcases hw with rfl | rfl | rfl | rfl
  ·decide
  ·have := h.idl; omega
  ·have := zao x.rev.toNat (by omega); omega
  ·have := zao x.sev.toNat (by omega); omega
 ·obtain ⟨a, ha, rfl⟩ := List.mem_map.1 hl
  obtain ⟨h1, h2, h3, h4⟩ := yy (h.snd a ha)
  refine ⟨rfl, fun w hw => ?_⟩
  simp only [uw, List.mem_cons, List.not_mem_nil, or_false] at hw
  rcases hw with rfl | rfl | rfl | rfl
  ·decide
  ·have := zdm a.sch; omega
  ·have := zeu h1; omega
  ·exact zmd (wu h4) (fun e => by rw [e] at h3; simp at h3)
theorem zta (a b c d : Bs) : kc [a, b, c, d] [a, b, c, d].length ≤ 3 * (a.length + b.length + c.length + d.length) + 8 := by
 have h1 := wi a; have h2 := wi b; have h3 := wi c; have h4 := wi d
 unfold kc
 simp only [List.length_cons, List.length_nil, List.take_succ_cons, List.take_zero, List.map_cons, List.map_nil, List.sum_cons, List.sum_nil]
 omega
theorem MadeV.line {x : Adv} (h : MadeV x) : ∀ l ∈ qv x, kc l l.length ≤ 31000 := by
 intro l hl
 unfold qv kj at hl
 rw [List.take_length] at hl
 rcases List.mem_cons.1 hl with rfl | hl
 ·have := h.rev0; have := h.rev1; have := h.sev0; have := h.sev1
  have h1 := h.idl
  have h2 := zao x.rev.toNat (by omega)
  have h3 := zao x.sev.toNat (by omega)
  have h4 := zta advW x.id (Lib.decDigits x.rev.toNat) (Lib.decDigits x.sev.toNat)
  have h5 : advW.length = 8 := rfl
  unfold xd
  omega
 ·obtain ⟨a, ha, rfl⟩ := List.mem_map.1 hl
  obtain ⟨h1, h2, h3, h4⟩ := yy (h.snd a ha)
  have h5 := zta affW (qn a.sch) a.name (uz a.its)
  have h6 := zdm a.sch
  have h7 := zeu h1
  have h8 := zmd (wu h4) (fun e => by rw [e] at h3; simp at h3)
  have h9 : affW.length = 7 := rfl
  unfold uw
  omega
theorem MadeV.enc {x : Adv} (h : MadeV x) : encE (qv x) = 0 := by
 have hw := h.words
 have hlen : (qv x).length ≤ 4 := by
  unfold qv kj
  rw [List.take_length, List.length_cons, List.length_map]
  have := h.len
  omega
 have hb : qa (qv x) = 0 := ym.2 (fun l hl => by
   obtain ⟨h1, h2⟩ := hw l hl
   exact zdn.2 ⟨by omega, by omega, fun w hx => by have := h2 w hx; omega⟩)
 unfold encE
 rw [if_neg (by omega), if_pos hb, if_neg]
 have h1 := zp8 (ls := qv x) (b := 31000) (fun l hl => h.line l hl)
 have : (qv x).length * 31000 ≤ 4 * 31000 := Nat.mul_le_mul_right _ hlen
 omega
theorem MadeV.encV {x : Adv} (h : MadeV x) : V.encV x = (doc (qv x), 0) := by
 unfold V.encV
 rw [if_pos h.ok, if_pos h.enc]
end V
end Go.Proofs.YtnhfaincdabdkaaGreatDoor
