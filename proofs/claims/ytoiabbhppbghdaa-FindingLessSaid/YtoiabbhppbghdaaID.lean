/-
  Plain: merging lists of components.
-/
import Derived.Test.YtoiabbhppbghdaaIC
import Derived.Test.YtoiabbhppbghdaaJP
namespace Go.Proofs.Ytoiabbhppbghdaa
open Go.RowKit

namespace V
/-- a component whose container has moved -/
def moved (st : List Int) (c : Comp) : Comp := if 0 ≤ c.par then { c with par := st.getD c.par.toNat 0 } else c
def mStep (s : List Comp × List Int) (c : Comp) : List Comp × List Int :=
  if moved s.2 c ∈ s.1 then (s.1, s.2 ++ [ixOf s.1 (moved s.2 c)]) else (s.1 ++ [moved s.2 c], s.2 ++ [(s.1.length : Int)])
def mergeTo (a b : List Comp) (k : Nat) : List Comp × List Int := (b.take k).foldl mStep (a, [])
def mergeL (a b : List Comp) : List Comp := (mergeTo a b b.length).1
theorem mergeTo_zero (a b : List Comp) : mergeTo a b 0 = (a, []) := rfl
theorem mergeTo_step {a b : List Comp} {k : Nat} (h : k < b.length) : mergeTo a b (k + 1) = mStep (mergeTo a b k) b[k] := by
  unfold mergeTo
  rw [List.take_succ_eq_append_getElem h, List.foldl_append]
  rfl
theorem mergeTo_len {a b : List Comp} : ∀ k, k ≤ b.length → (mergeTo a b k).2.length = k
  | 0, _ => rfl
  | k + 1, h => by
    rw [mergeTo_step h]
    unfold mStep
    split
    · simp [mergeTo_len (a := a) (b := b) k (by omega)]
    · simp [mergeTo_len (a := a) (b := b) k (by omega)]
theorem mergeTo_out {a b : List Comp} : ∀ k, k ≤ b.length → (mergeTo a b k).1.length ≤ a.length + k
  | 0, _ => by simp [mergeTo_zero]
  | k + 1, h => by
    have := mergeTo_out (a := a) (b := b) k (by omega)
    rw [mergeTo_step h]
    unfold mStep
    split
    · show (mergeTo a b k).1.length ≤ _
      omega
    · show ((mergeTo a b k).1 ++ _).length ≤ _
      simp; omega
theorem ixOf_mem {l : List Comp} {c : Comp} (h : c ∈ l) : ∃ m : Nat, ixOf l c = m ∧ ∃ hm : m < l.length, l[m] = c := by
  have h2 := List.idxOf_lt_length_iff.2 h
  refine ⟨l.idxOf c, by unfold ixOf; rw [if_pos h], h2, ?_⟩
  exact List.getElem_idxOf h2
/-- every place so far is one of the list's -/
theorem mergeTo_st {a b : List Comp} : ∀ k, k ≤ b.length → ∀ x ∈ (mergeTo a b k).2, ∃ m : Nat, x = m ∧ m < (mergeTo a b k).1.length
  | 0, _ => fun x hx => by simp [mergeTo_zero] at hx
  | k + 1, h => by
    have ih := mergeTo_st (a := a) (b := b) k (by omega)
    intro x hx
    rw [mergeTo_step h] at hx ⊢
    unfold mStep at hx ⊢
    split at hx
    · rename_i hm
      rw [if_pos hm]
      rcases List.mem_append.1 hx with hx | hx
      · exact ih x hx
      · obtain ⟨m, h1, h2, _⟩ := ixOf_mem hm
        rw [List.mem_singleton.1 hx]
        exact ⟨m, h1, h2⟩
    · rename_i hm
      rw [if_neg hm]
      rcases List.mem_append.1 hx with hx | hx
      · obtain ⟨m, h1, h2⟩ := ih x hx
        exact ⟨m, h1, by simp; omega⟩
      · rw [List.mem_singleton.1 hx]
        exact ⟨_, rfl, by simp⟩
theorem invOk_parts {d : List Int} {t : Int} {l : List Comp} (h : invOk d t l = true) : compsTo l l.length = true ∧ l.length ≤ 128 ∧ 0 ≤ t ∧ t ≤ 1099511627776 := by
  unfold invOk headOk at h
  simp only [Bool.and_eq_true, decide_eq_true_eq] at h
  obtain ⟨⟨_, h1, h2, h3⟩, h4⟩ := h
  exact ⟨h4, h3, h1, h2⟩
/-- which error merging returns -/
def mergeErr (d : List Int) (t : Int) (l : List Comp) (d' : List Int) (t' : Int) (l' : List Comp) : Int :=
  if invOk d t l = true ∧ invOk d' t' l' = true then (if d = d' then (if 128 < (mergeL l l').length then 3 else 0) else 9) else 1
/-- digest, time and components of what it returns -/
def mergeVal (d : List Int) (t : Int) (l : List Comp) (d' : List Int) (t' : Int) (l' : List Comp) : List Int × Int × List Comp :=
  if mergeErr d t l d' t' l' = 0 then (d, max t t', mergeL l l') else (zero32, 0, [])
end V
theorem moved_wf {st : List Int} {c : V.Comp} (hc : CompWf c) (h : ∀ x ∈ st, (Lit.int .i64 x).wf = true) : CompWf (V.moved st c) := by
  unfold V.moved
  split
  · refine { hc with par := ?_ }
    show (Lit.int .i64 (st.getD _ 0)).wf = true
    rw [List.getD_eq_getElem?_getD]
    cases hq : st[c.par.toNat]? with
    | none => rfl
    | some x => exact h x (List.mem_of_getElem? hq)
  · exact hc
end Go.Proofs.Ytoiabbhppbghdaa
