/-
  Plain: what contains a component, as places; how many components are contained.
-/
import Derived.Test.YtoiabbhppbghdaaJX
import Derived.Test.YtoiabbhppbghdaaJY
namespace Go.Proofs.Ytoiabbhppbghdaa
open Go.RowKit

namespace V
theorem anc_at {l : List Comp} (ho : compsTo l l.length = true) : ∀ (f k : Nat), k < l.length → k < f → ∀ j, j < (anc l k).length →
    ∃ q, ∃ hq : q < l.length, (anc l k)[j]? = some (q : Int) ∧ (j = 0 → q = k) ∧ ((j + 1 = (anc l k).length ∧ l[q].par = -1) ∨ (anc l k)[j + 1]? = some l[q].par)
  | 0, _, _, h, _, _ => by omega
  | f + 1, k, hk, hf, j, hj => by
    have hp := par_lt ho hk
    rw [anc_step ho hk] at hj ⊢
    cases j with
    | zero =>
      refine ⟨k, hk, rfl, fun _ => rfl, ?_⟩
      by_cases hn : l[k].par < 0
      · left
        rw [anc_neg hn]
        exact ⟨rfl, by omega⟩
      · right
        obtain ⟨m, hm⟩ := Int.eq_ofNat_of_zero_le (show 0 ≤ l[k].par by omega)
        rw [hm]
        rw [anc_step ho (show m < l.length by omega)]
        rfl
    | succ j =>
      by_cases hn : l[k].par < 0
      · rw [anc_neg hn] at hj
        simp at hj
      · obtain ⟨m, hm⟩ := Int.eq_ofNat_of_zero_le (show 0 ≤ l[k].par by omega)
        rw [hm] at hj ⊢
        obtain ⟨q, hq, h1, _, h3⟩ := anc_at ho f m (by omega) (by omega) j (by simpa using hj)
        refine ⟨q, hq, by simpa using h1, fun e => by omega, ?_⟩
        rcases h3 with ⟨h3, h4⟩ | h3
        · exact .inl ⟨by simp; omega, h4⟩
        · exact .inr (by simpa using h3)

/-- the path to a component: from the outside -/
theorem path_at {l : List Comp} (ho : compsTo l l.length = true) {k : Nat} (hk : k < l.length) {j : Nat} (hj : j < (anc l k).reverse.length) :
    ∃ q, ∃ hq : q < l.length, (anc l k).reverse[j]? = some (q : Int) ∧ (j + 1 = (anc l k).reverse.length → q = k) ∧ (j = 0 → l[q].par = -1) ∧ (0 < j → (anc l k).reverse[j - 1]? = some l[q].par) := by
  have hl : (anc l k).reverse.length = (anc l k).length := List.length_reverse
  obtain ⟨q, hq, h1, h2, h3⟩ := anc_at ho (k + 1) k hk (by omega) ((anc l k).length - 1 - j) (by omega)
  refine ⟨q, hq, ?_, fun e => h2 (by omega), fun e => ?_, fun e => ?_⟩
  · rw [List.getElem?_reverse (by omega)]; exact h1
  · rcases h3 with ⟨_, h3⟩ | h3
    · exact h3
    · have := (List.getElem?_eq_some_iff.1 h3).1
      omega
  · rcases h3 with ⟨h3, _⟩ | h3
    · omega
    · rw [List.getElem?_reverse (by omega), show (anc l k).length - 1 - (j - 1) = (anc l k).length - 1 - j + 1 by omega]; exact h3
theorem path_pos {l : List Comp} (ho : compsTo l l.length = true) {k : Nat} (hk : k < l.length) : 0 < (anc l k).reverse.length := by
  rw [anc_step ho hk]; simp

/-- how many components have their container below i -/
def under (l : List Comp) (i : Int) : Nat := l.countP fun c => decide (c.par < i)
theorem kids_count (l : List Comp) (p : Int) : ∀ k, k ≤ l.length → (kidsTo l p k).length = (l.take k).countP (fun c => c.par == p)
  | 0, _ => by simp [kidsTo]
  | k + 1, h => by
    rw [kidsTo_step (show k < l.length by omega), List.take_succ_eq_append_getElem (show k < l.length by omega), List.countP_append, ← kids_count l p k (by omega)]
    split
    · rename_i h; simp [h]
    · rename_i h; simp [h]
theorem kids_len (l : List Comp) (p : Int) : (kids l p).length = l.countP (fun c => c.par == p) := by
  have := kids_count l p l.length (Nat.le_refl _)
  rwa [List.take_length] at this
theorem under_step (l : List Comp) (i : Int) : under l (i + 1) = under l i + (kids l i).length := by
  rw [kids_len]
  unfold under
  induction l with
  | nil => rfl
  | cons c r ih =>
    rw [List.countP_cons, List.countP_cons, List.countP_cons, ih]
    by_cases h1 : c.par < i
    · rw [if_pos (by simp; omega), if_pos (by simpa using h1), if_neg (by simp; omega)]; omega
    · by_cases h2 : c.par = i
      · rw [if_pos (by simp; omega), if_neg (by simpa using h1), if_pos (by simpa using h2)]; omega
      · rw [if_neg (by simp; omega), if_neg (by simpa using h1), if_neg (by simpa using h2)]; omega
theorem under_first {l : List Comp} (ho : compsTo l l.length = true) : under l 0 = (kids l (-1)).length := by
  rw [kids_len]
  unfold under
  apply List.countP_congr
  intro c hc
  obtain ⟨j, hj, rfl⟩ := List.mem_iff_getElem.1 hc
  have := par_lt ho hj
  simp; omega
theorem under_all {l : List Comp} (ho : compsTo l l.length = true) : under l l.length = l.length := by
  unfold under
  rw [List.countP_eq_length]
  intro c hc
  obtain ⟨j, hj, rfl⟩ := List.mem_iff_getElem.1 hc
  have := par_lt ho hj
  simp; omega
theorem under_le (l : List Comp) (i : Int) : under l i ≤ l.length := List.countP_le_length
end V
end Go.Proofs.Ytoiabbhppbghdaa
