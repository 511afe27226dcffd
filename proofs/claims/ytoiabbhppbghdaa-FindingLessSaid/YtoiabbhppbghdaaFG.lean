/-
  Plain: what is open, and the worst of it.
-/
import Derived.Test.YtoiabbhppbghdaaFB
namespace Go.Proofs.Ytoiabbhppbghdaa
open Go.RowKit

namespace V
theorem openL_openL (l : List Fnd) {a b : Int} (h : a ≤ b) : openL (openL l a) b = openL l b := by
  unfold openL
  rw [List.filter_filter]
  congr 1
  funext f
  by_cases h1 : b ≤ f.sev
  · rw [decide_eq_true h1, decide_eq_true (show a ≤ f.sev by omega)]
    cases isOpen f.st <;> rfl
  · rw [decide_eq_false h1]
    simp
/-- what a round of Worst keeps -/
def WInv (pre : List Fnd) (s : Int × Bool) : Prop :=
  (s.2 = false → s.1 = 0 ∧ ∀ f ∈ pre, isOpen f.st = false) ∧ (s.2 = true → (∃ f ∈ pre, isOpen f.st = true ∧ f.sev = s.1) ∧ ∀ f ∈ pre, isOpen f.st = true → f.sev ≤ s.1)
theorem WInv.step {pre : List Fnd} {s : Int × Bool} (h : WInv pre s) (f : Fnd) : WInv (pre ++ [f]) (worstStep s f) := by
  obtain ⟨m, b⟩ := s
  obtain ⟨h1, h2⟩ := h
  simp only at h1 h2
  unfold worstStep
  simp only
  rcases ho : isOpen f.st with _ | _
  · rw [if_neg (by simp)]
    refine ⟨fun hb => ⟨(h1 hb).1, fun g hg => ?_⟩, fun hb => ⟨?_, fun g hg hgo => ?_⟩⟩
    · rcases List.mem_append.1 hg with hg | hg
      · exact (h1 hb).2 g hg
      · rw [List.mem_singleton.1 hg]; exact ho
    · obtain ⟨g, hg, hh⟩ := (h2 hb).1
      exact ⟨g, List.mem_append_left _ hg, hh⟩
    · rcases List.mem_append.1 hg with hg | hg
      · exact (h2 hb).2 g hg hgo
      · rw [List.mem_singleton.1 hg] at hgo; rw [ho] at hgo; cases hgo
  · by_cases hc : (!b || decide (m < f.sev)) = true
    · rw [if_pos (by rw [hc]; rfl)]
      refine ⟨fun hb => (by cases hb), fun _ => ⟨⟨f, by simp, ho, rfl⟩, fun g hg hgo => ?_⟩⟩
      rcases List.mem_append.1 hg with hg | hg
      · show g.sev ≤ f.sev
        cases b with
        | false => rw [(h1 rfl).2 g hg] at hgo; cases hgo
        | true =>
          have := (h2 rfl).2 g hg hgo
          simp at hc
          omega
      · rw [List.mem_singleton.1 hg]; exact Int.le_refl _
    · rw [if_neg (by simpa using hc)]
      cases b with
      | false => simp at hc
      | true =>
        refine ⟨fun hb => (by cases hb), fun _ => ⟨?_, fun g hg hgo => ?_⟩⟩
        · obtain ⟨g, hg, hh⟩ := (h2 rfl).1
          exact ⟨g, List.mem_append_left _ hg, hh⟩
        · rcases List.mem_append.1 hg with hg | hg
          · exact (h2 rfl).2 g hg hgo
          · rw [List.mem_singleton.1 hg]
            simp at hc
            exact hc
theorem winv_fold : ∀ (l pre : List Fnd) (s : Int × Bool), WInv pre s → WInv (pre ++ l) (l.foldl worstStep s)
  | [], pre, s, h => by rw [List.append_nil]; exact h
  | f :: l, pre, s, h => by
    have := winv_fold l (pre ++ [f]) _ (h.step f)
    rw [List.append_assoc] at this
    exact this
theorem winv (l : List Fnd) : WInv l (worstTo l l.length) := by
  have := winv_fold (l.take l.length) [] (0, false) ⟨fun _ => ⟨rfl, fun f hf => by cases hf⟩, fun h => by cases h⟩
  rw [List.nil_append, List.take_length] at this
  unfold worstTo
  rw [List.take_length]
  exact this
theorem open_above (l : List Fnd) : openL l (worst l + 1) = [] := by
  unfold openL
  rw [List.filter_eq_nil_iff]
  intro f hf hc
  simp only [Bool.and_eq_true, decide_eq_true_eq] at hc
  obtain ⟨ho, hs⟩ := hc
  obtain ⟨h1, h2⟩ := winv l
  unfold worst at hs
  cases hb : (worstTo l l.length).2 with
  | false => rw [(h1 hb).2 f hf] at ho; cases ho
  | true => have := (h2 hb).2 f hf ho; omega
theorem worst_zero (l : List Fnd) (hl : ∀ f ∈ l, 1 ≤ f.sev) : worst l = 0 ↔ openL l 1 = [] := by
  obtain ⟨h1, h2⟩ := winv l
  unfold worst openL
  rw [List.filter_eq_nil_iff]
  cases hb : (worstTo l l.length).2 with
  | false =>
    refine ⟨fun _ f hf hc => ?_, fun _ => (h1 hb).1⟩
    rw [(h1 hb).2 f hf] at hc
    simp at hc
  | true =>
    obtain ⟨f, hf, ho, hs⟩ := (h2 hb).1
    have := hl f hf
    refine ⟨fun h0 => by omega, fun h => absurd ?_ (h f hf)⟩
    rw [ho, decide_eq_true this]
    rfl
theorem worst_le (l : List Fnd) (M : Int) (hM : 0 ≤ M) (hl : ∀ f ∈ l, 0 ≤ f.sev ∧ f.sev ≤ M) : 0 ≤ worst l ∧ worst l ≤ M := by
  obtain ⟨h1, h2⟩ := winv l
  unfold worst
  cases hb : (worstTo l l.length).2 with
  | false => rw [(h1 hb).1]; exact ⟨by omega, hM⟩
  | true =>
    obtain ⟨f, hf, ho, hs⟩ := (h2 hb).1
    rw [← hs]
    exact hl f hf
end V
end Go.Proofs.Ytoiabbhppbghdaa
