/-
  Plain Lean, no program: of which bytes versions consist.
-/
import Derived.Test.YtoiabbhppbghdaaP5
namespace Go.Proofs.Ytoiabbhppbghdaa.V

def verB (c : UInt8) : Bool := kind [46, 43, 126, 45, 58] c

theorem split_bytes {P : UInt8 → Prop} (c : UInt8) (hc : P c) : ∀ l : Bs, (∀ x ∈ splitOn c l, ∀ b ∈ x, P b) → ∀ b ∈ l, P b
  | [], _, b, hb => by simp at hb
  | a :: l, h, b, hb => by
    unfold splitOn at h
    by_cases e : a = c
    · subst e
      simp only [beq_self_eq_true, if_true] at h
      rcases List.mem_cons.1 hb with rfl | hb
      · exact hc
      · exact split_bytes a hc l (fun x hx => h x (by simp [hx])) b hb
    · rw [if_neg (by simpa using e)] at h
      rcases hs : splitOn c l with _ | ⟨y, r⟩
      · exact absurd hs (splitOn_ne c l)
      · rw [hs] at h
        simp only at h
        rcases List.mem_cons.1 hb with rfl | hb
        · exact h (b :: y) (by simp) b (by simp)
        · exact split_bytes c hc l (fun x hx z hz => by
            rw [hs] at hx
            rcases List.mem_cons.1 hx with rfl | hx
            · exact h (a :: x) (by simp) z (by simp [hz])
            · exact h x (by simp [hx]) z hz) b hb

theorem tw_whole (c : UInt8) : ∀ l : Bs, c ∈ l → l = l.takeWhile (· != c) ++ c :: l.drop ((l.takeWhile (· != c)).length + 1)
  | [], h => by simp at h
  | b :: l, h => by
    by_cases e : b = c
    · subst e; simp [List.takeWhile_cons]
    · have hb : (b != c) = true := by simpa using e
      have ih := tw_whole c l (by
        rcases List.mem_cons.1 h with h | h
        · exact absurd h.symm e
        · exact h)
      rw [List.takeWhile_cons, if_pos hb, List.length_cons, List.drop_succ_cons, List.cons_append, ← ih]
theorem cut_whole (c : UInt8) (l : Bs) (h : (cut1 c l).2.2 = true) : l = (cut1 c l).1 ++ c :: (cut1 c l).2.1 := by
  unfold cut1 at *
  by_cases hc : c ∈ l
  · rw [if_pos hc]; exact tw_whole c l hc
  · rw [if_neg hc] at h; cases h
theorem cut_none (c : UInt8) (l : Bs) (h : (cut1 c l).2.2 = false) : (cut1 c l).1 = l := by
  unfold cut1 at *
  split
  · rename_i hc; rw [if_pos hc] at h; cases h
  · rfl
theorem cut_bytes {P : UInt8 → Prop} (c : UInt8) (hc : P c) (l : Bs) (h1 : ∀ b ∈ (cut1 c l).1, P b) (h2 : (cut1 c l).2.2 = true → ∀ b ∈ (cut1 c l).2.1, P b) : ∀ b ∈ l, P b := by
  intro b hb
  rcases h : (cut1 c l).2.2 with _ | _
  · rw [cut_none c l h] at h1; exact h1 b hb
  · rw [cut_whole c l h] at hb
    rcases List.mem_append.1 hb with g | g
    · exact h1 b g
    · rcases List.mem_cons.1 g with rfl | g
      · exact hc
      · exact h2 h b g

theorem only_in {p : UInt8 → Bool} {l : Bs} (h : only p l = true) : ∀ b ∈ l, p b = true := by
  unfold only at h
  rw [Bool.and_eq_true, List.all_eq_true] at h
  exact h.1
theorem kind_mono {o o' : Bs} (ho : ∀ c ∈ o, c ∈ o') {c : UInt8} (h : kind o c = true) : kind o' c = true := by
  unfold kind at *
  rw [Bool.or_eq_true] at *
  rcases h with h | h
  · exact .inl h
  · exact .inr (by simpa using ho c (by simpa using h))
theorem numb_in {x : Bs} {e : Bool} (h : numb x e = true) : ∀ b ∈ x, verB b = true := fun b hb => by
  unfold numb digits at h
  rw [Bool.and_eq_true] at h
  have := only_in h.1 b hb
  unfold verB kind; rw [this]; simp
theorem ident_in {x : Bs} {e : Bool} (h : identOk e x = true) : ∀ b ∈ x, verB b = true := fun b hb => by
  unfold identOk at h
  rw [Bool.and_eq_true] at h
  exact kind_mono (by simp) (only_in h.1 b hb)
theorem idents_in {s : Bs} {e : Bool} (h : identifiers s e = true) : ∀ b ∈ s, verB b = true := by
  unfold identifiers at h
  rw [List.all_eq_true] at h
  exact split_bytes 46 (by decide +kernel) s fun x hx => ident_in (h x hx)
theorem dot_in {s : Bs} (h : dotOk s = true) : ∀ b ∈ s, verB b = true := by
  unfold dotOk at h
  rw [List.all_eq_true] at h
  exact split_bytes 46 (by decide +kernel) s fun x hx => numb_in (h x hx)
theorem sem_in {s : Bs} (h : (semParse s).isSome = true) : ∀ b ∈ s, verB b = true := by
  unfold semParse at h
  split at h
  · cases h
  · rename_i hn
    split at h
    · rename_i ha
      rw [List.all_eq_true] at ha
      simp only [Bool.or_eq_true, Bool.and_eq_true, Bool.not_eq_true', not_or, not_and, Bool.not_eq_false] at hn
      obtain ⟨⟨h1, h2⟩, _⟩ := hn
      refine cut_bytes 43 (by decide +kernel) s (cut_bytes 45 (by decide +kernel) _ (split_bytes 46 (by decide +kernel) _ fun x hx => numb_in (ha x hx)) fun e => idents_in (h2 e)) fun e => idents_in (h1 e)
    · cases h
theorem debTail_in {ep s : Bs} (h : (debTail ep s).isSome = true) : ∀ b ∈ s, verB b = true := by
  unfold debTail at h
  split at h
  · split at h
    · rename_i g
      rw [Bool.and_eq_true] at g
      exact fun b hb => kind_mono (by simp) (only_in g.1 b hb)
    · cases h
  · rename_i h0
    split at h
    · rename_i g1
      split at h
      · rename_i g2
        rw [Bool.and_eq_true] at g2
        have e1 := fun b hb => kind_mono (o' := [46, 43, 126, 45, 58]) (by simp) (only_in g2.1 b hb)
        have e2 := fun b hb => kind_mono (o' := [46, 43, 126, 45, 58]) (by simp [allow]) (only_in g1 b hb)
        unfold lastDash at *
        rcases Lib.lastIndexByte_spec ⟨s.toArray⟩ 45 with ⟨e, _⟩ | ⟨i, hi, e, hc, _⟩
        · rw [e] at h0; simp at h0
        · rw [e] at e1 e2
          have hi' : i < s.length := by rw [show (ByteArray.mk s.toArray).size = s.length by show s.toArray.size = _; simp] at hi; exact hi
          intro b hb
          rw [← List.take_append_drop i s, List.drop_eq_getElem_cons hi'] at hb
          rcases List.mem_append.1 hb with q | q
          · exact e1 b (by simpa using q)
          · rcases List.mem_cons.1 q with rfl | q
            · have : s[i] = 45 := by
                have e3 : (ByteArray.mk s.toArray).data[i]! = s[i] := by simp [hi']
                rw [e3] at hc
                exact UInt8.toNat_inj.1 (show s[i].toNat = 45 by omega)
              rw [this]; decide +kernel
            · exact e2 b (by simpa using q)
      · cases h
    · cases h
theorem deb_in {s : Bs} (h : (debParse s).isSome = true) : ∀ b ∈ s, verB b = true := by
  unfold debParse at h
  split at h
  · rename_i hc
    split at h
    · rename_i hn
      exact cut_bytes 58 (by decide +kernel) s (numb_in hn) fun _ => debTail_in h
    · cases h
  · exact debTail_in h
theorem valid_in {n : Int} {v : Bs} (h : valid n v = true) : ∀ b ∈ v, verB b = true := by
  unfold valid schOk at h
  rw [Bool.and_eq_true] at h
  obtain ⟨_, h⟩ := h
  repeat' split at h
  · exact sem_in h
  · exact deb_in h
  · exact dot_in h
  · cases h
theorem valid_not {n : Int} {v : Bs} (h : valid n v = true) {c : UInt8} (hc : verB c = false) : c ∉ v := fun g => by
  rw [valid_in h c g] at hc; cases hc
theorem valid_scheme {n : Int} {v : Bs} (h : valid n v = true) : n = 1 ∨ n = 2 ∨ n = 3 := by
  unfold valid schOk at h
  rw [Bool.and_eq_true] at h
  obtain ⟨_, h⟩ := h
  repeat' split at h
  all_goals first | (cases h; done) | omega
end Go.Proofs.Ytoiabbhppbghdaa.V
