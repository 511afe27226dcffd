/-
  Plain: a list of components is told by its chains; merging unites the chains.
-/
import Derived.Test.YtoiabbhppbghdaaID
import Derived.Test.YtoiabbhppbghdaaJS
namespace Go.Proofs.Ytoiabbhppbghdaa
open Go.RowKit

namespace V
/-- a component without its place -/
def bare (c : Comp) : Comp := { c with par := 0 }
/-- the chain of a component, of the chains of those before it -/
def link (cs : List (List Comp)) (c : Comp) : List Comp := bare c :: (if 0 ≤ c.par then cs.getD c.par.toNat [] else [])
def chains (l : List Comp) : List (List Comp) := l.foldl (fun cs c => cs ++ [link cs c]) []
theorem chains_snoc (l : List Comp) (c : Comp) : chains (l ++ [c]) = chains l ++ [link (chains l) c] := by
  unfold chains
  rw [List.foldl_append]
  rfl
theorem chains_take {l : List Comp} {k : Nat} (h : k < l.length) : chains (l.take (k + 1)) = chains (l.take k) ++ [link (chains (l.take k)) l[k]] := by
  rw [List.take_succ_eq_append_getElem h, chains_snoc]
theorem chains_len_take (l : List Comp) : ∀ k, k ≤ l.length → (chains (l.take k)).length = k
  | 0, _ => rfl
  | k + 1, h => by rw [chains_take (by omega), List.length_append, chains_len_take l k (by omega)]; rfl
theorem chains_len (l : List Comp) : (chains l).length = l.length := by
  have := chains_len_take l l.length (Nat.le_refl _)
  rwa [List.take_length] at this
theorem chains_pre (l : List Comp) (k : Nat) : ∀ m, k + m ≤ l.length → chains (l.take k) <+: chains (l.take (k + m))
  | 0, _ => List.prefix_rfl
  | m + 1, h => by
    rw [show k + (m + 1) = k + m + 1 by omega, chains_take (by omega)]
    exact (chains_pre l k m (by omega)).trans (List.prefix_append _ _)
theorem chains_prefix (l : List Comp) {k : Nat} (h : k ≤ l.length) : chains (l.take k) <+: chains l := by
  have := chains_pre l k (l.length - k) (by omega)
  rwa [show k + (l.length - k) = l.length by omega, List.take_length] at this
theorem chains_pre_get (l : List Comp) {k j : Nat} (h : k ≤ l.length) (hj : j < k) : (chains (l.take k))[j]? = (chains l)[j]? := by
  obtain ⟨r, hr⟩ := chains_prefix l h
  rw [← hr, List.getElem?_append_left (by rw [chains_len_take l k h]; exact hj)]
/-- every component lies behind what contains it -/
def Behind (l : List Comp) : Prop := ∀ k (h : k < l.length), -1 ≤ l[k].par ∧ l[k].par < k
theorem chains_at {l : List Comp} (hb : Behind l) {k : Nat} (h : k < l.length) : (chains l)[k]? = some (link (chains l) l[k]) := by
  rw [← chains_pre_get l (show k + 1 ≤ l.length by omega) (by omega), chains_take h, List.getElem?_append_right (by rw [chains_len_take l k (by omega)]; exact Nat.le_refl _), chains_len_take l k (by omega), Nat.sub_self]
  show some _ = _
  congr 1
  unfold link
  split
  · rename_i hp
    have := (hb k h).2
    rw [List.getD_eq_getElem?_getD, List.getD_eq_getElem?_getD, chains_pre_get l (by omega) (by omega)]
  · rfl
theorem link_ne (cs : List (List Comp)) (c : Comp) : link cs c ≠ [] := by unfold link; simp
theorem chains_ne {l : List Comp} (hb : Behind l) {k : Nat} (h : k < l.length) : ∃ x, (chains l)[k]? = some x ∧ x ≠ [] := ⟨_, chains_at hb h, link_ne _ _⟩
theorem link_inj {l : List Comp} (hb : Behind l) (hn : (chains l).Nodup) {c d : Comp} (hc : -1 ≤ c.par ∧ c.par < l.length) (hd : -1 ≤ d.par ∧ d.par < l.length) (h : link (chains l) c = link (chains l) d) : c = d := by
  unfold link at h
  injection h with h1 h2
  have hp : c.par = d.par := by
    by_cases p : 0 ≤ c.par
    · obtain ⟨m, hm⟩ := Int.eq_ofNat_of_zero_le p
      obtain ⟨x, hx, hx0⟩ := chains_ne hb (show m < l.length by omega)
      rw [if_pos p] at h2
      by_cases q : 0 ≤ d.par
      · obtain ⟨m', hm'⟩ := Int.eq_ofNat_of_zero_le q
        obtain ⟨x', hx', hx0'⟩ := chains_ne hb (show m' < l.length by omega)
        rw [if_pos q, hm, hm', List.getD_eq_getElem?_getD, List.getD_eq_getElem?_getD] at h2
        simp only [Int.ofNat_eq_natCast, Int.toNat_natCast] at h2
        rw [hx, hx'] at h2
        simp at h2
        subst h2
        have hmm : m = m' := (List.getElem?_inj (show m < (chains l).length by rw [chains_len]; omega) hn).1 (hx.trans hx'.symm)
        omega
      · rw [if_neg q, hm, List.getD_eq_getElem?_getD] at h2
        simp only [Int.ofNat_eq_natCast, Int.toNat_natCast] at h2
        rw [hx] at h2
        simp at h2
        exact absurd h2 hx0
    · rw [if_neg p] at h2
      by_cases q : 0 ≤ d.par
      · obtain ⟨m', hm'⟩ := Int.eq_ofNat_of_zero_le q
        obtain ⟨x', hx', hx0'⟩ := chains_ne hb (show m' < l.length by omega)
        rw [if_pos q, hm', List.getD_eq_getElem?_getD] at h2
        simp only [Int.ofNat_eq_natCast, Int.toNat_natCast] at h2
        rw [hx'] at h2
        simp at h2
        exact absurd h2 hx0'
      · omega
  unfold bare at h1
  obtain ⟨p1, s1, n1, v1, d1⟩ := c
  obtain ⟨p2, s2, n2, v2, d2⟩ := d
  simp at h1 hp ⊢
  exact ⟨hp, h1⟩
theorem behind_take {l : List Comp} (hb : Behind l) (k : Nat) : Behind (l.take k) := fun j h => by
  have hj : j < l.length := by simp at h; omega
  rw [List.getElem_take]
  exact hb j hj
theorem chains_nodup_take {l : List Comp} (hb : Behind l) (hn : ∀ k (h : k < l.length), l[k] ∉ l.take k) : ∀ k, k ≤ l.length → (chains (l.take k)).Nodup
  | 0, _ => List.nodup_nil
  | k + 1, h => by
    have hk : k < l.length := by omega
    have ih := chains_nodup_take hb hn k (by omega)
    have hlt : (l.take k).length = k := by simp; omega
    rw [chains_take hk, List.nodup_append]
    refine ⟨ih, by simp, fun x hx y hy e => ?_⟩
    rw [List.mem_singleton.1 hy] at e
    obtain ⟨j, hj, hj2⟩ := List.getElem_of_mem hx
    rw [chains_len_take l k (by omega)] at hj
    have hq : (chains (l.take k))[j]? = some x := by rw [← hj2]; exact List.getElem?_eq_getElem _
    rw [chains_at (behind_take hb k) (by omega)] at hq
    have h1 := (behind_take hb k) j (by omega)
    have h2 := hb k hk
    have := link_inj (c := (l.take k)[j]) (d := l[k]) (behind_take hb k) ih (by omega) (by omega) (by rw [← Option.some.inj hq] at e; exact e)
    exact hn k hk (by rw [← this]; exact List.getElem_mem _)
theorem ok_behind {l : List Comp} (ho : compsTo l l.length = true) : Behind l := fun k h => by
  have := compAt_iff.1 (compsTo_at ho h)
  exact ⟨this.2.1, this.2.2.1⟩
theorem ok_nodup {l : List Comp} (ho : compsTo l l.length = true) : (chains l).Nodup := by
  have := chains_nodup_take (ok_behind ho) (fun k h => (compAt_iff.1 (compsTo_at ho h)).2.2.2) l.length (Nat.le_refl _)
  rwa [List.take_length] at this
/-- a list is told by its chains -/
theorem chains_told {a b : List Comp} (ha : compsTo a a.length = true) (hb : compsTo b b.length = true) (h : chains a = chains b) : a = b := by
  have hl : a.length = b.length := by rw [← chains_len a, ← chains_len b, h]
  refine List.ext_getElem hl fun k h1 h2 => ?_
  have e1 := chains_at (ok_behind ha) h1
  have e2 := chains_at (ok_behind hb) h2
  rw [← h] at e2
  have b1 := ok_behind ha k h1
  have b2 := ok_behind hb k h2
  exact link_inj (ok_behind ha) (ok_nodup ha) (by omega) (by omega) (Option.some.inj (e1.symm.trans e2))

structure MergeOk (a b : List Comp) (k : Nat) (out : List Comp) (st : List Int) : Prop where
  ok : compsTo out out.length = true
  chains : chains out = chains a ++ (chains (b.take k)).filter (fun x => decide (x ∉ chains a))
  len : st.length = k
  at_ : ∀ j, j < k → ∃ m : Nat, st[j]? = some (m : Int) ∧ m < out.length ∧ (V.chains out)[m]? = (V.chains b)[j]?
theorem comp_ok {l : List Comp} (ho : compsTo l l.length = true) {k : Nat} (h : k < l.length) : compOk l[k] = true := (compAt_iff.1 (compsTo_at ho h)).1
theorem merge_ok {a b : List Comp} (ha : compsTo a a.length = true) (hb : compsTo b b.length = true) : ∀ k, k ≤ b.length → MergeOk a b k (mergeTo a b k).1 (mergeTo a b k).2
  | 0, _ => ⟨ha, by simp [mergeTo_zero, V.chains], rfl, fun j h => by omega⟩
  | k + 1, h => by
    have hk : k < b.length := by omega
    obtain ⟨ok, hch, hlen, hat⟩ := merge_ok ha hb k (by omega)
    have hbk := ok_behind hb k hk
    have hbb := ok_behind hb
    have hob := ok_behind ok
    have hon := ok_nodup ok
    have hat2 := hat
    rw [mergeTo_step hk]
    unfold mStep
    generalize (mergeTo a b k).1 = out at *
    generalize (mergeTo a b k).2 = st at *
    -- the chain of the component moved
    have hmv : -1 ≤ (moved st b[k]).par ∧ (moved st b[k]).par < out.length ∧ link (V.chains out) (moved st b[k]) = link (V.chains b) b[k] ∧ compOk (moved st b[k]) = true := by
      unfold moved
      split
      · rename_i hp
        obtain ⟨m, hm⟩ := Int.eq_ofNat_of_zero_le hp
        obtain ⟨q, hq1, hq2, hq3⟩ := hat m (by omega)
        have e : st.getD (b[k].par).toNat 0 = (q : Int) := by
          rw [hm]; simp only [Int.ofNat_eq_natCast, Int.toNat_natCast]
          rw [List.getD_eq_getElem?_getD, hq1]; rfl
        refine ⟨by simp only [e]; omega, by simp only [e]; omega, ?_, comp_ok hb hk⟩
        unfold link bare
        simp only [e]
        rw [if_pos (by omega), if_pos hp, hm]
        simp only [Int.ofNat_eq_natCast, Int.toNat_natCast]
        rw [List.getD_eq_getElem?_getD, List.getD_eq_getElem?_getD, hq3]
      · rename_i hp
        refine ⟨hbk.1, by omega, ?_, comp_ok hb hk⟩
        unfold link
        rw [if_neg hp, if_neg hp]
    obtain ⟨hm1, hm2, hm3, hm4⟩ := hmv
    have hck := chains_at hbb hk
    have htk : V.chains (b.take (k + 1)) = V.chains (b.take k) ++ [link (V.chains b) b[k]] := by
      have h1 := chains_len_take b (k + 1) (by omega)
      have h2 : (V.chains (b.take (k + 1)))[k]? = some (link (V.chains b) b[k]) := by rw [chains_pre_get b (by omega) (by omega)]; exact hck
      rw [chains_take hk] at h2 ⊢
      rw [List.getElem?_append_right (by rw [chains_len_take b k (by omega)]; exact Nat.le_refl _), chains_len_take b k (by omega), Nat.sub_self] at h2
      simp at h2
      rw [h2]
    generalize moved st b[k] = c at *
    generalize hlk : link (V.chains b) b[k] = x at *
    split
    · rename_i hmem
      obtain ⟨m, hm, hml, hmc⟩ := ixOf_mem hmem
      have hcm := chains_at hob hml
      rw [hmc, hm3] at hcm
      refine ⟨ok, ?_, by simp [hlen], fun j hj => ?_⟩
      · show V.chains out = _
        rw [htk, List.filter_append, hch]
        have hxa : x ∈ V.chains a := by
          have hx : x ∈ V.chains out := List.mem_of_getElem? hcm
          rw [hch] at hx
          rcases List.mem_append.1 hx with hx | hx
          · exact hx
          · have h3 := (List.mem_filter.1 hx).1
            have hnd := chains_nodup_take hbb (fun k h => (compAt_iff.1 (compsTo_at hb h)).2.2.2) (k + 1) (by omega)
            rw [htk, List.nodup_append] at hnd
            exact absurd rfl (hnd.2.2 x h3 x (by simp))
        simp [hxa]
      · show ∃ q : Nat, (st ++ [ixOf out c])[j]? = some (q : Int) ∧ q < out.length ∧ _
        by_cases hjk : j < k
        · rw [List.getElem?_append_left (by omega)]
          exact hat j hjk
        · obtain rfl : j = k := by omega
          rw [List.getElem?_append_right (by omega), hlen, Nat.sub_self, hm]
          exact ⟨m, rfl, hml, by rw [hcm, hck]⟩
    · rename_i hmem
      have hnx : x ∉ V.chains out := fun hx => by
        obtain ⟨j, hj, hj2⟩ := List.getElem_of_mem hx
        rw [chains_len] at hj
        have hq : (V.chains out)[j]? = some x := by rw [← hj2]; exact List.getElem?_eq_getElem _
        rw [chains_at hob hj, ← hm3] at hq
        have h1 := hob j hj
        have := link_inj hob hon (by omega) (by omega) (Option.some.inj hq)
        exact hmem (by rw [← this]; exact List.getElem_mem _)
      have hcs : V.chains (out ++ [c]) = V.chains out ++ [x] := by rw [chains_snoc, hm3]
      refine ⟨compsTo_more ok hm4 hm1 hm2 hmem, ?_, by simp [hlen], fun j hj => ?_⟩
      · show V.chains (out ++ [c]) = _
        have hxa : x ∉ V.chains a := fun hx => hnx (by rw [hch]; exact List.mem_append_left _ hx)
        rw [hcs, htk, List.filter_append, hch]
        simp [hxa]
      · show ∃ q : Nat, (st ++ [(out.length : Int)])[j]? = some (q : Int) ∧ q < (out ++ [c]).length ∧ (V.chains (out ++ [c]))[q]? = _
        rw [hcs]
        by_cases hjk : j < k
        · obtain ⟨q, h1, h2, h3⟩ := hat j hjk
          refine ⟨q, by rw [List.getElem?_append_left (by omega)]; exact h1, by simp; omega, ?_⟩
          rw [List.getElem?_append_left (by rw [chains_len]; exact h2)]
          exact h3
        · obtain rfl : j = k := by omega
          refine ⟨out.length, by rw [List.getElem?_append_right (by omega), hlen, Nat.sub_self]; rfl, by simp, ?_⟩
          rw [List.getElem?_append_right (by rw [chains_len]; exact Nat.le_refl _), chains_len, Nat.sub_self, hck]
          rfl
/-- merging two valid lists -/
theorem mergeL_ok {a b : List Comp} (ha : compsTo a a.length = true) (hb : compsTo b b.length = true) : compsTo (mergeL a b) (mergeL a b).length = true := (merge_ok ha hb _ (Nat.le_refl _)).ok
theorem mergeL_chains {a b : List Comp} (ha : compsTo a a.length = true) (hb : compsTo b b.length = true) : chains (mergeL a b) = chains a ++ (chains b).filter (fun x => decide (x ∉ chains a)) := by
  have := (merge_ok ha hb _ (Nat.le_refl _)).chains
  rwa [List.take_length] at this
theorem mergeL_len (a b : List Comp) : (mergeL a b).length ≤ a.length + b.length := mergeTo_out _ (Nat.le_refl _)
theorem mergeL_assoc {a b c : List Comp} (ha : compsTo a a.length = true) (hb : compsTo b b.length = true) (hc : compsTo c c.length = true) : mergeL (mergeL a b) c = mergeL a (mergeL b c) := by
  refine chains_told (mergeL_ok (mergeL_ok ha hb) hc) (mergeL_ok ha (mergeL_ok hb hc)) ?_
  rw [mergeL_chains (mergeL_ok ha hb) hc, mergeL_chains ha (mergeL_ok hb hc), mergeL_chains ha hb, mergeL_chains hb hc]
  rw [List.filter_append, List.append_assoc, List.filter_filter]
  congr 2
  refine List.filter_congr fun x _ => ?_
  by_cases h1 : x ∈ chains a <;> by_cases h2 : x ∈ chains b <;> simp [h1, h2]
theorem mergeL_self {a : List Comp} (ha : compsTo a a.length = true) : mergeL a a = a := by
  refine chains_told (mergeL_ok ha ha) ha ?_
  rw [mergeL_chains ha ha]
  simp
theorem mergeL_again {a b : List Comp} (ha : compsTo a a.length = true) (hb : compsTo b b.length = true) : mergeL (mergeL a b) b = mergeL a b := by
  refine chains_told (mergeL_ok (mergeL_ok ha hb) hb) (mergeL_ok ha hb) ?_
  rw [mergeL_chains (mergeL_ok ha hb) hb]
  simp only [List.append_right_eq_self, List.filter_eq_nil_iff, decide_eq_true_eq, Decidable.not_not]
  intro x hx
  rw [mergeL_chains ha hb]
  by_cases h1 : x ∈ chains a
  · exact List.mem_append_left _ h1
  · exact List.mem_append_right _ (List.mem_filter.2 ⟨hx, by simpa using h1⟩)
end V
end Go.Proofs.Ytoiabbhppbghdaa
