/-
  Plain Lean, no program: package URLs.
-/
import Derived.Test.YtoiabbhppbghdaaJP
import Derived.Test.YtoiabbhppbghdaaJV
namespace Go.Proofs.Ytoiabbhppbghdaa.V

def schName (n : Int) : Bs := if n = 1 then [115, 101, 109, 118, 101, 114] else if n = 2 then [100, 101, 98, 105, 97, 110] else if n = 3 then [100, 111, 116, 116, 101, 100] else []
def schNum (s : Bs) : Int := if s = schName 1 then 1 else if s = schName 2 then 2 else if s = schName 3 then 3 else 0
def pkg : Bs := [112, 107, 103, 58]
def purl (c : Comp) : Bs := pkg ++ schName c.sch ++ [47] ++ c.name ++ [64] ++ c.ver
/-- the package URL and the error -/
def purlR (c : Comp) : Bs × Int := if compOk c then (purl c, 0) else ([], 1)
def zeroDig : List Int := List.replicate 32 0
def lastAt (s : Bs) : Int := Lib.lastIndexByte ⟨s.toArray⟩ 64
def parsed (s : Bs) : Comp := ⟨-1, schNum (cut1 47 (s.drop 4)).1, (cut1 47 (s.drop 4)).2.1.take (lastAt (cut1 47 (s.drop 4)).2.1).toNat, (cut1 47 (s.drop 4)).2.1.drop ((lastAt (cut1 47 (s.drop 4)).2.1).toNat + 1), zeroDig⟩
/-- whether the marks are there -/
def marks (s : Bs) : Bool := Lib.hasPrefix s pkg && ((cut1 47 (s.drop 4)).2.2 && decide (0 ≤ lastAt (cut1 47 (s.drop 4)).2.1))
def parseP (s : Bs) : Option Comp := if marks s && compOk (parsed s) then some (parsed s) else none

theorem cut1_app {c : UInt8} : ∀ {a : Bs}, c ∉ a → ∀ b, cut1 c (a ++ c :: b) = (a, b, true) := by
  intro a h b
  have ht : (a ++ c :: b).takeWhile (· != c) = a := by
    induction a with
    | nil => simp
    | cons x a ih =>
      have hx : (x != c) = true := by
        have : x ≠ c := fun e => h (by simp [e])
        simpa using this
      rw [List.cons_append, List.takeWhile_cons, if_pos hx, ih (fun g => h (by simp [g]))]
  unfold cut1
  rw [if_pos (by simp), ht]
  simp
theorem lastAt_cases (s : Bs) : (lastAt s = -1 ∧ (64 : UInt8) ∉ s) ∨ ∃ i : Nat, i < s.length ∧ lastAt s = i ∧ s = s.take i ++ 64 :: s.drop (i + 1) ∧ (64 : UInt8) ∉ s.drop (i + 1) := by
  unfold lastAt
  have hsz : (ByteArray.mk s.toArray).size = s.length := by show s.toArray.size = _; simp
  have hat : ∀ j (h : j < s.length), (ByteArray.mk s.toArray).data[j]! = s[j] := fun j h => by simp [h]
  rcases Lib.lastIndexByte_spec ⟨s.toArray⟩ 64 with ⟨e, hn⟩ | ⟨i, hi, e, hc, hn⟩
  · refine .inl ⟨e, fun g => ?_⟩
    obtain ⟨j, hj, hs⟩ := List.mem_iff_getElem.1 g
    have := hn j (by rw [hsz]; exact hj)
    rw [hat j hj, hs] at this
    exact this rfl
  · rw [hsz] at hi hn
    rw [hat i hi] at hc
    have h64 : s[i] = 64 := UInt8.toNat_inj.1 (show s[i].toNat = 64 by omega)
    refine .inr ⟨i, hi, e, ?_, fun g => ?_⟩
    · conv => lhs; rw [← List.take_append_drop i s, List.drop_eq_getElem_cons hi, h64]
    · obtain ⟨j, hj, hs⟩ := List.mem_iff_getElem.1 g
      rw [List.getElem_drop] at hs
      have hj' : i + 1 + j < s.length := by simp at hj; omega
      have := hn (i + 1 + j) (by omega) hj'
      rw [hat _ hj', hs] at this
      exact this rfl
theorem lastAt_app {a b : Bs} (h : (64 : UInt8) ∉ b) : lastAt (a ++ 64 :: b) = a.length := by
  rcases lastAt_cases (a ++ 64 :: b) with ⟨_, hn⟩ | ⟨i, hi, e, hs, hn⟩
  · exact absurd (by simp) hn
  · rw [e]
    congr 1
    by_cases h1 : i = a.length
    · exact h1
    · exfalso
      by_cases h2 : i < a.length
      · refine hn ?_
        rw [List.drop_append_of_le_length (by omega)]
        simp
      · have hlen : i < a.length + 1 + b.length := by simp at hi; omega
        have h64 : (a ++ 64 :: b)[i]? = some 64 := by
          rw [hs, List.getElem?_append_right (by simp; omega)]
          have : i - (List.take i (a ++ 64 :: b)).length = 0 := by simp; omega
          rw [this]; rfl
        rw [List.getElem?_append_right (by omega), List.getElem?_cons, if_neg (by omega)] at h64
        exact h (List.mem_of_getElem? h64)
theorem schNum_name {n : Int} (h : n = 1 ∨ n = 2 ∨ n = 3) : schNum (schName n) = n := by
  rcases h with rfl | rfl | rfl <;> decide
theorem schNum_at {s : Bs} {k : Nat} (h1 : 1 ≤ k) (h3 : k ≤ 3) (he : s = schName k) : schNum s = k := by
  subst he; exact schNum_name (by omega)
theorem schNum_no {s : Bs} (h : ∀ j : Nat, 1 ≤ j → j < 4 → ¬ s = schName j) : schNum s = 0 := by
  have a : ¬ s = schName 1 := h 1 (by omega) (by omega)
  have b : ¬ s = schName 2 := h 2 (by omega) (by omega)
  have c : ¬ s = schName 3 := h 3 (by omega) (by omega)
  unfold schNum; rw [if_neg a, if_neg b, if_neg c]
theorem schName_num {s : Bs} (h : schNum s = 1 ∨ schNum s = 2 ∨ schNum s = 3) : schName (schNum s) = s := by
  unfold schNum at *
  split
  · rename_i e; exact e.symm
  · split
    · rename_i e; exact e.symm
    · split
      · rename_i e; exact e.symm
      · simp_all
theorem schName_slash {n : Int} : (47 : UInt8) ∉ schName n := by
  unfold schName
  repeat' split
  all_goals decide
theorem compOk_iff {c : Comp} : compOk c = true ↔ pathOk c.name = true ∧ valid c.sch c.ver = true := by unfold compOk; rw [Bool.and_eq_true]

theorem compOk_len {c : Comp} (h : compOk c = true) : c.name.length ≤ 200 ∧ c.ver.length ≤ 64 := by
  obtain ⟨h1, h2⟩ := compOk_iff.1 h
  unfold pathOk at h1
  unfold valid at h2
  simp only [Bool.and_eq_true, decide_eq_true_eq] at h1 h2
  exact ⟨h1.1.1.2, h2.1.2⟩
theorem schName_len (n : Int) : (schName n).length ≤ 6 := by
  unfold schName
  repeat' split
  all_goals decide

theorem parse_purl {c : Comp} (h : compOk c = true) : parseP (purl c) = some { c with par := -1, dig := zeroDig } := by
  obtain ⟨hp, hv⟩ := compOk_iff.1 h
  have hs := valid_scheme hv
  have hd : (purl c).drop 4 = schName c.sch ++ 47 :: (c.name ++ 64 :: c.ver) := by
    show (pkg ++ schName c.sch ++ [47] ++ c.name ++ [64] ++ c.ver).drop 4 = _
    simp [pkg]
  have hc : cut1 47 ((purl c).drop 4) = (schName c.sch, c.name ++ 64 :: c.ver, true) := by rw [hd]; exact cut1_app schName_slash _
  have hl : lastAt (c.name ++ 64 :: c.ver) = c.name.length := lastAt_app (valid_not hv (by decide +kernel))
  have hm : marks (purl c) = true := by
    unfold marks
    rw [hc, hl]
    have : Lib.hasPrefix (purl c) pkg = true := by simp [Lib.hasPrefix, purl, pkg]
    rw [this]; simp
  have hq : parsed (purl c) = { c with par := -1, dig := zeroDig } := by
    unfold parsed
    rw [hc]
    simp only
    rw [hl, schNum_name hs]
    simp
  unfold parseP
  rw [hm, hq, if_pos (by rw [Bool.true_and]; exact h)]
theorem purl_parse {s : Bs} {a : Comp} (h : parseP s = some a) : compOk a = true ∧ purl a = s ∧ a.par = -1 ∧ a.dig = zeroDig := by
  unfold parseP at h
  split at h
  · rename_i g
    rw [Bool.and_eq_true] at g
    obtain ⟨gm, gc⟩ := g
    simp only [Option.some.injEq] at h
    subst h
    refine ⟨gc, ?_, rfl, rfl⟩
    obtain ⟨_, hv⟩ := compOk_iff.1 gc
    have hs := valid_scheme hv
    unfold marks at gm
    rw [Bool.and_eq_true, Bool.and_eq_true] at gm
    obtain ⟨g1, g2, g3⟩ := gm
    have e1 := cut_whole 47 _ g2
    have hpre : s = pkg ++ s.drop 4 := by
      unfold Lib.hasPrefix at g1
      obtain ⟨t, ht⟩ := List.isPrefixOf_iff_prefix.1 g1
      rw [← ht]; simp [pkg]
    unfold purl parsed
    simp only
    have hn : schName (schNum (cut1 47 (s.drop 4)).1) = (cut1 47 (s.drop 4)).1 := schName_num hs
    rw [hn]
    rcases lastAt_cases (cut1 47 (s.drop 4)).2.1 with ⟨e, _⟩ | ⟨i, hi, e, e2, _⟩
    · rw [e] at g3; simp at g3
    · rw [e]
      simp only [Int.toNat_natCast]
      conv => rhs; rw [hpre, e1, e2]
      simp
  · cases h
end Go.Proofs.Ytoiabbhppbghdaa.V
