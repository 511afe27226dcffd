/-
  Plain: encoded documents are decoded to their lines; numbers are read from their digits.
  Plain: encoded inventories are decoded.
-/
import Derived.Test.YtnhfaincdabdkaaGreatDoorP3
import Derived.Test.YtnhfaincdabdkaaGreatDoorV7
import Derived.Test.YtnhfaincdabdkaaGreatDoorDG
import Derived.Test.YtnhfaincdabdkaaGreatDoorPJ
import Derived.Test.YtnhfaincdabdkaaGreatDoorLL
namespace Go.Proofs.YtnhfaincdabdkaaGreatDoor
open Go.RowKit

namespace V
theorem hexV_at : ∀ n : Fin 16, hexV (digU.getD n.val 0) = some n.val := by decide +kernel
theorem u8_parts (c : UInt8) : UInt8.ofNat (16 * (c.toNat / 16) + c.toNat % 16) = c := by
  rw [Nat.div_add_mod]; exact UInt8.ofNat_toNat
theorem unwGo_flat : ∀ w : Bs, unwGo (w.flatMap encB) = some w
  | [] => rfl
  | c :: w => by
    rw [List.flatMap_cons, encB]
    by_cases hp : plainB c = true
    · rw [if_pos hp, List.cons_append, List.nil_append, unwGo_plain hp, unwGo_flat w]; rfl
    · rw [if_neg hp]
      have hc := c.toNat_lt
      have h1 := hexV_at ⟨c.toNat / 16, by omega⟩
      have h2 := hexV_at ⟨c.toNat % 16, by omega⟩
      show unwGo (37 :: digU.getD (c.toNat / 16) 0 :: digU.getD (c.toNat % 16) 0 :: w.flatMap encB) = _
      rw [unwGo_esc h1 h2, u8_parts, if_neg hp, unwGo_flat w]; rfl
theorem digU_rng : ∀ n : Fin 16, 48 ≤ (digU.getD n.val 0).toNat ∧ (digU.getD n.val 0).toNat ≤ 70 := by decide +kernel
theorem encB_rng {c b : UInt8} (h : b ∈ encB c) : 33 ≤ b.toNat ∧ b.toNat ≤ 125 := by
  unfold encB at h
  have hc := c.toNat_lt
  split at h
  · rename_i hp
    simp only [List.mem_singleton] at h
    subst h
    simp [plainB] at hp
    omega
  · have h1 := digU_rng ⟨c.toNat / 16, by omega⟩
    have h2 := digU_rng ⟨c.toNat % 16, by omega⟩
    simp only at h1 h2
    simp only [List.mem_cons, List.not_mem_nil, or_false] at h
    rcases h with rfl | rfl | rfl
    · decide
    · omega
    · omega
theorem word_rng {w : Bs} {b : UInt8} (h : b ∈ word w) : 33 ≤ b.toNat ∧ b.toNat ≤ 126 := by
  unfold word at h
  split at h
  · simp only [List.mem_singleton] at h; subst h; decide
  · obtain ⟨c, _, hb⟩ := List.mem_flatMap.1 h
    have := encB_rng hb
    omega
theorem unwR_w (w : Bs) : unwR (word w) = some w := by
  unfold word
  cases w with
  | nil => rfl
  | cons c w =>
    rw [if_neg (by simp)]
    unfold unwR
    have hne : ¬ (c :: w).flatMap encB = [126] := by
      intro e
      have hb : (126 : UInt8) ∈ (c :: w).flatMap encB := by rw [e]; simp
      obtain ⟨d, _, hd⟩ := List.mem_flatMap.1 hb
      have := encB_rng hd
      have e2 : (126 : UInt8).toNat = 126 := rfl
      omega
    rw [if_neg hne, unwGo_flat]
    simp
theorem splitOn_app (c : UInt8) : ∀ x y : Bs, splitOn c (x ++ c :: y) = splitOn c x ++ splitOn c y
  | [], y => by simp [splitOn]
  | a :: x, y => by
    rw [List.cons_append, splitOn, splitOn, splitOn_app c x y]
    split
    · rfl
    · cases hq : splitOn c x with
      | nil => exact absurd hq (splitOn_ne c x)
      | cons z r => rfl
theorem word_no {w : Bs} {c : UInt8} (h : c.toNat < 33) : c ∉ word w := fun hc => by have := word_rng hc; omega
theorem split_line {l : List Bs} : ∀ k, k + 1 ≤ l.length → splitOn 32 (lineTo l (k + 1)) = (l.take (k + 1)).map word
  | 0, h => by
    rw [lineTo_step, if_pos rfl]
    show splitOn 32 ([] ++ ([] ++ word (l.getD 0 []))) = _
    rw [List.nil_append, List.nil_append, splitOn_none (word_no (by decide))]
    cases l with
    | nil => simp at h
    | cons a l => simp
  | k + 1, h => by
    rw [lineTo_step, if_neg (by omega), List.singleton_append, splitOn_app, split_line k (by omega), splitOn_none (word_no (by decide)), List.take_succ_eq_append_getElem (show k + 1 < l.length by omega), List.map_append]
    simp [List.getD_eq_getElem?_getD, List.getElem?_eq_getElem (show k + 1 < l.length by omega)]
theorem wordsP_map : ∀ l : List Bs, wordsP (l.map word) = some l
  | [] => rfl
  | w :: l => by rw [List.map_cons, wordsP, unwR_w, wordsP_map l]; rfl
def lineB (l : List Bs) : Bs := lineTo l l.length
theorem wordsP_line {l : List Bs} (h : 0 < l.length) : wordsP (splitOn 32 (lineB l)) = some l := by
  obtain ⟨k, hk⟩ : ∃ k, l.length = k + 1 := ⟨l.length - 1, by omega⟩
  unfold lineB
  rw [hk, split_line k (by omega), ← hk, List.take_length, wordsP_map]
theorem lineB_no (l : List Bs) : (10 : UInt8) ∉ lineB l := by
  unfold lineB lineTo
  intro h
  obtain ⟨i, _, hi⟩ := List.mem_flatMap.1 h
  rw [List.mem_append] at hi
  rcases hi with hi | hi
  · split at hi
    · simp at hi
    · simp at hi
  · have := word_rng hi
    have e : (10 : UInt8).toNat = 10 := rfl
    omega
theorem split_doc : ∀ ls : List (List Bs), splitOn 10 (doc ls) = ls.map lineB ++ [[]]
  | [] => rfl
  | l :: ls => by
    have e : doc (l :: ls) = lineB l ++ 10 :: doc ls := by simp [doc, line, lineB]
    rw [e, splitOn_app, splitOn_none (lineB_no l), split_doc ls]
    rfl
theorem rowsP_map : ∀ {ls : List (List Bs)}, (∀ l ∈ ls, 0 < l.length) → rowsP (ls.map lineB) = some ls
  | [], _ => rfl
  | l :: ls, h => by
    rw [List.map_cons, rowsP, wordsP_line (h l (by simp)), rowsP_map (fun x hx => h x (by simp [hx]))]
    rfl
/-- an encoded document is decoded to its lines -/
theorem decP_doc {ls : List (List Bs)} (h : DocOk ls) : decP (doc ls) = (ls, 0) := by
  have h0 : ∀ l ∈ ls, 0 < l.length := fun l hl => (h.line l hl).1
  have hlen : (doc ls).length = docSz ls ls.length := by rw [← docTo_all]; exact docTo_len h0 _ (Nat.le_refl _)
  have hf : firstBad ls = 0 := firstBad_zero.2 fun l hl => chk_zero.2 (h.line l hl)
  unfold decP
  rw [if_neg (by rw [hlen]; have := h.size; omega), split_doc, linesT_rows, rowsP_map h0]
  simp only [hf, if_true]
  rw [if_pos h.lines]
theorem dec_next {n : Nat} (h : ¬ n < 10) : Lib.decDigits n = Lib.decDigits (n / 10) ++ [UInt8.ofNat (48 + n % 10)] := by
  rw [Lib.decDigits, dif_neg h]
theorem u8_dig {n : Nat} (h : n < 10) : (UInt8.ofNat (48 + n)).toNat = 48 + n := by
  rw [UInt8.toNat_ofNat']; omega
theorem dec_facts : ∀ n : Nat, digAll (Lib.decDigits n) = true ∧ valD (Lib.decDigits n) = n ∧ 1 ≤ (Lib.decDigits n).length ∧ (0 < n → (Lib.decDigits n).head? ≠ some 48) := by
  intro n
  induction n using Nat.strongRecOn with
  | _ n ih =>
    by_cases h : n < 10
    · rw [Lib.decDigits_one h]
      have e := u8_dig h
      refine ⟨?_, ?_, by simp, fun h0 => ?_⟩
      · simp [digAll]; omega
      · show 10 * 0 + ((UInt8.ofNat (48 + n)).toNat - 48) = n
        rw [e]; omega
      · intro e2
        simp only [List.head?_cons, Option.some.injEq] at e2
        rw [e2] at e
        have : (48 : UInt8).toNat = 48 := rfl
        omega
    · rw [dec_next h]
      obtain ⟨h1, h2, h3, h4⟩ := ih (n / 10) (by omega)
      have e := u8_dig (n := n % 10) (by omega)
      refine ⟨?_, ?_, by simp, fun h0 => ?_⟩
      · unfold digAll at h1 ⊢
        rw [List.all_append, h1]
        simp ; omega
      · unfold valD at h2 ⊢
        rw [List.foldl_append, h2]
        simp ; omega
      · have h5 := h4 (by omega)
        cases hd : Lib.decDigits (n / 10) with
        | nil => rw [hd] at h3; simp at h3
        | cons a r => rw [hd] at h5; simpa using h5
theorem numP_dec {n : Nat} (h : n ≤ 1099511627776) : numP (Lib.decDigits n) = ((n : Int), true) := by
  obtain ⟨h1, h2, h3, h4⟩ := dec_facts n
  have h5 := dec_len (n := n) (by omega)
  have h6 : ¬ (1 < (Lib.decDigits n).length ∧ (Lib.decDigits n).head? = some 48) := by
    rintro ⟨h6, h7⟩
    by_cases h0 : 0 < n
    · exact h4 h0 h7
    · obtain rfl : n = 0 := by omega
      rw [Lib.decDigits_one (by omega)] at h6
      simp at h6
  unfold numP
  rw [if_pos ⟨h3, h5, h6, h1, by omega⟩, h2]
end V
end Go.Proofs.YtnhfaincdabdkaaGreatDoor
namespace Go.Proofs.YtnhfaincdabdkaaGreatDoor
open Go.RowKit

namespace V
theorem bytesD_d {d : List Int} (hw : ∀ n ∈ d, (Lit.int .u8 n).wf = true) : (bytesD d).map (fun b => (b.toNat : Int)) = d := by
  unfold bytesD
  rw [List.map_map]
  conv => rhs; rw [← List.map_id d]
  refine List.map_congr_left fun n hn => ?_
  have := hw n hn
  simp [Lit.wf, IntKind.min, IntKind.max, IntKind.signed, IntKind.bits] at this
  show ((UInt8.ofNat n.toNat).toNat : Int) = n
  rw [UInt8.toNat_ofNat']
  omega
theorem d32_dig {d : List Int} (hl : d.length = 32) (hw : ∀ n ∈ d, (Lit.int .u8 n).wf = true) : parD (fmtB (bytesD d)) = some (bytesD d) ∧ d32 (parD (fmtB (bytesD d))) = d := by
  have h1 := parD_fmt (d := bytesD d) (by rw [bytesD_len]; exact hl)
  rw [h1, d32_some (by rw [bytesD_len]; exact hl), bytesD_d hw]
  exact ⟨rfl, rfl⟩
theorem readC_comp {c : Comp} (hs : c.sch = 1 ∨ c.sch = 2 ∨ c.sch = 3) (h0 : -1 ≤ c.par) (h1 : c.par < 1000) (hl : c.dig.length = 32) (hw : ∀ n ∈ c.dig, (Lit.int .u8 n).wf = true) : readC (compLine c) = (c, true) := by
  obtain ⟨p, s, n, v, d⟩ := c
  simp only at hs h0 h1 hl hw
  unfold compLine
  simp only
  rw [readC_six, numP_dec (by omega), schNum_name hs]
  have e : (((p + 1).toNat : Nat) : Int) - 1 = p := by omega
  have hs0 : ¬ s = 0 := by omega
  unfold digText
  by_cases hz : d = zeroDig
  · rw [if_pos hz]
    subst hz
    simp only [e]
    simp [hs0]
    rfl
  · rw [if_neg hz, (d32_dig hl hw).2, (d32_dig hl hw).1]
    simp only [e]
    simp [hs0, hz]
theorem readAll_comps : ∀ {cs : List Comp}, (∀ c ∈ cs, readC (compLine c) = (c, true)) → readAll (cs.map compLine) = some cs
  | [], _ => rfl
  | c :: cs, h => by
    rw [List.map_cons, readAll, h c (by simp), readAll_comps (fun x hx => h x (by simp [hx]))]
    rfl
theorem decI_doc {d : List Int} {t : Int} {l : List Comp} (h : invOk d t l = true) (hd : d.length = 32) (hw : ∀ n ∈ d, (Lit.int .u8 n).wf = true) (hc : ∀ c ∈ l, c.dig.length = 32 ∧ ∀ n ∈ c.dig, (Lit.int .u8 n).wf = true) : decI (doc (invLines d t l l.length)) = (d, t, l, 0) := by
  obtain ⟨t0, t1, hl, hk⟩ := inv_parts h
  have h1 := decP_doc (inv_doc h hd fun c hcm => (hc c hcm).1)
  have h2 : readAll ((l.take l.length).map compLine) = some l := by
    rw [List.take_length]
    refine readAll_comps fun c hcm => ?_
    obtain ⟨k, hkl, rfl⟩ := List.mem_iff_getElem.1 hcm
    obtain ⟨a1, a2, a3⟩ := hk k hkl
    exact readC_comp (compOk_sch a1) a2 (by omega) (hc _ hcm).1 (hc _ hcm).2
  unfold decI
  rw [h1]
  simp only [ne_eq, not_true_eq_false, if_false, invLines, headLine]
  rw [h2, (d32_dig hd hw).2, (d32_dig hd hw).1, numP_dec (by omega)]
  have e : ((t.toNat : Nat) : Int) = t := by omega
  simp only [e, h]
  simp
theorem decI_err {b : Bs} {ls : List (List Bs)} {c : Int} (h : decP b = (ls, c)) (hc : ¬ c = 0) : decI b = (zeroDig, 0, [], c) := by
  unfold decI
  rw [h]
  simp [hc]
theorem decI_none {b : Bs} (h : decP b = ([], 0)) : decI b = (zeroDig, 0, [], 2) := by
  unfold decI
  rw [h]
  simp
theorem decI_len {b : Bs} {l : List Bs} {rest : List (List Bs)} (h : decP b = (l :: rest, 0)) (hl : ¬ l.length = 3) : decI b = (zeroDig, 0, [], 2) := by
  unfold decI
  rw [h]
  match l, hl with
  | [], _ => rfl
  | [_], _ => rfl
  | [_, _], _ => rfl
  | [_, _, _], hl => exact absurd rfl hl
  | _ :: _ :: _ :: _ :: _, _ => rfl
theorem decI_no {b : Bs} {a d t : Bs} {rest : List (List Bs)} (h : decP b = ([a, d, t] :: rest, 0)) (hn : ¬ (a = invW ∧ (parD d).isSome = true ∧ (numP t).2 = true)) : decI b = (zeroDig, 0, [], 2) := by
  unfold decI
  rw [h]
  simp only [ne_eq, not_true_eq_false, if_false]
  rw [if_neg hn]
theorem decI_rest {b : Bs} {a d t : Bs} {rest : List (List Bs)} (h : decP b = ([a, d, t] :: rest, 0)) (hn : a = invW ∧ (parD d).isSome = true ∧ (numP t).2 = true) (hr : readAll rest = none) : decI b = (zeroDig, 0, [], 2) := by
  unfold decI
  rw [h]
  simp only [ne_eq, not_true_eq_false, if_false]
  rw [if_pos hn, hr]
theorem decI_all {b : Bs} {a d t : Bs} {rest : List (List Bs)} {cs : List Comp} (h : decP b = ([a, d, t] :: rest, 0)) (hn : a = invW ∧ (parD d).isSome = true ∧ (numP t).2 = true) (hr : readAll rest = some cs) : decI b = if invOk (d32 (parD d)) (numP t).1 cs = true then (d32 (parD d), (numP t).1, cs, 0) else (zeroDig, 0, [], 1) := by
  unfold decI
  rw [h]
  simp only [ne_eq, not_true_eq_false, if_false]
  rw [if_pos hn, hr]
theorem decI_facts (b : Bs) : (decI b).1.length = 32 ∧ (∀ n ∈ (decI b).1, (Lit.int .u8 n).wf = true) ∧ (decI b).2.2.1.length ≤ 1000 := by
  have hz : zeroDig.length = 32 ∧ (∀ n ∈ zeroDig, (Lit.int .u8 n).wf = true) := ⟨by decide, by decide⟩
  unfold decI
  split
  · exact ⟨hz.1, hz.2, Nat.zero_le _⟩
  · split
    · split
      · split
        · exact ⟨hz.1, hz.2, Nat.zero_le _⟩
        · split
          · rename_i h
            exact ⟨d32_len _, d32_wf _, Nat.le_trans (inv_parts h).2.2.1 (by decide)⟩
          · exact ⟨hz.1, hz.2, Nat.zero_le _⟩
      · exact ⟨hz.1, hz.2, Nat.zero_le _⟩
    · exact ⟨hz.1, hz.2, Nat.zero_le _⟩
/-- the components of the first k lines are those of out -/
def readTo (R : List (List Bs)) (k : Nat) (out : List Comp) : Prop := readAll R = (readAll (R.drop k)).map (out ++ ·)
theorem readTo_zero (R : List (List Bs)) : readTo R 0 [] := by
  unfold readTo
  rw [List.drop_zero]
  cases readAll R <;> rfl
theorem readTo_no {R : List (List Bs)} {k : Nat} {out : List Comp} (h : readTo R k out) (hk : k < R.length) (hr : (readC R[k]).2 = false) : readAll R = none := by
  unfold readTo at h
  rw [h, List.drop_eq_getElem_cons hk, readAll, hr]
  rfl
theorem readTo_step {R : List (List Bs)} {k : Nat} {out : List Comp} (h : readTo R k out) (hk : k < R.length) (hr : (readC R[k]).2 = true) : readTo R (k + 1) (out ++ [(readC R[k]).1]) := by
  unfold readTo at h ⊢
  rw [h, List.drop_eq_getElem_cons hk, readAll, hr]
  cases readAll (R.drop (k + 1)) with
  | none => rfl
  | some ys => simp
theorem readTo_end {R : List (List Bs)} {out : List Comp} (h : readTo R R.length out) : readAll R = some out := by
  unfold readTo at h
  rw [h, List.drop_length]
  simp [readAll]
end V
end Go.Proofs.YtnhfaincdabdkaaGreatDoor
