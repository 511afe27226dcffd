/-
  Plain Lean, no program: numbers of any length are compared by their value.
-/
import Derived.Test.YtabeblbhbekjaaaP3
namespace Go.Proofs.Ytabeblbhbekjaaa.V

theorem compareR_ok {n : Int} {a b : Bs} (hs : scheme n = true) (ha : valid n a = true) (hb : valid n b = true) : compareR n a b = (cmpV n a b, 0) := by
  unfold compareR; rw [hs, ha, hb]; rfl

/-- a 1 and some digits behind it -/
structure Num (v : Bs) : Prop where
  all : v.all dig = true
  one : v.getD 0 0 = 49
  pos : 0 < v.length

theorem Num.digits {v : Bs} (h : Num v) : digits v = true := by
  unfold V.digits only
  rw [h.all]
  have := h.pos
  cases v with
  | nil => simp at this
  | cons => rfl

theorem dig_ne {c d : UInt8} (h : dig c = true) (hd : dig d = false) : c ≠ d := fun e => by rw [e, hd] at h; cases h

theorem all_not_mem {v : Bs} {c : UInt8} (h : v.all dig = true) (hc : dig c = false) : c ∉ v := fun hm => by
  rw [List.all_eq_true] at h
  have := h c hm
  rw [hc] at this; cases this

theorem value_cons {v : Bs} (h : v.getD 0 0 ≠ 48) : value v = v := by
  cases v with
  | nil => rfl
  | cons b l =>
    have : (b == 48) = false := by simpa using h
    simp [value, List.dropWhile_cons, this]

theorem value_zeros (z : Nat) (v : Bs) : value (List.replicate z 48 ++ v) = value v := by
  induction z with
  | zero => rfl
  | succ z ih => rw [List.replicate_succ]; simp [value] at ih ⊢

theorem Num.value {v : Bs} (h : Num v) : value v = v := value_cons (by rw [h.one]; decide)

theorem numbers_same {a b : Bs} (h : value a = value b) : numbers a b = 0 := by
  have hc : ∀ l : Bs, Lib.compareBytes l l = 0 := fun l => by
    induction l with
    | nil => rfl
    | cons b l ih => simp [Lib.compareBytes, ih]
  unfold numbers
  rw [h, hc]
  simp [Lib.compareInt, cor]

theorem numbers_less {a b : Bs} (h : (value a).length < (value b).length) : numbers a b = -1 := by
  unfold numbers Lib.compareInt
  rw [if_pos (by omega)]; rfl

theorem zeros_all (z : Nat) {v : Bs} (h : v.all dig = true) : (List.replicate z 48 ++ v).all dig = true := by
  rw [List.all_append, h]
  have : (List.replicate z (48 : UInt8)).all dig = true := by
    rw [List.all_eq_true]; intro x hx; rw [List.mem_replicate] at hx; rw [hx.2]; decide
  rw [this]; rfl

theorem only_digits {v : Bs} (h : v.all dig = true) (h0 : 0 < v.length) : digits v = true := by
  unfold digits only; rw [h]
  cases v <;> simp at h0 ⊢

theorem dot_one {v : Bs} (h : v.all dig = true) (h0 : 0 < v.length) (h1 : v.length ≤ 64) : valid 3 v = true := by
  have hs : splitOn 46 v = [v] := splitOn_none (all_not_mem h (by decide))
  unfold valid schOk dotOk
  rw [hs]
  simp [numb, only_digits h h0]; omega

theorem dot_parse {v : Bs} (h : v.all dig = true) (hv : value v ≠ []) : dotParse v = [v] := by
  have hs : splitOn 46 v = [v] := splitOn_none (all_not_mem h (by decide))
  unfold dotParse; rw [hs]
  have : (value v).isEmpty = false := by cases hx : value v <;> simp_all
  simpa using stripEnd_stop [] v this

theorem dot_cmp {a b : Bs} (ha : a.all dig = true) (hb : b.all dig = true) (h1 : value a ≠ []) (h2 : value b ≠ []) (l1 : a.length ≤ 64) (l2 : b.length ≤ 64) : compareR 3 a b = (numbers a b, 0) := by
  have p1 : 0 < a.length := by cases a <;> simp_all [value]
  have p2 : 0 < b.length := by cases b <;> simp_all [value]
  have e : listCmp numbers [a] [b] = numbers a b := by
    unfold listCmp; simp [listCmp]; unfold cor; split <;> simp_all
  rw [compareR_ok (by decide) (dot_one ha p1 l1) (dot_one hb p2 l2)]
  unfold cmpV dotCmp
  rw [if_neg (by decide), if_neg (by decide), dot_parse ha h1, dot_parse hb h2, e]

theorem tw_all {p : UInt8 → Bool} {v : Bs} (h : v.all p = true) (r : Bs) : (v ++ r).takeWhile p = v ++ r.takeWhile p ∧ (v ++ r).dropWhile p = r.dropWhile p := by
  induction v with
  | nil => simp
  | cons b l ih => simp at h; simp [h.1, ih (by simpa using h.2)]

theorem take_false {v : Bs} (h : dig (v.getD 0 0) = true) (h0 : 0 < v.length) : takeD v false = ([], v) := by
  cases v with
  | nil => simp at h0
  | cons b l =>
    have h : dig b = true := h
    simp [takeD, List.takeWhile_cons, List.dropWhile_cons, h]

theorem take_true {v : Bs} (h : v.all dig = true) : takeD (v ++ [97]) true = (v, [97]) := by
  have := tw_all (p := fun c => dig c == true) (v := v) (by simpa using h) [97]
  unfold takeD
  rw [this.1, this.2]
  have : dig 97 = false := by decide
  simp [this, List.takeWhile_cons, List.dropWhile_cons]

theorem texts_a : textsC [97] [97] = 0 := by decide +kernel

theorem texts_num {a b : Bs} (ha : a.all dig = true) (hb : b.all dig = true) (h1 : 0 < a.length) (h2 : 0 < b.length) (h : numbers a b = 0) : textsC (a ++ [97]) (b ++ [97]) = 0 := by
  have da : dig ((a ++ [97]).getD 0 0) = true := by
    cases a with
    | nil => simp at h1
    | cons x l => simp at ha; simpa using ha.1
  have db : dig ((b ++ [97]).getD 0 0) = true := by
    cases b with
    | nil => simp at h2
    | cons x l => simp at hb; simpa using hb.1
  rw [textsC_step _ _ (by simp), take_false da (by simp), take_false db (by simp)]
  simp only [take_true ha, take_true hb, h, texts_a]
  rfl

theorem lastDash_none {v : Bs} (h : (45 : UInt8) ∉ v) : lastDash v < 0 := by
  unfold lastDash
  rcases Lib.lastIndexByte_spec ⟨v.toArray⟩ 45 with ⟨e, _⟩ | ⟨i, hi, e, hc, _⟩
  · omega
  · exfalso
    have hi' : i < v.length := hi
    have : (ByteArray.mk v.toArray).data[i]! = v[i] := by simp [hi']
    rw [this] at hc
    have e2 : v[i] = 45 := by
      rw [← UInt8.toNat_inj]
      have : v[i].toNat = 45 := by omega
      rw [this]; rfl
    exact h (e2 ▸ List.getElem_mem hi')

theorem deb_one {a : Bs} (ha : a.all dig = true) (h1 : 0 < a.length) : debParse (a ++ [97]) = some ([], a ++ [97], []) := by
  have n58 : (58 : UInt8) ∉ a ++ [97] := by
    intro h; rw [List.mem_append] at h
    rcases h with h | h
    · exact all_not_mem ha (by decide) h
    · simp at h
  have n45 : (45 : UInt8) ∉ a ++ [97] := by
    intro h; rw [List.mem_append] at h
    rcases h with h | h
    · exact all_not_mem ha (by decide) h
    · simp at h
  have hk : only (kind [46, 43, 126, 45]) (a ++ [97]) = true := by
    unfold only
    rw [List.all_append]
    have : a.all (kind [46, 43, 126, 45]) = true := by
      rw [List.all_eq_true] at ha ⊢
      intro x hx; unfold kind; rw [ha x hx]; simp
    rw [this]
    have : [(97 : UInt8)].all (kind [46, 43, 126, 45]) = true := by decide
    rw [this]; simp
  have hd : dig ((a ++ [97]).getD 0 0) = true := by
    cases a with
    | nil => simp at h1
    | cons x l => simp at ha; simpa using ha.1
  unfold debParse cut1
  rw [if_neg n58]
  simp only [Bool.false_eq_true, if_false]
  unfold debTail
  rw [if_pos (lastDash_none n45), hk, hd]; rfl

theorem deb_cmp {a b : Bs} (ha : a.all dig = true) (hb : b.all dig = true) (h1 : 0 < a.length) (h2 : 0 < b.length) (l1 : a.length ≤ 63) (l2 : b.length ≤ 63) (h : numbers a b = 0) : compareR 2 (a ++ [97]) (b ++ [97]) = (0, 0) := by
  have v1 : valid 2 (a ++ [97]) = true := by unfold valid schOk; rw [if_neg (by decide), if_pos rfl, deb_one ha h1]; simp; omega
  have v2 : valid 2 (b ++ [97]) = true := by unfold valid schOk; rw [if_neg (by decide), if_pos rfl, deb_one hb h2]; simp; omega
  rw [compareR_ok (by decide) v1 v2]
  unfold cmpV
  rw [if_neg (by decide), if_pos rfl, deb_one ha h1, deb_one hb h2]
  simp only [debCmp, texts_num ha hb h1 h2 h]
  rfl

theorem split_dots {a : Bs} (ha : (46 : UInt8) ∉ a) : splitOn 46 (a ++ [46, 48, 46, 48]) = [a, [48], [48]] := by
  induction a with
  | nil => decide
  | cons x l ih =>
    rw [List.mem_cons, not_or] at ha
    have hx : (x == 46) = false := by simpa using fun e => ha.1 e.symm
    rw [List.cons_append, splitOn, hx, ih ha.2]; rfl

theorem sem_one {a : Bs} (ha : Num a) : semParse (a ++ [46, 48, 46, 48]) = some ([a, [48], [48]], []) := by
  have n43 : (43 : UInt8) ∉ a ++ [46, 48, 46, 48] := by
    intro h; rw [List.mem_append] at h
    rcases h with h | h
    · exact all_not_mem ha.all (by decide) h
    · simp at h
  have n45 : (45 : UInt8) ∉ a ++ [46, 48, 46, 48] := by
    intro h; rw [List.mem_append] at h
    rcases h with h | h
    · exact all_not_mem ha.all (by decide) h
    · simp at h
  have n46 : (46 : UInt8) ∉ a := all_not_mem ha.all (by decide)
  have hn : numb a true = true := by unfold numb; rw [ha.digits, ha.one]; simp
  have hz : numb [48] true = true := by decide
  have c1 : cut1 43 (a ++ [46, 48, 46, 48]) = (a ++ [46, 48, 46, 48], [], false) := by unfold cut1; rw [if_neg n43]
  have c2 : cut1 45 (a ++ [46, 48, 46, 48]) = (a ++ [46, 48, 46, 48], [], false) := by unfold cut1; rw [if_neg n45]
  unfold semParse
  rw [c1]
  simp only
  rw [c2]
  simp only [split_dots n46]
  simp [hn, hz]

theorem sem_cmp {a b : Bs} (ha : Num a) (hb : Num b) (l1 : a.length ≤ 60) (l2 : b.length ≤ 60) (h : numbers a b = -1) : compareR 1 (a ++ [46, 48, 46, 48]) (b ++ [46, 48, 46, 48]) = (-1, 0) := by
  have v1 : valid 1 (a ++ [46, 48, 46, 48]) = true := by unfold valid schOk; rw [if_pos rfl, sem_one ha]; simp; omega
  have v2 : valid 1 (b ++ [46, 48, 46, 48]) = true := by unfold valid schOk; rw [if_pos rfl, sem_one hb]; simp; omega
  rw [compareR_ok (by decide) v1 v2]
  unfold cmpV
  rw [if_pos rfl, sem_one ha, sem_one hb]
  simp [semCmp, orI, cor, h]

theorem Num.snoc {v : Bs} (h : Num v) {c : UInt8} (hc : dig c = true) : Num (v ++ [c]) := by
  refine ⟨by rw [List.all_append, h.all]; simp [hc], ?_, by simp⟩
  have := h.pos
  cases v with
  | nil => simp at this
  | cons x l => simpa using h.one

theorem Num.first : Num [49] := ⟨by decide, rfl, by decide⟩

/-- all four -/
theorem numbers_law {v : Bs} (h : Num v) (z : Nat) (hz : z ≤ 20) (hl : v.length ≤ 31) :
    compareR 3 v (List.replicate z 48 ++ v) = (0, 0) ∧ compareR 3 (List.replicate z 48 ++ v) (v ++ [48]) = (-1, 0) ∧
    compareR 2 ((List.replicate z 48 ++ v) ++ [97]) (v ++ [97]) = (0, 0) ∧ compareR 1 (v ++ [46, 48, 46, 48]) (v ++ [48, 46, 48, 46, 48]) = (-1, 0) := by
  have hw := zeros_all z h.all
  have hs : Num (v ++ [48]) := h.snoc (by decide)
  have hv := h.value
  have hvw : V.value (List.replicate z 48 ++ v) = v := by rw [value_zeros, hv]
  have hne : v ≠ [] := by have := h.pos; intro e; rw [e] at this; simp at this
  have lw : (List.replicate z (48 : UInt8) ++ v).length ≤ 51 := by simp; omega
  have hsl : (v ++ [(48 : UInt8)]).length = v.length + 1 := by simp
  have n1 : numbers (List.replicate z 48 ++ v) v = 0 := numbers_same (by rw [hvw, hv])
  refine ⟨?_, ?_, ?_, ?_⟩
  · rw [dot_cmp h.all hw (by rw [hv]; exact hne) (by rw [hvw]; exact hne) (by omega) (by omega), numbers_same (by rw [hvw, hv])]
  · rw [dot_cmp hw hs.all (by rw [hvw]; exact hne) (by rw [hs.value]; simp) (by omega) (by omega), numbers_less (by rw [hvw, hs.value]; simp)]
  · exact deb_cmp hw h.all (by have := h.pos; simp; omega) h.pos (by omega) (by omega) n1
  · have e : v ++ [48, 46, 48, 46, 48] = (v ++ [48]) ++ [46, 48, 46, 48] := by simp
    rw [e]
    exact sem_cmp h hs (by omega) (by omega) (numbers_less (by rw [hv, hs.value]; simp))
end Go.Proofs.Ytabeblbhbekjaaa.V
