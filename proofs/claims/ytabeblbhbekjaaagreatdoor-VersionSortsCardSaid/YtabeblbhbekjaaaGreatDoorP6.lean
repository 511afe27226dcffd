/-
  Plain Lean, no program: the orders that the reference of layer 6 writes are the same orders.
-/
import Derived.Test.YtabeblbhbekjaaaGreatDoorP3
namespace Go.Proofs.YtabeblbhbekjaaaGreatDoor.V

/-! weights -/

def rwt (s : Bs) (i : Nat) : Int := if s.length ≤ i then 1 else if s.getD i 0 = 126 then 0 else if lett (s.getD i 0) then 2 + (s.getD i 0).toNat else 300 + (s.getD i 0).toNat
def phi (n : Int) : Int := if n ≤ 2 then n - 1 else if n < 128 then n + 2 else n + 172

def Ascii (s : Bs) : Prop := ∀ c ∈ s, c.toNat < 128

theorem or_128 {c : UInt8} (h : c.toNat < 128) : (c ||| 128).toNat = c.toNat + 128 := by
  have h2 : ∀ n : Fin 128, ((UInt8.ofNat n.val) ||| 128).toNat = n.val + 128 := by decide +kernel
  have := h2 ⟨c.toNat, h⟩
  rwa [show UInt8.ofNat c.toNat = c from UInt8.ofNat_toNat] at this

theorem lett_rng {c : UInt8} (h : lett c = true) : 65 ≤ c.toNat ∧ c.toNat ≤ 122 := by
  unfold lett letB at h; simp at h; omega

theorem wt_ge (s : Bs) (i : Nat) (h : Ascii s) : 1 ≤ wt s i := by
  unfold wt
  split
  · omega
  · split
    · omega
    · split
      · rename_i hl; have := lett_rng hl; omega
      · rename_i hk _ _
        have hm : s.getD i 0 ∈ s := by
          rw [List.getD_eq_getElem?_getD, List.getElem?_eq_getElem (by omega)]; exact List.getElem_mem _
        have := or_128 (h _ hm); omega

theorem rwt_phi (s : Bs) (i : Nat) (h : Ascii s) : rwt s i = phi (wt s i) := by
  unfold rwt wt
  split
  · rfl
  · split
    · rfl
    · split
      · rename_i hl
        have := lett_rng hl
        unfold phi
        rw [if_neg (by omega), if_pos (by omega)]; omega
      · rename_i hk _ _
        have hm : s.getD i 0 ∈ s := by
          rw [List.getD_eq_getElem?_getD, List.getElem?_eq_getElem (by omega)]; exact List.getElem_mem _
        have h1 := or_128 (h _ hm)
        have h2 := h _ hm
        unfold phi
        rw [h1, if_neg (by omega), if_neg (by omega)]; omega

theorem sgn_phi {a b : Int} (ha : 1 ≤ a) (hb : 1 ≤ b) : sgn (phi a - phi b) = Lib.compareInt a b := by
  unfold sgn phi Lib.compareInt
  repeat' split
  all_goals omega
theorem sgn_rwt (x y : Bs) (i : Nat) (hx : Ascii x) (hy : Ascii y) : sgn (rwt x i - rwt y i) = Lib.compareInt (wt x i) (wt y i) := by
  rw [rwt_phi x i hx, rwt_phi y i hy]
  exact sgn_phi (wt_ge x i hx) (wt_ge y i hy)
theorem sgn_zero {n : Int} : sgn n = 0 ↔ n = 0 := by unfold sgn; repeat' split <;> omega
theorem rwt_rng (s : Bs) (i : Nat) : 0 ≤ rwt s i ∧ rwt s i ≤ 555 := by
  unfold rwt
  have := (s.getD i 0).toNat_lt
  repeat' split
  all_goals omega

theorem Ascii.take {s : Bs} (h : Ascii s) (d : Bool) : Ascii (takeD s d).1 := fun c hc => h c ((List.takeWhile_sublist _).subset hc)
theorem Ascii.rest {s : Bs} (h : Ascii s) (d : Bool) : Ascii (takeD s d).2 := fun c hc => h c ((List.dropWhile_sublist _).subset hc)

/-! lists of numbers, the missing ones 0 -/

def pad : List Bs → List Bs → Int
  | [], [] => 0
  | [], b :: q => cor (numbers [48] b) (pad [] q)
  | a :: p, [] => cor (numbers a [48]) (pad p [])
  | a :: p, b :: q => cor (numbers a b) (pad p q)

theorem pad_step (x y : List Bs) (h : 0 < x.length ∨ 0 < y.length) : pad x y = cor (numbers (x.getD 0 [48]) (y.getD 0 [48])) (pad (x.drop 1) (y.drop 1)) := by
  cases x <;> cases y
  · simp at h
  all_goals
    rw [pad]
    rfl

theorem pad_skip : ∀ (k : Nat) (x y : List Bs), (∀ j, j < k → numbers (x.getD j [48]) (y.getD j [48]) = 0) → pad x y = pad (x.drop k) (y.drop k)
  | 0, _, _, _ => rfl
  | k + 1, x, y, h => by
    have h0 := h 0 (by omega)
    have e : pad x y = pad (x.drop 1) (y.drop 1) := by
      by_cases hl : 0 < x.length ∨ 0 < y.length
      · rw [pad_step x y hl, h0, cor_zero]
      · have hx : x = [] := List.eq_nil_of_length_eq_zero (by omega)
        have hy : y = [] := List.eq_nil_of_length_eq_zero (by omega)
        subst hx hy; rfl
    rw [e, pad_skip k (x.drop 1) (y.drop 1) (fun j hj => by
      have := h (j + 1) (by omega)
      simpa [List.getD_eq_getElem?_getD, List.getElem?_drop, Nat.add_comm] using this)]
    simp [List.drop_drop, Nat.add_comm]

theorem pad_hit (k : Nat) (x y : List Bs) (h : ∀ j, j < k → numbers (x.getD j [48]) (y.getD j [48]) = 0) (hk : k < x.length ∨ k < y.length) (h0 : numbers (x.getD k [48]) (y.getD k [48]) ≠ 0) :
    pad x y = numbers (x.getD k [48]) (y.getD k [48]) := by
  rw [pad_skip k x y h, pad_step _ _ (by simp only [List.length_drop]; omega)]
  have e1 : (x.drop k).getD 0 [48] = x.getD k [48] := by simp [List.getD_eq_getElem?_getD, List.getElem?_drop]
  have e2 : (y.drop k).getD 0 [48] = y.getD k [48] := by simp [List.getD_eq_getElem?_getD, List.getElem?_drop]
  rw [e1, e2, cor_ne h0]
theorem pad_end (k : Nat) (x y : List Bs) (h : ∀ j, j < k → numbers (x.getD j [48]) (y.getD j [48]) = 0) (hk : ¬ (k < x.length ∨ k < y.length)) : pad x y = 0 := by
  rw [pad_skip k x y h, List.drop_of_length_le (by omega), List.drop_of_length_le (by omega), pad]

theorem stripEnd_cons (a : Bs) (l : List Bs) : stripEnd (a :: l) = if (stripEnd l).isEmpty && (value a).isEmpty then [] else a :: stripEnd l := by
  unfold stripEnd
  rw [List.reverse_cons, List.dropWhile_append]
  rcases h : (List.dropWhile (fun x => (value x).isEmpty) l.reverse) with _ | ⟨b, r⟩
  · rcases hv : (value a).isEmpty with _ | _ <;> simp [hv]
  · simp

theorem num_left {a b : Bs} (h : value a = []) : numbers a b = if (value b).isEmpty then 0 else -1 := by
  unfold numbers
  rw [h]
  rcases hb : value b with _ | ⟨c, r⟩
  · rfl
  · rw [List.isEmpty_cons, if_neg (by decide)]
    unfold Lib.compareInt
    rw [if_pos (by simp; try omega)]; rfl
theorem num_right {a b : Bs} (h : value b = []) : numbers a b = if (value a).isEmpty then 0 else 1 := by
  unfold numbers
  rw [h]
  rcases hb : value a with _ | ⟨c, r⟩
  · rfl
  · rw [List.isEmpty_cons, if_neg (by decide)]
    unfold Lib.compareInt
    rw [if_neg (by simp; try omega), if_pos (by simp; try omega)]; rfl

theorem lc_left (l : List Bs) : listCmp numbers [] l = if l.isEmpty then 0 else -1 := by cases l <;> rfl
theorem lc_right (l : List Bs) : listCmp numbers l [] = if l.isEmpty then 0 else 1 := by cases l <;> rfl

theorem pad_strip : ∀ x y : List Bs, pad x y = listCmp numbers (stripEnd x) (stripEnd y)
  | [], [] => by rw [pad]; rfl
  | [], b :: q => by
    have ih := pad_strip [] q
    have e : stripEnd [] = [] := rfl
    rw [e, lc_left] at ih ⊢
    rw [pad, num_left (a := [48]) (by decide), ih, stripEnd_cons]
    rcases (value b).isEmpty with _ | _ <;> rcases (stripEnd q).isEmpty with _ | _ <;> simp [cor]
  | a :: p, [] => by
    have ih := pad_strip p []
    have e : stripEnd [] = [] := rfl
    rw [e, lc_right] at ih ⊢
    rw [pad, num_right (b := [48]) (by decide), ih, stripEnd_cons]
    rcases (value a).isEmpty with _ | _ <;> rcases (stripEnd p).isEmpty with _ | _ <;> simp [cor]
  | a :: p, b :: q => by
    have ih := pad_strip p q
    rw [pad, stripEnd_cons, stripEnd_cons, ih]
    rcases hp : (stripEnd p).isEmpty && (value a).isEmpty with _ | _ <;> rcases hq : (stripEnd q).isEmpty && (value b).isEmpty with _ | _
    · simp [listCmp]
    · rw [Bool.and_eq_true, List.isEmpty_iff, List.isEmpty_iff] at hq
      rw [num_right hq.2, hq.1, lc_right, if_pos rfl, if_neg Bool.false_ne_true, lc_right]
      rcases h1 : (value a).isEmpty with _ | _ <;> rcases h2 : (stripEnd p).isEmpty with _ | _ <;> (rw [h1, h2] at hp; simp [cor] at hp ⊢)
    · rw [Bool.and_eq_true, List.isEmpty_iff, List.isEmpty_iff] at hp
      rw [num_left hp.2, hp.1, lc_left, if_pos rfl, if_neg Bool.false_ne_true, lc_left]
      rcases h1 : (value b).isEmpty with _ | _ <;> rcases h2 : (stripEnd q).isEmpty with _ | _ <;> (rw [h1, h2] at hq; simp [cor] at hq ⊢)
    · rw [Bool.and_eq_true, List.isEmpty_iff, List.isEmpty_iff] at hp hq
      rw [num_left hp.2, hp.1, hq.1, hq.2, if_pos rfl, if_pos rfl]
      rfl

theorem pad_dots (a b : Bs) : pad (splitOn 46 a) (splitOn 46 b) = dotCmp a b := pad_strip _ _

/-! what a Debian version is made of -/

theorem kind_ascii {o : Bs} (ho : Ascii o) {c : UInt8} (h : kind o c = true) : c.toNat < 128 := by
  unfold kind at h
  rw [Bool.or_eq_true, Bool.or_eq_true] at h
  rcases h with (h | h) | h
  · have := lett_rng h; omega
  · unfold dig digB at h; simp at h; omega
  · exact ho c (by simpa using h)
theorem only_ascii {o : Bs} (ho : Ascii o) {s : Bs} (h : only (kind o) s = true) : Ascii s := fun c hc => by
  unfold only at h
  rw [Bool.and_eq_true, List.all_eq_true] at h
  exact kind_ascii ho (h.1 c hc)
theorem ascii_lit (l : Bs) (h : l.all (fun c => decide (c.toNat < 128)) = true) : Ascii l := fun c hc => by
  rw [List.all_eq_true] at h
  simpa using h c hc

theorem debTail_ascii {ep s : Bs} {x : Bs × Bs × Bs} (h : debTail ep s = some x) : Ascii x.2.1 ∧ Ascii x.2.2 := by
  have a1 : Ascii [46, 43, 126, 45] := ascii_lit _ (by decide)
  have a2 : Ascii allow := ascii_lit _ (by decide)
  unfold debTail at h
  split at h
  · split at h
    · rename_i hk
      simp only [Option.some.injEq] at h; subst h
      rw [Bool.and_eq_true] at hk
      exact ⟨only_ascii a1 hk.1, fun c hc => by simp at hc⟩
    · cases h
  · split at h
    · rename_i hr
      split at h
      · rename_i hk
        simp only [Option.some.injEq] at h; subst h
        rw [Bool.and_eq_true] at hk
        exact ⟨only_ascii a1 hk.1, only_ascii a2 hr⟩
      · cases h
    · cases h
theorem debParse_ascii {v : Bs} {x : Bs × Bs × Bs} (h : debParse v = some x) : Ascii x.2.1 ∧ Ascii x.2.2 := by
  unfold debParse at h
  split at h
  · split at h
    · exact debTail_ascii h
    · cases h
  · exact debTail_ascii h

/-- a number counts by its value -/
theorem numbers_value {a b c d : Bs} (h : value a = value c) (g : value b = value d) : numbers a b = numbers c d := by
  unfold numbers; rw [h, g]
end Go.Proofs.YtabeblbhbekjaaaGreatDoor.V
