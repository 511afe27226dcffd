/-
  Plain Lean, no program: keys of versions, ordered as the versions are.
-/
import Derived.Test.YtnhfaincdabdkaaGreatDoorP3
namespace Go.Proofs.YtnhfaincdabdkaaGreatDoor.V

abbrev cb := Lib.compareBytes

theorem cor_assoc (a b c : Int) : cor (cor a b) c = cor a (cor b c) := by unfold cor; repeat' split <;> simp_all
theorem cor_right (a : Int) : cor a 0 = a := by unfold cor; split <;> simp_all

theorem cb_refl : ∀ a, cb a a = 0
  | [] => rfl
  | x :: a => by simp [cb, Lib.compareBytes]; exact cb_refl a
theorem cb_same (x : UInt8) (a b : Bs) : cb (x :: a) (x :: b) = cb a b := by simp [cb, Lib.compareBytes]
theorem cb_lt {x y : UInt8} (h : x < y) (a b : Bs) : cb (x :: a) (y :: b) = -1 := by simp [cb, Lib.compareBytes, h]
theorem cb_gt {x y : UInt8} (h : y < x) (a b : Bs) : cb (x :: a) (y :: b) = 1 := by
  have h2 : ¬ x < y := fun g => by rw [UInt8.lt_iff_toNat_lt] at h g; omega
  simp [cb, Lib.compareBytes, h, h2]
theorem u8_tri (x y : UInt8) : x < y ∨ x = y ∨ y < x := by
  rw [UInt8.lt_iff_toNat_lt, UInt8.lt_iff_toNat_lt, ← UInt8.toNat_inj]; omega
/-- three ways for the heads -/
theorem cb_cons (x y : UInt8) (a b : Bs) : (x < y ∧ cb (x :: a) (y :: b) = -1) ∨ (x = y ∧ cb (x :: a) (y :: b) = cb a b) ∨ (y < x ∧ cb (x :: a) (y :: b) = 1) := by
  rcases u8_tri x y with h | h | h
  · exact .inl ⟨h, cb_lt h a b⟩
  · subst h; exact .inr (.inl ⟨rfl, cb_same x a b⟩)
  · exact .inr (.inr ⟨h, cb_gt h a b⟩)
theorem cb_rng : ∀ a b, cb a b = -1 ∨ cb a b = 0 ∨ cb a b = 1
  | [], [] => .inr (.inl rfl)
  | [], _ :: _ => .inl rfl
  | _ :: _, [] => .inr (.inr rfl)
  | x :: a, y :: b => by
    rcases cb_cons x y a b with ⟨_, h⟩ | ⟨_, h⟩ | ⟨_, h⟩
    · exact .inl h
    · rw [h]; exact cb_rng a b
    · exact .inr (.inr h)
theorem cb_anti : ∀ a b, cb b a = - cb a b
  | [], [] => rfl
  | [], _ :: _ => rfl
  | _ :: _, [] => rfl
  | x :: a, y :: b => by
    rcases u8_tri x y with h | h | h
    · rw [cb_lt h, cb_gt h]; rfl
    · subst h; rw [cb_same, cb_same]; exact cb_anti a b
    · rw [cb_lt h, cb_gt h]
theorem cb_eq : ∀ {a b}, cb a b = 0 → a = b
  | [], [], _ => rfl
  | [], _ :: _, h => by simp [cb, Lib.compareBytes] at h
  | _ :: _, [], h => by simp [cb, Lib.compareBytes] at h
  | x :: a, y :: b, h => by
    rcases cb_cons x y a b with ⟨_, g⟩ | ⟨e, g⟩ | ⟨_, g⟩
    · rw [g] at h; simp at h
    · rw [g] at h; rw [e, cb_eq h]
    · rw [g] at h; simp at h
theorem cb_trans : ∀ a b c, cb a b ≤ 0 → cb b c ≤ 0 → cb a c ≤ 0
  | [], _, [], _, _ => by simp [cb, Lib.compareBytes]
  | [], _, _ :: _, _, _ => by simp [cb, Lib.compareBytes]
  | _ :: _, [], _, h, _ => by simp [cb, Lib.compareBytes] at h
  | _ :: _, _ :: _, [], _, h => by simp [cb, Lib.compareBytes] at h
  | x :: a, y :: b, z :: c, h, g => by
    rcases u8_tri x y with h1 | h1 | h1
    · rcases u8_tri y z with g1 | g1 | g1
      · rw [cb_lt (by rw [UInt8.lt_iff_toNat_lt] at *; omega)]; decide
      · subst g1; rw [cb_lt h1]; decide
      · rw [cb_gt g1] at g; simp at g
    · subst h1
      rcases u8_tri x z with g1 | g1 | g1
      · rw [cb_lt g1]; decide
      · subst g1; rw [cb_same] at *; exact cb_trans a b c h g
      · rw [cb_gt g1] at g; simp at g
    · rw [cb_gt h1] at h; simp at h

theorem cb_app : ∀ (a b x y : Bs), a.length = b.length → cb (a ++ x) (b ++ y) = cor (cb a b) (cb x y)
  | [], [], _, _, _ => rfl
  | [], _ :: _, _, _, h => by simp at h
  | _ :: _, [], _, _, h => by simp at h
  | p :: a, q :: b, x, y, h => by
    rw [List.cons_append, List.cons_append]
    rcases u8_tri p q with e | e | e
    · rw [cb_lt e, cb_lt e]; rfl
    · subst e; rw [cb_same, cb_same]; exact cb_app a b x y (by simpa using h)
    · rw [cb_gt e, cb_gt e]; rfl

theorem value_len (a : Bs) : (value a).length ≤ a.length := (List.dropWhile_sublist _).length_le

theorem ofNat_lt {m n : Nat} (h : m < n) (hn : n ≤ 255) : UInt8.ofNat m < UInt8.ofNat n := by
  rw [UInt8.lt_iff_toNat_lt, UInt8.toNat_ofNat', UInt8.toNat_ofNat', Nat.mod_eq_of_lt (by omega), Nat.mod_eq_of_lt (by omega)]; exact h

theorem nk_cmp (a b x y : Bs) (ha : a.length ≤ 255) (hb : b.length ≤ 255) : cb (nk a ++ x) (nk b ++ y) = cor (numbers a b) (cb x y) := by
  have h1 := value_len a
  have h2 := value_len b
  unfold nk numbers Lib.compareInt
  rw [List.cons_append, List.cons_append]
  rcases Nat.lt_trichotomy (value a).length (value b).length with h | h | h
  · rw [cb_lt (ofNat_lt h (by omega)), if_pos (by omega)]; rfl
  · rw [h, cb_same, cb_app _ _ _ _ h, if_neg (by omega), if_neg (by omega), cor_zero]
  · rw [cb_gt (ofNat_lt h (by omega)), if_neg (by omega), if_pos (by omega)]; rfl

theorem cb_zero : ∀ (p q x y : Bs), (∀ c ∈ p, c ≠ 0) → (∀ c ∈ q, c ≠ 0) → cb (p ++ 0 :: x) (q ++ 0 :: y) = cor (cb p q) (cb x y)
  | [], [], x, y, _, _ => by rw [List.nil_append, List.nil_append, cb_same]; rfl
  | [], b :: q, x, y, _, h => by
    have hb : (0 : UInt8) < b := by
      have := h b (by simp)
      rw [UInt8.lt_iff_toNat_lt]
      rw [Ne, ← UInt8.toNat_inj] at this
      have h0 : (0 : UInt8).toNat = 0 := rfl
      omega
    rw [List.nil_append, List.cons_append, cb_lt hb]; rfl
  | b :: p, [], x, y, h, _ => by
    have hb : (0 : UInt8) < b := by
      have := h b (by simp)
      rw [UInt8.lt_iff_toNat_lt]
      rw [Ne, ← UInt8.toNat_inj] at this
      have h0 : (0 : UInt8).toNat = 0 := rfl
      omega
    rw [List.nil_append, List.cons_append, cb_gt hb]; rfl
  | b :: p, c :: q, x, y, h, g => by
    rw [List.cons_append, List.cons_append]
    rcases u8_tri b c with e | e | e
    · rw [cb_lt e, cb_lt e]; rfl
    · subst e
      rw [cb_same, cb_same]
      exact cb_zero p q x y (fun d hd => h d (by simp [hd])) (fun d hd => g d (by simp [hd]))
    · rw [cb_gt e, cb_gt e]; rfl

/-! semantic versions -/

def preEl (p : Bs) : Bs := if digits p then 1 :: nk p else 2 :: (p ++ [0])
def preAll (l : List Bs) : Bs := (l.map preEl).flatten
def preKey (l : List Bs) : Bs := if l.isEmpty then [3] else preAll l ++ [0]
def semKey (x : List Bs × List Bs) : Bs := nk (x.1.getD 0 []) ++ (nk (x.1.getD 1 []) ++ (nk (x.1.getD 2 []) ++ preKey x.2))

/-- short, and no byte is 0 -/
def Tame (p : Bs) : Prop := p.length ≤ 255 ∧ ∀ c ∈ p, c ≠ 0

theorem preEl_cmp (p q x y : Bs) (hp : Tame p) (hq : Tame q) : cb (preEl p ++ x) (preEl q ++ y) = cor (identC p q) (cb x y) := by
  unfold preEl identC
  rcases h1 : digits p with _ | _ <;> rcases h2 : digits q with _ | _
  · simp only [Bool.false_eq_true, if_false, Bool.and_self]
    rw [List.cons_append, List.cons_append, cb_same, List.append_assoc, List.append_assoc]
    exact cb_zero p q x y hp.2 hq.2
  · simp only [Bool.false_eq_true, if_false, if_true, Bool.and_true]
    rw [List.cons_append, List.cons_append, cb_gt (by decide)]; rfl
  · simp only [Bool.false_eq_true, if_false, if_true, Bool.and_false]
    rw [List.cons_append, List.cons_append, cb_lt (by decide)]; rfl
  · simp only [if_true, Bool.and_self]
    rw [List.cons_append, List.cons_append, cb_same]
    exact nk_cmp p q x y hp.1 hq.1

theorem preEl_head (p x : Bs) : ∃ c r, preEl p ++ x = c :: r ∧ 0 < c ∧ c < 3 := by
  unfold preEl
  split
  · exact ⟨_, _, rfl, by decide, by decide⟩
  · exact ⟨_, _, rfl, by decide, by decide⟩

theorem preAll_cmp : ∀ p q : List Bs, (∀ x ∈ p, Tame x) → (∀ x ∈ q, Tame x) → cb (preAll p ++ [0]) (preAll q ++ [0]) = listCmp identC p q
  | [], [], _, _ => rfl
  | [], b :: q, _, _ => by
    obtain ⟨c, r, h, hc, _⟩ := preEl_head b (preAll q ++ [0])
    show cb [0] ((preEl b ++ preAll q) ++ [0]) = -1
    rw [List.append_assoc, h, cb_lt hc]
  | b :: p, [], _, _ => by
    obtain ⟨c, r, h, hc, _⟩ := preEl_head b (preAll p ++ [0])
    show cb ((preEl b ++ preAll p) ++ [0]) [0] = 1
    rw [List.append_assoc, h, cb_gt hc]
  | a :: p, b :: q, hp, hq => by
    show cb ((preEl a ++ preAll p) ++ [0]) ((preEl b ++ preAll q) ++ [0]) = cor (identC a b) (listCmp identC p q)
    rw [List.append_assoc, List.append_assoc, preEl_cmp a b _ _ (hp a (by simp)) (hq b (by simp)), preAll_cmp p q (fun x h => hp x (by simp [h])) (fun x h => hq x (by simp [h]))]

theorem preKey_cmp (p q : List Bs) (hp : ∀ x ∈ p, Tame x) (hq : ∀ x ∈ q, Tame x) : cb (preKey p) (preKey q) = preCmp p q := by
  unfold preKey preCmp
  cases p with
  | nil =>
    cases q with
    | nil => rfl
    | cons b q =>
      obtain ⟨c, r, h, _, hc⟩ := preEl_head b (preAll q ++ [0])
      have e : preAll (b :: q) ++ [0] = c :: r := by rw [← h]; simp [preAll]
      simp only [List.isEmpty_nil, List.isEmpty_cons, if_true, if_false, Bool.false_eq_true, Bool.true_or]
      rw [e, cb_gt hc]
      unfold Lib.compareInt
      rw [if_neg (by simp; try omega), if_pos (by simp; try omega)]
  | cons a p =>
    cases q with
    | nil =>
      obtain ⟨c, r, h, _, hc⟩ := preEl_head a (preAll p ++ [0])
      have e : preAll (a :: p) ++ [0] = c :: r := by rw [← h]; simp [preAll]
      simp only [List.isEmpty_nil, List.isEmpty_cons, if_true, if_false, Bool.false_eq_true, Bool.or_true]
      rw [e, cb_lt hc]
      unfold Lib.compareInt
      rw [if_pos (by simp; try omega)]
    | cons b q => simp only [List.isEmpty_cons, if_false, Bool.false_eq_true, Bool.or_self]; exact preAll_cmp _ _ hp hq

theorem semKey_cmp (x y : List Bs × List Bs) (hx : ∀ k, (x.1.getD k []).length ≤ 255) (hy : ∀ k, (y.1.getD k []).length ≤ 255) (hp : ∀ z ∈ x.2, Tame z) (hq : ∀ z ∈ y.2, Tame z) :
    cb (semKey x) (semKey y) = semCmp x y := by
  unfold semKey semCmp
  rw [nk_cmp _ _ _ _ (hx 0) (hy 0), nk_cmp _ _ _ _ (hx 1) (hy 1), nk_cmp _ _ _ _ (hx 2) (hy 2), preKey_cmp _ _ hp hq]
  simp only [orI, cor_right, cor_assoc]

/-! Debian versions -/

def wb (c : UInt8) : UInt8 := if c = 126 then 1 else if lett c then c else c ||| 128
def wts (s : Bs) : Bs := s.map wb ++ [2]

theorem wb_ne (c : UInt8) : wb c ≠ 2 := by
  have h : ∀ n : Fin 256, wb (UInt8.ofNat n.val) ≠ 2 := by decide +kernel
  have := h ⟨c.toNat, c.toNat_lt⟩
  rwa [show UInt8.ofNat c.toNat = c from UInt8.ofNat_toNat] at this

theorem wt_zero (c : UInt8) (s : Bs) : wt (c :: s) 0 = (wb c).toNat := by
  unfold wt wb
  simp only [List.length_cons, List.getD_cons_zero]
  rw [if_neg (by omega)]
  repeat' split
  all_goals rfl
theorem wt_succ (c : UInt8) (s : Bs) (i : Nat) : wt (c :: s) (i + 1) = wt s i := by
  unfold wt
  simp only [List.length_cons, List.getD_cons_succ, Nat.add_le_add_iff_right]
theorem wt_nil (i : Nat) : wt [] i = 2 := by unfold wt; simp

theorem wcmp_cons (b c : UInt8) (p q : Bs) : wcmp (b :: p) (c :: q) = cor (Lib.compareInt (wb b).toNat (wb c).toNat) (wcmp p q) := by
  unfold wcmp
  rw [List.length_cons, List.length_cons, Nat.succ_max_succ, List.range_succ_eq_map, List.map_cons, orI, wt_zero, wt_zero, List.map_map]
  congr 2
  exact List.map_congr_left (fun i _ => by show Lib.compareInt (wt (b :: p) (i + 1)) (wt (c :: q) (i + 1)) = _; rw [wt_succ, wt_succ])
theorem cmpI_ne {a b : Int} (h : a ≠ b) : Lib.compareInt a b ≠ 0 := by unfold Lib.compareInt; repeat' split <;> omega
theorem wcmp_right (c : UInt8) (q : Bs) : wcmp [] (c :: q) = Lib.compareInt 2 (wb c).toNat := by
  unfold wcmp
  rw [List.length_nil, List.length_cons, Nat.zero_max, List.range_succ_eq_map, List.map_cons, orI, wt_zero, wt_nil, cor_ne]
  apply cmpI_ne
  intro e
  apply wb_ne c
  rw [← UInt8.toNat_inj]
  have : (2 : UInt8).toNat = 2 := rfl
  omega
theorem wcmp_left (c : UInt8) (q : Bs) : wcmp (c :: q) [] = Lib.compareInt (wb c).toNat 2 := by
  unfold wcmp
  rw [List.length_nil, List.length_cons, Nat.max_zero, List.range_succ_eq_map, List.map_cons, orI, wt_zero, wt_nil, cor_ne]
  apply cmpI_ne
  intro e
  apply wb_ne c
  rw [← UInt8.toNat_inj]
  have : (2 : UInt8).toNat = 2 := rfl
  omega
theorem wcmp_nil : wcmp [] [] = 0 := rfl

/-- bytes compared as numbers -/
theorem cb_heads (x y : UInt8) (a b : Bs) : cb (x :: a) (y :: b) = cor (Lib.compareInt x.toNat y.toNat) (cb a b) := by
  unfold Lib.compareInt
  rcases u8_tri x y with e | e | e
  · rw [cb_lt e, if_pos (by rw [UInt8.lt_iff_toNat_lt] at e; omega)]; rfl
  · subst e; rw [cb_same, if_neg (by omega), if_neg (by omega)]; rfl
  · rw [cb_gt e, if_neg (by rw [UInt8.lt_iff_toNat_lt] at e; omega), if_pos (by rw [UInt8.lt_iff_toNat_lt] at e; omega)]; rfl

theorem wts_cmp : ∀ (p q x y : Bs), cb (wts p ++ x) (wts q ++ y) = cor (wcmp p q) (cb x y)
  | [], [], x, y => by rw [wcmp_nil, cor_zero]; exact cb_same 2 x y
  | [], c :: q, x, y => by
    rw [wcmp_right]
    show cb (2 :: x) (wb c :: (wts q ++ y)) = _
    rw [cb_heads]
    have h : Lib.compareInt ((2 : UInt8).toNat : Int) (wb c).toNat ≠ 0 := cmpI_ne (by
      intro e; apply wb_ne c; rw [← UInt8.toNat_inj]; omega)
    rw [cor_ne h]
    exact (cor_ne h _).symm
  | c :: p, [], x, y => by
    rw [wcmp_left]
    show cb (wb c :: (wts p ++ x)) (2 :: y) = _
    rw [cb_heads]
    have h : Lib.compareInt (wb c).toNat ((2 : UInt8).toNat : Int) ≠ 0 := cmpI_ne (by
      intro e; apply wb_ne c; rw [← UInt8.toNat_inj]; omega)
    rw [cor_ne h]
    exact (cor_ne h _).symm
  | b :: p, c :: q, x, y => by
    rw [wcmp_cons]
    show cb (wb b :: (wts p ++ x)) (wb c :: (wts q ++ y)) = _
    rw [cb_heads, wts_cmp p q x y, cor_assoc]

/-- what is left of a text behind its first number -/
def restD (s : Bs) : Bs := (takeD (takeD s false).2 true).2
/-- its first words, then its first number -/
def headK (s : Bs) : Bs := wts (takeD s false).1 ++ nk (takeD (takeD s false).2 true).1
/-- what a key holds for the rest of a text -/
def textR : Nat → Bs → Bs
  | 0, _ => [2]
  | f + 1, s => if s.isEmpty then [2] else headK s ++ textR f (restD s)
def textKey (s : Bs) : Bs := headK s ++ textR s.length (restD s)

theorem restD_len (s : Bs) : (restD s).length ≤ s.length := by
  have h1 := takeD_len s false
  have h2 := takeD_len (takeD s false).2 true
  unfold restD; omega
theorem restD_lt {s : Bs} (h : s ≠ []) : (restD s).length < s.length := takeD_two s h
theorem drop_head {p : UInt8 → Bool} : ∀ {l : Bs} {c r}, l.dropWhile p = c :: r → p c = false
  | b :: l, c, r, h => by
    rw [List.dropWhile_cons] at h
    split at h
    · exact drop_head h
    · rename_i hb
      simp at h; obtain ⟨rfl, _⟩ := h; exact Bool.eq_false_iff.2 hb
theorem restD_head {s : Bs} {c : UInt8} {r : Bs} (h : restD s = c :: r) : dig c = false := by
  have := drop_head (p := fun c => dig c == true) (show List.dropWhile _ _ = c :: r from h)
  simpa using this

theorem textsC_step' (a b : Bs) : textsC a b = cor (wcmp (takeD a false).1 (takeD b false).1)
      (cor (numbers (takeD (takeD a false).2 true).1 (takeD (takeD b false).2 true).1) (textsC (restD a) (restD b))) := by
  by_cases h : (a.isEmpty && b.isEmpty) = true
  · rw [Bool.and_eq_true, List.isEmpty_iff, List.isEmpty_iff] at h
    obtain ⟨rfl, rfl⟩ := h
    decide +kernel
  · exact textsC_step a b h

theorem take_sub (s : Bs) : (takeD s false).1.length ≤ s.length ∧ (takeD (takeD s false).2 true).1.length ≤ s.length := by
  have h1 := takeD_len s false
  have h2 := takeD_len (takeD s false).2 true
  omega

theorem take_cons {c : UInt8} (r : Bs) (h : dig c = false) : ∃ q, (takeD (c :: r) false).1 = c :: q := by
  unfold takeD
  refine ⟨r.takeWhile fun c => dig c == false, ?_⟩
  simp [h]

theorem textR_cmp : ∀ (f g : Nat) (a b x y : Bs), a.length ≤ f → b.length ≤ g → a.length ≤ 255 → b.length ≤ 255 → (∀ c r, a = c :: r → dig c = false) → (∀ c r, b = c :: r → dig c = false) →
    cb (textR f a ++ x) (textR g b ++ y) = cor (textsC a b) (cb x y)
  | f, g, [], [], x, y, _, _, _, _, _, _ => by
    have e1 : textR f [] = [2] := by cases f <;> rfl
    have e2 : textR g [] = [2] := by cases g <;> rfl
    rw [e1, e2, textsC_nil, cor_zero]; exact cb_same 2 x y
  | f, 0, _, _ :: _, _, _, _, h, _, _, _, _ => by simp at h
  | 0, g, _ :: _, _, _, _, h, _, _, _, _, _ => by simp at h
  | f, g + 1, [], c :: r, x, y, _, _, _, _, _, hb => by
    have e1 : textR f [] = wts [] := by cases f <;> rfl
    obtain ⟨q, hq⟩ := take_cons r (hb c r rfl)
    have e0 : (takeD ([] : Bs) false).1 = [] := rfl
    have hw : wcmp [] (c :: q) ≠ 0 := by
      rw [wcmp_right]; exact cmpI_ne (by intro e; apply wb_ne c; rw [← UInt8.toNat_inj]; have : (2 : UInt8).toNat = 2 := rfl; omega)
    rw [textsC_step', hq, e0, cor_ne hw, e1]
    show cb (wts [] ++ x) ((headK (c :: r) ++ textR g (restD (c :: r))) ++ y) = _
    unfold headK
    rw [hq, List.append_assoc, List.append_assoc, wts_cmp, cor_ne hw, cor_ne hw]
  | f + 1, g, c :: r, [], x, y, _, _, _, _, ha, _ => by
    have e1 : textR g [] = wts [] := by cases g <;> rfl
    obtain ⟨q, hq⟩ := take_cons r (ha c r rfl)
    have e0 : (takeD ([] : Bs) false).1 = [] := rfl
    have hw : wcmp (c :: q) [] ≠ 0 := by
      rw [wcmp_left]; exact cmpI_ne (by intro e; apply wb_ne c; rw [← UInt8.toNat_inj]; have : (2 : UInt8).toNat = 2 := rfl; omega)
    rw [textsC_step', hq, e0, cor_ne hw, e1]
    show cb ((headK (c :: r) ++ textR f (restD (c :: r))) ++ x) (wts [] ++ y) = _
    unfold headK
    rw [hq, List.append_assoc, List.append_assoc, wts_cmp, cor_ne hw, cor_ne hw]
  | f + 1, g + 1, c :: r, d :: t, x, y, hf, hg, h1, h2, ha, hb => by
    have l1 := restD_lt (s := c :: r) (by simp)
    have l2 := restD_lt (s := d :: t) (by simp)
    have s1 := take_sub (c :: r)
    have s2 := take_sub (d :: t)
    rw [textsC_step']
    show cb ((headK (c :: r) ++ textR f (restD (c :: r))) ++ x) ((headK (d :: t) ++ textR g (restD (d :: t))) ++ y) = _
    unfold headK
    rw [List.append_assoc, List.append_assoc, List.append_assoc, List.append_assoc, wts_cmp, nk_cmp _ _ _ _ (by omega) (by omega),
      textR_cmp f g _ _ x y (by omega) (by omega) (by omega) (by omega) (fun _ _ h => restD_head h) (fun _ _ h => restD_head h), cor_assoc, cor_assoc]

theorem textKey_cmp (a b x y : Bs) (ha : a.length ≤ 255) (hb : b.length ≤ 255) : cb (textKey a ++ x) (textKey b ++ y) = cor (textsC a b) (cb x y) := by
  have l1 := restD_len a
  have l2 := restD_len b
  have s1 := take_sub a
  have s2 := take_sub b
  unfold textKey headK
  rw [textsC_step', List.append_assoc, List.append_assoc, List.append_assoc, List.append_assoc, wts_cmp, nk_cmp _ _ _ _ (by omega) (by omega),
    textR_cmp _ _ _ _ x y (by omega) (by omega) (by omega) (by omega) (fun _ _ h => restD_head h) (fun _ _ h => restD_head h), cor_assoc, cor_assoc]

def debKey (x : Bs × Bs × Bs) : Bs := nk x.1 ++ (textKey x.2.1 ++ textKey x.2.2)
theorem debKey_cmp (x y : Bs × Bs × Bs) (h1 : x.1.length ≤ 255) (h2 : x.2.1.length ≤ 255) (h3 : x.2.2.length ≤ 255) (g1 : y.1.length ≤ 255) (g2 : y.2.1.length ≤ 255) (g3 : y.2.2.length ≤ 255) :
    cb (debKey x) (debKey y) = debCmp x y := by
  unfold debKey debCmp
  rw [nk_cmp _ _ _ _ h1 g1, textKey_cmp _ _ _ _ h2 g2]
  have := textKey_cmp x.2.2 y.2.2 [] [] h3 g3
  rw [List.append_nil, List.append_nil, show cb [] [] = 0 from rfl, cor_right] at this
  rw [this]
  simp only [orI, cor_right]

/-! dotted versions -/

def dotAll (l : List Bs) : Bs := (l.map fun x => 1 :: nk x).flatten
def dotKey (l : List Bs) : Bs := dotAll l ++ [0]
theorem dotKey_cmp : ∀ p q : List Bs, (∀ x ∈ p, x.length ≤ 255) → (∀ x ∈ q, x.length ≤ 255) → cb (dotKey p) (dotKey q) = listCmp numbers p q
  | [], [], _, _ => rfl
  | [], b :: q, _, _ => rfl
  | b :: p, [], _, _ => rfl
  | a :: p, b :: q, hp, hq => by
    show cb (((1 :: nk a) ++ dotAll p) ++ [0]) (((1 :: nk b) ++ dotAll q) ++ [0]) = cor (numbers a b) (listCmp numbers p q)
    rw [List.append_assoc, List.append_assoc, List.cons_append, List.cons_append, cb_same, nk_cmp _ _ _ _ (hp a (by simp)) (hq b (by simp))]
    congr 1
    exact dotKey_cmp p q (fun x h => hp x (by simp [h])) (fun x h => hq x (by simp [h]))

/-! the key of a version -/

def keyV (n : Int) (v : Bs) : Bs :=
  if n = 1 then (match semParse v with | some x => semKey x | none => [])
  else if n = 2 then (match debParse v with | some x => debKey x | none => [])
  else dotKey (dotParse v)

theorem cut1_le (c : UInt8) (l : Bs) : (cut1 c l).1.length ≤ l.length ∧ (cut1 c l).2.1.length ≤ l.length := by
  unfold cut1
  split
  · exact ⟨(List.takeWhile_sublist _).length_le, by simp⟩
  · simp
theorem splitOn_in (c : UInt8) : ∀ (l x : Bs), x ∈ splitOn c l → x.length ≤ l.length
  | [], x, h => by simp [splitOn] at h; simp [h]
  | b :: l, x, h => by
    have ih := splitOn_in c l
    unfold splitOn at h
    split at h
    · rcases List.mem_cons.1 h with h | h
      · simp [h]
      · have := ih x h; simp; omega
    · split at h
      · simp at h; simp [h]
      · rename_i y r he
        rw [he] at ih
        rcases List.mem_cons.1 h with h | h
        · subst h; have := ih y (by simp); simp; omega
        · have := ih x (by simp [h]); simp; omega

theorem ident_tame {e : Bool} {x : Bs} (h : identOk e x = true) (hl : x.length ≤ 255) : Tame x := by
  refine ⟨hl, fun c hc e0 => ?_⟩
  subst e0
  unfold identOk only at h
  rw [Bool.and_eq_true, Bool.and_eq_true, List.all_eq_true] at h
  have := h.1.1 0 hc
  revert this; decide +kernel

theorem semParse_facts {s : Bs} {l pre : List Bs} (h : semParse s = some (l, pre)) : (∀ x ∈ l, x.length ≤ s.length) ∧ (∀ x ∈ pre, x.length ≤ s.length ∧ identOk true x = true) := by
  unfold semParse at h
  have h1 := cut1_le 43 s
  have h2 := cut1_le 45 (cut1 43 s).1
  split at h
  · cases h
  · rename_i hn
    split at h
    · simp only [Option.some.injEq, Prod.mk.injEq] at h
      obtain ⟨rfl, h⟩ := h
      refine ⟨fun x hx => by have := splitOn_in 46 _ x hx; omega, fun x hx => ?_⟩
      split at h
      · rename_i hc
        subst h
        refine ⟨by have := splitOn_in 46 _ x hx; omega, ?_⟩
        have hi : identifiers (cut1 45 (cut1 43 s).1).2.1 true = true := by
          rcases hb : identifiers (cut1 45 (cut1 43 s).1).2.1 true with _ | _
          · rw [hb, hc] at hn; simp at hn
          · rfl
        unfold identifiers at hi
        rw [List.all_eq_true] at hi
        exact hi x hx
      · subst h; simp at hx
    · cases h

theorem debParse_facts {s : Bs} {x : Bs × Bs × Bs} (h : debParse s = some x) : x.1.length ≤ s.length ∧ x.2.1.length ≤ s.length ∧ x.2.2.length ≤ s.length := by
  have ht : ∀ {ep t : Bs}, ep.length ≤ s.length → t.length ≤ s.length → debTail ep t = some x → x.1.length ≤ s.length ∧ x.2.1.length ≤ s.length ∧ x.2.2.length ≤ s.length := by
    intro ep t he hl h
    unfold debTail at h
    repeat' split at h
    all_goals first | (cases h; done) | (simp only [Option.some.injEq] at h; subst h; simp only [List.length_take, List.length_drop, List.length_nil]; omega)
  have h1 := cut1_le 58 s
  unfold debParse at h
  split at h
  · split at h
    · exact ht h1.1 h1.2 h
    · cases h
  · exact ht (by simp) (Nat.le_refl _) h

theorem dotParse_len {s x : Bs} (h : x ∈ dotParse s) : x.length ≤ s.length := by
  unfold dotParse stripEnd at h
  rw [List.mem_reverse] at h
  exact splitOn_in 46 s x (List.mem_reverse.1 ((List.dropWhile_sublist _).subset h))

theorem valid_short {n : Int} {v : Bs} (h : valid n v = true) : v.length ≤ 64 := by
  unfold valid at h; simp at h; omega

theorem getD_le {l : List Bs} {m : Nat} (h : ∀ x ∈ l, x.length ≤ m) (k : Nat) : (l.getD k []).length ≤ m := by
  rw [List.getD_eq_getElem?_getD]
  rcases hk : l[k]? with _ | x
  · simp
  · exact h x (List.mem_of_getElem? hk)

theorem key_law {n : Int} (hn : scheme n = true) {a b : Bs} (ha : valid n a = true) (hb : valid n b = true) : cb (keyV n a) (keyV n b) = cmpV n a b := by
  have l1 := valid_short ha
  have l2 := valid_short hb
  have hs : n = 1 ∨ n = 2 ∨ n = 3 := by unfold scheme at hn; simpa [or_assoc] using hn
  rcases hs with rfl | rfl | rfl
  · unfold keyV cmpV
    rw [if_pos rfl, if_pos rfl, if_pos rfl]
    obtain ⟨⟨la, pa⟩, e1⟩ := Option.isSome_iff_exists.1 (show (semParse a).isSome = true by unfold valid schOk at ha; simp at ha; exact ha.2)
    obtain ⟨⟨lb, pb⟩, e2⟩ := Option.isSome_iff_exists.1 (show (semParse b).isSome = true by unfold valid schOk at hb; simp at hb; exact hb.2)
    have f1 := semParse_facts e1
    have f2 := semParse_facts e2
    rw [e1, e2]
    exact semKey_cmp _ _ (fun k => by have := getD_le f1.1 k; simp only; omega) (fun k => by have := getD_le f2.1 k; simp only; omega)
      (fun z hz => ident_tame (f1.2 z hz).2 (by have := (f1.2 z hz).1; omega)) (fun z hz => ident_tame (f2.2 z hz).2 (by have := (f2.2 z hz).1; omega))
  · unfold keyV cmpV
    rw [if_neg (by decide), if_pos rfl, if_neg (by decide), if_pos rfl, if_neg (by decide), if_pos rfl]
    obtain ⟨x, e1⟩ := Option.isSome_iff_exists.1 (show (debParse a).isSome = true by unfold valid schOk at ha; simp at ha; exact ha.2)
    obtain ⟨y, e2⟩ := Option.isSome_iff_exists.1 (show (debParse b).isSome = true by unfold valid schOk at hb; simp at hb; exact hb.2)
    have f1 := debParse_facts e1
    have f2 := debParse_facts e2
    rw [e1, e2]
    exact debKey_cmp _ _ (by omega) (by omega) (by omega) (by omega) (by omega) (by omega)
  · unfold keyV cmpV
    rw [if_neg (by decide), if_neg (by decide), if_neg (by decide), if_neg (by decide), if_neg (by decide), if_neg (by decide)]
    exact dotKey_cmp _ _ (fun x hx => by have := dotParse_len hx; omega) (fun x hx => by have := dotParse_len hx; omega)

/-- what VersionTotal says of the order of three versions -/
theorem total_law {n : Int} (hn : scheme n = true) {a b c : Bs} (ha : valid n a = true) (hb : valid n b = true) (hc : valid n c = true) :
    cmpV n a b = - cmpV n b a ∧ cmpV n a a = 0 ∧ ¬ (cmpV n a b ≤ 0 ∧ cmpV n b c ≤ 0 ∧ 0 < cmpV n a c) ∧ ¬ (0 ≤ cmpV n a b ∧ 0 ≤ cmpV n b c ∧ cmpV n a c < 0) ∧ (cmpV n a b = 0 → cmpV n b c = cmpV n a c) := by
  rw [← key_law hn ha hb, ← key_law hn hb ha, ← key_law hn ha ha, ← key_law hn hb hc, ← key_law hn ha hc]
  refine ⟨cb_anti _ _, cb_refl _, fun h => ?_, fun h => ?_, fun h => ?_⟩
  · have := cb_trans _ _ _ h.1 h.2.1; omega
  · have h1 := cb_anti (keyV n a) (keyV n b)
    have h2 := cb_anti (keyV n b) (keyV n c)
    have h3 := cb_anti (keyV n a) (keyV n c)
    have := cb_trans (keyV n c) (keyV n b) (keyV n a) (by omega) (by omega)
    omega
  · rw [cb_eq h]
end Go.Proofs.YtnhfaincdabdkaaGreatDoor.V
