/-
  Lemmas for the law.
-/
import Derived.Test.YtbikeahmldobkaaGreatDoorC51x01
set_option linter.all false
namespace Go.Proofs.YtbikeahmldobkaaGreatDoor.V
abbrev cb := Lib.compareBytes
theorem zai (a b c : Int) : cor (cor a b) c = cor a (cor b c) := by unfold cor; repeat' split <;> simp_all
theorem zbv (a : Int) : cor a 0 = a := by unfold cor; split <;> simp_all
theorem uh : ∀ a, cb a a = 0
 | [] => rfl
 | x :: a => by simp [cb, Lib.compareBytes]; exact uh a
theorem kq (x : UInt8) (a b : Bs) : cb (x :: a) (x :: b) = cb a b := by simp [cb, Lib.compareBytes]
theorem wm {x y : UInt8} (h : x < y) (a b : Bs) : cb (x :: a) (y :: b) = -1 := by simp [cb, Lib.compareBytes, h]
theorem wn {x y : UInt8} (h : y < x) (a b : Bs) : cb (x :: a) (y :: b) = 1 := by
 have h2 : ¬ x < y := fun g => by rw [UInt8.lt_iff_toNat_lt] at h g; omega
 simp [cb, Lib.compareBytes, h, h2]
theorem zc4 (x y : UInt8) : x < y ∨ x = y ∨ y < x := by
 rw [UInt8.lt_iff_toNat_lt, UInt8.lt_iff_toNat_lt, ← UInt8.toNat_inj]; omega
theorem zhv (x y : UInt8) (a b : Bs) : (x < y ∧ cb (x :: a) (y :: b) = -1) ∨ (x = y ∧ cb (x :: a) (y :: b) = cb a b) ∨ (y < x ∧ cb (x :: a) (y :: b) = 1) := by
 rcases zc4 x y with h | h | h
 ·exact .inl ⟨h, wm h a b⟩
 ·subst h; exact .inr (.inl ⟨rfl, kq x a b⟩)
 ·exact .inr (.inr ⟨h, wn h a b⟩)
theorem zjv : ∀ a b, cb a b = -1 ∨ cb a b = 0 ∨ cb a b = 1
 | [], [] => .inr (.inl rfl)
 | [], _ :: _ => .inl rfl
 | _ :: _, [] => .inr (.inr rfl)
 | x :: a, y :: b => by
  rcases zhv x y a b with ⟨_, h⟩ | ⟨_, h⟩ | ⟨_, h⟩
  ·exact .inl h
  ·rw [h]; exact zjv a b
  ·exact .inr (.inr h)
theorem kf : ∀ a b, cb b a = - cb a b
 | [], [] => rfl
 | [], _ :: _ => rfl
 | _ :: _, [] => rfl
 | x :: a, y :: b => by
  rcases zc4 x y with h | h | h
  ·rw [wm h, wn h]; rfl
  ·subst h; rw [kq, kq]; exact kf a b
  ·rw [wm h, wn h]
theorem zjg : ∀ {a b}, cb a b = 0 → a = b
 | [], [], _ => rfl
 | [], _ :: _, h => by simp [cb, Lib.compareBytes] at h
 | _ :: _, [], h => by simp [cb, Lib.compareBytes] at h
 | x :: a, y :: b, h => by
  rcases zhv x y a b with ⟨_, g⟩ | ⟨e, g⟩ | ⟨_, g⟩
  ·rw [g] at h; simp at h
  ·rw [g] at h; rw [e, zjg h]
  ·rw [g] at h; simp at h
theorem wh : ∀ a b c, cb a b ≤ 0 → cb b c ≤ 0 → cb a c ≤ 0
 | [], _, [], _, _ => by simp [cb, Lib.compareBytes]
 | [], _, _ :: _, _, _ => by simp [cb, Lib.compareBytes]
 | _ :: _, [], _, h, _ => by simp [cb, Lib.compareBytes] at h
 | _ :: _, _ :: _, [], _, h => by simp [cb, Lib.compareBytes] at h
 | x :: a, y :: b, z :: c, h, g => by
  rcases zc4 x y with h1 | h1 | h1
  ·rcases zc4 y z with g1 | g1 | g1
   ·rw [wm (by rw [UInt8.lt_iff_toNat_lt] at *; omega)]; decide
   ·subst g1; rw [wm h1]; decide
   ·rw [wn g1] at g; simp at g
  ·subst h1
   rcases zc4 x z with g1 | g1 | g1
   ·rw [wm g1]; decide
   ·subst g1; rw [kq] at *; exact wh a b c h g
   ·rw [wn g1] at g; simp at g
  ·rw [wn h1] at h; simp at h
theorem cb_app : ∀ (a b x y : Bs), a.length = b.length → cb (a ++ x) (b ++ y) = cor (cb a b) (cb x y)
 | [], [], _, _, _ => rfl
 | [], _ :: _, _, _, h => by simp at h
 | _ :: _, [], _, _, h => by simp at h
 | p :: a, q :: b, x, y, h => by
  rw [List.cons_append, List.cons_append]
  rcases zc4 p q with e | e | e
  ·rw [wm e, wm e]; rfl
  ·subst e; rw [kq, kq]; exact cb_app a b x y (by simpa using h)
  ·rw [wn e, wn e]; rfl
theorem zl4 (a : Bs) : (value a).length ≤ a.length := (List.dropWhile_sublist _).length_le
theorem zpr {m n : Nat} (h : m < n) (hn : n ≤ 255) : UInt8.ofNat m < UInt8.ofNat n := by
 rw [UInt8.lt_iff_toNat_lt, UInt8.toNat_ofNat', UInt8.toNat_ofNat', Nat.mod_eq_of_lt (by omega), Nat.mod_eq_of_lt (by omega)]; exact h
theorem zc6 (a b x y : Bs) (ha : a.length ≤ 255) (hb : b.length ≤ 255) : cb (nk a ++ x) (nk b ++ y) = cor (numbers a b) (cb x y) := by
 have h1 := zl4 a
 have h2 := zl4 b
 unfold nk numbers Lib.compareInt
 rw [List.cons_append, List.cons_append]
 rcases Nat.lt_trichotomy (value a).length (value b).length with h | h | h
 ·rw [wm (zpr h (by omega)), if_pos (by omega)]; rfl
 ·rw [h, kq, cb_app _ _ _ _ h, if_neg (by omega), if_neg (by omega), ue]
 ·rw [wn (zpr h (by omega)), if_neg (by omega), if_pos (by omega)]; rfl
theorem _root_.Go.Proofs.YtbikeahmldobkaaGreatDoor.zys {P : Prop} (h : P := by
 rw [UInt8.lt_iff_toNat_lt]
 rw [Ne, ← UInt8.toNat_inj] at this
 have h0 : (0 : UInt8).toNat = 0 := rfl
 omega) : P := h
theorem zs5 : ∀ (p q x y : Bs), (∀ c ∈ p, c ≠ 0) → (∀ c ∈ q, c ≠ 0) → cb (p ++ 0 :: x) (q ++ 0 :: y) = cor (cb p q) (cb x y)
 | [], [], x, y, _, _ => by rw [List.nil_append, List.nil_append, kq]; rfl
 | [], b :: q, x, y, _, h => by
  have hb : (0 : UInt8) < b := by
   have := h b (by simp)
   exact zys
  rw [List.nil_append, List.cons_append, wm hb]; rfl
 | b :: p, [], x, y, h, _ => by
  have hb : (0 : UInt8) < b := by
   have := h b (by simp)
   exact zys
  rw [List.nil_append, List.cons_append, wn hb]; rfl
 | b :: p, c :: q, x, y, h, g => by
  rw [List.cons_append, List.cons_append]
  rcases zc4 b c with e | e | e
  ·rw [wm e, wm e]; rfl
  ·subst e
   rw [kq, kq]
   exact zs5 p q x y (fun d hd => h d (by simp [hd])) (fun d hd => g d (by simp [hd]))
  ·rw [wn e, wn e]; rfl
def zeg (p : Bs) : Bs := if digits p then 1 :: nk p else 2 :: (p ++ [0])
def yk (l : List Bs) : Bs := (l.map zeg).flatten
def znc (l : List Bs) : Bs := if l.isEmpty then [3] else yk l ++ [0]
def zmn (x : List Bs × List Bs) : Bs := nk (x.1.getD 0 []) ++ (nk (x.1.getD 1 []) ++ (nk (x.1.getD 2 []) ++ znc x.2))
def Tame (p : Bs) : Prop := p.length ≤ 255 ∧ ∀ c ∈ p, c ≠ 0
theorem ztk (p q x y : Bs) (hp : Tame p) (hq : Tame q) : cb (zeg p ++ x) (zeg q ++ y) = cor (jt p q) (cb x y) := by
 unfold zeg jt
 rcases h1 : digits p with _ | _ <;> rcases h2 : digits q with _ | _
 ·simp only [Bool.false_eq_true, if_false, Bool.and_self]
  rw [List.cons_append, List.cons_append, kq, List.append_assoc, List.append_assoc]
  exact zs5 p q x y hp.2 hq.2
 ·simp only [Bool.false_eq_true, if_false, if_true, Bool.and_true]
  rw [List.cons_append, List.cons_append, wn (by decide)]; rfl
 ·simp only [Bool.false_eq_true, if_false, if_true, Bool.and_false]
  rw [List.cons_append, List.cons_append, wm (by decide)]; rfl
 ·simp only [if_true, Bool.and_self]
  rw [List.cons_append, List.cons_append, kq]
  exact zc6 p q x y hp.1 hq.1
theorem zcl (p x : Bs) : ∃ c r, zeg p ++ x = c :: r ∧ 0 < c ∧ c < 3 := by
 unfold zeg
 split
 ·exact ⟨_, _, rfl, by decide, by decide⟩
 ·exact ⟨_, _, rfl, by decide, by decide⟩
theorem zj2 : ∀ p q : List Bs, (∀ x ∈ p, Tame x) → (∀ x ∈ q, Tame x) → cb (yk p ++ [0]) (yk q ++ [0]) = jb jt p q
 | [], [], _, _ => rfl
 | [], b :: q, _, _ => by
  obtain ⟨c, r, h, hc, _⟩ := zcl b (yk q ++ [0])
  show cb [0] ((zeg b ++ yk q) ++ [0]) = -1
  rw [List.append_assoc, h, wm hc]
 | b :: p, [], _, _ => by
  obtain ⟨c, r, h, hc, _⟩ := zcl b (yk p ++ [0])
  show cb ((zeg b ++ yk p) ++ [0]) [0] = 1
  rw [List.append_assoc, h, wn hc]
 | a :: p, b :: q, hp, hq => by
  show cb ((zeg a ++ yk p) ++ [0]) ((zeg b ++ yk q) ++ [0]) = cor (jt a b) (jb jt p q)
  rw [List.append_assoc, List.append_assoc, ztk a b _ _ (hp a (by simp)) (hq b (by simp)), zj2 p q (fun x h => hp x (by simp [h])) (fun x h => hq x (by simp [h]))]
theorem zrf (p q : List Bs) (hp : ∀ x ∈ p, Tame x) (hq : ∀ x ∈ q, Tame x) : cb (znc p) (znc q) = zcs p q := by
 unfold znc zcs
 cases p with
 | nil =>
  cases q with
  | nil => rfl
  | cons b q =>
   obtain ⟨c, r, h, _, hc⟩ := zcl b (yk q ++ [0])
   have e : yk (b :: q) ++ [0] = c :: r := by rw [← h]; simp [yk]
   simp only [List.isEmpty_nil, List.isEmpty_cons, if_true, if_false, Bool.false_eq_true, Bool.true_or]
   rw [e, wn hc]
   unfold Lib.compareInt
   rw [if_neg (by simp; try omega), if_pos (by simp; try omega)]
 | cons a p =>
  cases q with
  | nil =>
   obtain ⟨c, r, h, _, hc⟩ := zcl a (yk p ++ [0])
   have e : yk (a :: p) ++ [0] = c :: r := by rw [← h]; simp [yk]
   simp only [List.isEmpty_nil, List.isEmpty_cons, if_true, if_false, Bool.false_eq_true, Bool.or_true]
   rw [e, wm hc]
   unfold Lib.compareInt
   rw [if_pos (by simp; try omega)]
  | cons b q => simp only [List.isEmpty_cons, if_false, Bool.false_eq_true, Bool.or_self]; exact zj2 _ _ hp hq
theorem zr5 (x y : List Bs × List Bs) (hx : ∀ k, (x.1.getD k []).length ≤ 255) (hy : ∀ k, (y.1.getD k []).length ≤ 255) (hp : ∀ z ∈ x.2, Tame z) (hq : ∀ z ∈ y.2, Tame z) :
  cb (zmn x) (zmn y) = je x y := by
 unfold zmn je
 rw [zc6 _ _ _ _ (hx 0) (hy 0), zc6 _ _ _ _ (hx 1) (hy 1), zc6 _ _ _ _ (hx 2) (hy 2), zrf _ _ hp hq]
 simp only [orI, zbv, zai]
def wb (c : UInt8) : UInt8 := if c = 126 then 1 else if lett c then c else c ||| 128
def wts (s : Bs) : Bs := s.map wb ++ [2]
theorem zl5 (c : UInt8) : wb c ≠ 2 := by
 have h : ∀ n : Fin 256, wb (UInt8.ofNat n.val) ≠ 2 := by decide +kernel
 have := h ⟨c.toNat, c.toNat_lt⟩
 rwa [show UInt8.ofNat c.toNat = c from UInt8.ofNat_toNat] at this
theorem zh0 (c : UInt8) (s : Bs) : wt (c :: s) 0 = (wb c).toNat := by
 unfold wt wb
 simp only [List.length_cons, List.getD_cons_zero]
 rw [if_neg (by omega)]
 repeat' split
 all_goals rfl
theorem zs3 (c : UInt8) (s : Bs) (i : Nat) : wt (c :: s) (i + 1) = wt s i := by
 unfold wt
 simp only [List.length_cons, List.getD_cons_succ, Nat.add_le_add_iff_right]
theorem wt_nil (i : Nat) : wt [] i = 2 := by unfold wt; simp
theorem ztt (b c : UInt8) (p q : Bs) : wcmp (b :: p) (c :: q) = cor (Lib.compareInt (wb b).toNat (wb c).toNat) (wcmp p q) := by
 unfold wcmp
 rw [List.length_cons, List.length_cons, Nat.succ_max_succ, List.range_succ_eq_map, List.map_cons, orI, zh0, zh0, List.map_map]
 congr 2
 exact List.map_congr_left (fun i _ => by show Lib.compareInt (wt (b :: p) (i + 1)) (wt (c :: q) (i + 1)) = _; rw [zs3, zs3])
theorem zds {a b : Int} (h : a ≠ b) : Lib.compareInt a b ≠ 0 := by unfold Lib.compareInt; repeat' split <;> omega
theorem zki (c : UInt8) (q : Bs) : wcmp [] (c :: q) = Lib.compareInt 2 (wb c).toNat := by
 unfold wcmp
 rw [List.length_nil, List.length_cons, Nat.zero_max, List.range_succ_eq_map, List.map_cons, orI, zh0, wt_nil, js]
 apply zds
 intro e
 apply zl5 c
 rw [← UInt8.toNat_inj]
 have : (2 : UInt8).toNat = 2 := rfl
 omega
theorem zly (c : UInt8) (q : Bs) : wcmp (c :: q) [] = Lib.compareInt (wb c).toNat 2 := by
 unfold wcmp
 rw [List.length_nil, List.length_cons, Nat.max_zero, List.range_succ_eq_map, List.map_cons, orI, zh0, wt_nil, js]
 apply zds
 intro e
 apply zl5 c
 rw [← UInt8.toNat_inj]
 have : (2 : UInt8).toNat = 2 := rfl
 omega
theorem wcmp_nil : wcmp [] [] = 0 := rfl
theorem zkc (x y : UInt8) (a b : Bs) : cb (x :: a) (y :: b) = cor (Lib.compareInt x.toNat y.toNat) (cb a b) := by
 unfold Lib.compareInt
 rcases zc4 x y with e | e | e
 ·rw [wm e, if_pos (by rw [UInt8.lt_iff_toNat_lt] at e; omega)]; rfl
 ·subst e; rw [kq, if_neg (by omega), if_neg (by omega)]; rfl
 ·rw [wn e, if_neg (by rw [UInt8.lt_iff_toNat_lt] at e; omega), if_pos (by rw [UInt8.lt_iff_toNat_lt] at e; omega)]; rfl
theorem zf5 : ∀ (p q x y : Bs), cb (wts p ++ x) (wts q ++ y) = cor (wcmp p q) (cb x y)
 | [], [], x, y => by rw [wcmp_nil, ue]; exact kq 2 x y
 | [], c :: q, x, y => by
  rw [zki]
  show cb (2 :: x) (wb c :: (wts q ++ y)) = _
  rw [zkc]
  have h : Lib.compareInt ((2 : UInt8).toNat : Int) (wb c).toNat ≠ 0 := zds (by
    intro e; apply zl5 c; rw [← UInt8.toNat_inj]; omega)
  rw [js h]
  exact (js h _).symm
 | c :: p, [], x, y => by
  rw [zly]
  show cb (wb c :: (wts p ++ x)) (2 :: y) = _
  rw [zkc]
  have h : Lib.compareInt (wb c).toNat ((2 : UInt8).toNat : Int) ≠ 0 := zds (by
    intro e; apply zl5 c; rw [← UInt8.toNat_inj]; omega)
  rw [js h]
  exact (js h _).symm
 | b :: p, c :: q, x, y => by
  rw [ztt]
  show cb (wb b :: (wts p ++ x)) (wb c :: (wts q ++ y)) = _
  rw [zkc, zf5 p q x y, zai]
def zc2 (s : Bs) : Bs := (zx (zx s false).2 true).2
def zec (s : Bs) : Bs := wts (zx s false).1 ++ nk (zx (zx s false).2 true).1
def zc1 : Nat → Bs → Bs
 | 0, _ => [2]
 | f + 1, s => if s.isEmpty then [2] else zec s ++ zc1 f (zc2 s)
def zfn (s : Bs) : Bs := zec s ++ zc1 s.length (zc2 s)
theorem zlf (s : Bs) : (zc2 s).length ≤ s.length := by
 have h1 := ql s false
 have h2 := ql (zx s false).2 true
 unfold zc2; omega
theorem zph {s : Bs} (h : s ≠ []) : (zc2 s).length < s.length := xv s h
theorem zmb {p : UInt8 → Bool} : ∀ {l : Bs} {c r}, l.dropWhile p = c :: r → p c = false
 | b :: l, c, r, h => by
  rw [List.dropWhile_cons] at h
  split at h
  ·exact zmb h
  ·rename_i hb
   simp at h; obtain ⟨rfl, _⟩ := h; exact Bool.eq_false_iff.2 hb
theorem zca {s : Bs} {c : UInt8} {r : Bs} (h : zc2 s = c :: r) : dig c = false := by
 have := zmb (p := fun c => dig c == true) (show List.dropWhile _ _ = c :: r from h)
 simpa using this
theorem wy (a b : Bs) : qi a b = cor (wcmp (zx a false).1 (zx b false).1)
      (cor (numbers (zx (zx a false).2 true).1 (zx (zx b false).2 true).1) (qi (zc2 a) (zc2 b))) := by
 by_cases h : (a.isEmpty && b.isEmpty) = true
 ·rw [Bool.and_eq_true, List.isEmpty_iff, List.isEmpty_iff] at h
  obtain ⟨rfl, rfl⟩ := h
  decide +kernel
 ·exact zdn a b h
theorem zf2 (s : Bs) : (zx s false).1.length ≤ s.length ∧ (zx (zx s false).2 true).1.length ≤ s.length := by
 have h1 := ql s false
 have h2 := ql (zx s false).2 true
 omega
theorem zmj {c : UInt8} (r : Bs) (h : dig c = false) : ∃ q, (zx (c :: r) false).1 = c :: q := by
 unfold zx
 refine ⟨r.takeWhile fun c => dig c == false, ?_⟩
 simp [h]
theorem zmk : ∀ (f g : Nat) (a b x y : Bs), a.length ≤ f → b.length ≤ g → a.length ≤ 255 → b.length ≤ 255 → (∀ c r, a = c :: r → dig c = false) → (∀ c r, b = c :: r → dig c = false) →
  cb (zc1 f a ++ x) (zc1 g b ++ y) = cor (qi a b) (cb x y)
 | f, g, [], [], x, y, _, _, _, _, _, _ => by
  have e1 : zc1 f [] = [2] := by cases f <;> rfl
  have e2 : zc1 g [] = [2] := by cases g <;> rfl
  rw [e1, e2, zqv, ue]; exact kq 2 x y
 | f, 0, _, _ :: _, _, _, _, h, _, _, _, _ => by simp at h
 | 0, g, _ :: _, _, _, _, h, _, _, _, _, _ => by simp at h
 | f, g + 1, [], c :: r, x, y, _, _, _, _, _, hb => by
  have e1 : zc1 f [] = wts [] := by cases f <;> rfl
  obtain ⟨q, hq⟩ := zmj r (hb c r rfl)
  have e0 : (zx ([] : Bs) false).1 = [] := rfl
  have hw : wcmp [] (c :: q) ≠ 0 := by
   rw [zki]; exact zds (by intro e; apply zl5 c; rw [← UInt8.toNat_inj]; have : (2 : UInt8).toNat = 2 := rfl; omega)
  rw [wy, hq, e0, js hw, e1]
  show cb (wts [] ++ x) ((zec (c :: r) ++ zc1 g (zc2 (c :: r))) ++ y) = _
  unfold zec
  rw [hq, List.append_assoc, List.append_assoc, zf5, js hw, js hw]
 | f + 1, g, c :: r, [], x, y, _, _, _, _, ha, _ => by
  have e1 : zc1 g [] = wts [] := by cases g <;> rfl
  obtain ⟨q, hq⟩ := zmj r (ha c r rfl)
  have e0 : (zx ([] : Bs) false).1 = [] := rfl
  have hw : wcmp (c :: q) [] ≠ 0 := by
   rw [zly]; exact zds (by intro e; apply zl5 c; rw [← UInt8.toNat_inj]; have : (2 : UInt8).toNat = 2 := rfl; omega)
  rw [wy, hq, e0, js hw, e1]
  show cb ((zec (c :: r) ++ zc1 f (zc2 (c :: r))) ++ x) (wts [] ++ y) = _
  unfold zec
  rw [hq, List.append_assoc, List.append_assoc, zf5, js hw, js hw]
 | f + 1, g + 1, c :: r, d :: t, x, y, hf, hg, h1, h2, ha, hb => by
  have l1 := zph (s := c :: r) (by simp)
  have l2 := zph (s := d :: t) (by simp)
  have s1 := zf2 (c :: r)
  have s2 := zf2 (d :: t)
  rw [wy]
  show cb ((zec (c :: r) ++ zc1 f (zc2 (c :: r))) ++ x) ((zec (d :: t) ++ zc1 g (zc2 (d :: t))) ++ y) = _
  unfold zec
  rw [List.append_assoc, List.append_assoc, List.append_assoc, List.append_assoc, zf5, zc6 _ _ _ _ (by omega) (by omega),
    zmk f g _ _ x y (by omega) (by omega) (by omega) (by omega) (fun _ _ h => zca h) (fun _ _ h => zca h), zai, zai]
theorem zgs (a b x y : Bs) (ha : a.length ≤ 255) (hb : b.length ≤ 255) : cb (zfn a ++ x) (zfn b ++ y) = cor (qi a b) (cb x y) := by
 have l1 := zlf a
 have l2 := zlf b
 have s1 := zf2 a
 have s2 := zf2 b
 unfold zfn zec
 rw [wy, List.append_assoc, List.append_assoc, List.append_assoc, List.append_assoc, zf5, zc6 _ _ _ _ (by omega) (by omega),
   zmk _ _ _ _ x y (by omega) (by omega) (by omega) (by omega) (fun _ _ h => zca h) (fun _ _ h => zca h), zai, zai]
def znd (x : Bs × Bs × Bs) : Bs := nk x.1 ++ (zfn x.2.1 ++ zfn x.2.2)
theorem zsa (x y : Bs × Bs × Bs) (h1 : x.1.length ≤ 255) (h2 : x.2.1.length ≤ 255) (h3 : x.2.2.length ≤ 255) (g1 : y.1.length ≤ 255) (g2 : y.2.1.length ≤ 255) (g3 : y.2.2.length ≤ 255) :
  cb (znd x) (znd y) = yv x y := by
 unfold znd yv
 rw [zc6 _ _ _ _ h1 g1, zgs _ _ _ _ h2 g2]
 have := zgs x.2.2 y.2.2 [] [] h3 g3
 rw [List.append_nil, List.append_nil, show cb [] [] = 0 from rfl, zbv] at this
 rw [this]
 simp only [orI, zbv]
def zsb (l : List Bs) : Bs := (l.map fun x => 1 :: nk x).flatten
def zqi (l : List Bs) : Bs := zsb l ++ [0]
theorem zi6 : ∀ p q : List Bs, (∀ x ∈ p, x.length ≤ 255) → (∀ x ∈ q, x.length ≤ 255) → cb (zqi p) (zqi q) = jb numbers p q
 | [], [], _, _ => rfl
 | [], b :: q, _, _ => rfl
 | b :: p, [], _, _ => rfl
 | a :: p, b :: q, hp, hq => by
  show cb (((1 :: nk a) ++ zsb p) ++ [0]) (((1 :: nk b) ++ zsb q) ++ [0]) = cor (numbers a b) (jb numbers p q)
  rw [List.append_assoc, List.append_assoc, List.cons_append, List.cons_append, kq, zc6 _ _ _ _ (hp a (by simp)) (hq b (by simp))]
  congr 1
  exact zi6 p q (fun x h => hp x (by simp [h])) (fun x h => hq x (by simp [h]))
def keyV (n : Int) (v : Bs) : Bs :=
 if n = 1 then (match zo v with | some x => zmn x | none => [])
 else if n = 2 then (match zw v with | some x => znd x | none => [])
 else zqi (jk v)
theorem zfr (c : UInt8) (l : Bs) : (cut1 c l).1.length ≤ l.length ∧ (cut1 c l).2.1.length ≤ l.length := by
 unfold cut1
 split
 ·exact ⟨(List.takeWhile_sublist _).length_le, by simp⟩
 ·simp
theorem _root_.Go.Proofs.YtbikeahmldobkaaGreatDoor.zwe {P : Prop} (h : P := by
 split at h
 ·rcases List.mem_cons.1 h with h | h
  ·simp [h]
  ·have := ih x h; simp; omega
 ·split at h
  ·simp at h; simp [h]
  ·rename_i y r he
   rw [he] at ih
   rcases List.mem_cons.1 h with h | h
   ·subst h; have := ih y (by simp); simp; omega
   ·have := ih x (by simp [h]); simp; omega) : P := h
theorem zb6 (c : UInt8) : ∀ (l x : Bs), x ∈ zl c l → x.length ≤ l.length
 | [], x, h => by simp [zl] at h; simp [h]
 | b :: l, x, h => by
  have ih := zb6 c l
  unfold zl at h
  exact zwe
theorem zj3 {e : Bool} {x : Bs} (h : ju e x = true) (hl : x.length ≤ 255) : Tame x := by
 refine ⟨hl, fun c hc e0 => ?_⟩
 subst e0
 unfold ju only at h
 rw [Bool.and_eq_true, Bool.and_eq_true, List.all_eq_true] at h
 have := h.1.1 0 hc
 revert this; decide +kernel
theorem yz {s : Bs} {l pre : List Bs} (h : zo s = some (l, pre)) : (∀ x ∈ l, x.length ≤ s.length) ∧ (∀ x ∈ pre, x.length ≤ s.length ∧ ju true x = true) := by
 unfold zo at h
 have h1 := zfr 43 s
 have h2 := zfr 45 (cut1 43 s).1
 split at h
 ·cases h
 ·rename_i hn
  split at h
  ·simp only [Option.some.injEq, Prod.mk.injEq] at h
   obtain ⟨rfl, h⟩ := h
   refine ⟨fun x hx => by have := zb6 46 _ x hx; omega, fun x hx => ?_⟩
   split at h
   ·rename_i hc
    subst h
    refine ⟨by have := zb6 46 _ x hx; omega, ?_⟩
    have hi : identifiers (cut1 45 (cut1 43 s).1).2.1 true = true := by
     rcases hb : identifiers (cut1 45 (cut1 43 s).1).2.1 true with _ | _
     ·rw [hb, hc] at hn; simp at hn
     ·rfl
    unfold identifiers at hi
    rw [List.all_eq_true] at hi
    exact hi x hx
   ·subst h; simp at hx
  ·cases h
theorem yy {s : Bs} {x : Bs × Bs × Bs} (h : zw s = some x) : x.1.length ≤ s.length ∧ x.2.1.length ≤ s.length ∧ x.2.2.length ≤ s.length := by
 have ht : ∀ {ep t : Bs}, ep.length ≤ s.length → t.length ≤ s.length → jc ep t = some x → x.1.length ≤ s.length ∧ x.2.1.length ≤ s.length ∧ x.2.2.length ≤ s.length := by
  intro ep t he hl h
  unfold jc at h
  repeat' split at h
  all_goals first | (cases h; done) | (simp only [Option.some.injEq] at h; subst h; simp only [List.length_take, List.length_drop, List.length_nil]; omega)
 have h1 := zfr 58 s
 unfold zw at h
 split at h
 ·split at h
  ·exact ht h1.1 h1.2 h
  ·cases h
 ·exact ht (by simp) (Nat.le_refl _) h
theorem zf3 {s x : Bs} (h : x ∈ jk s) : x.length ≤ s.length := by
 unfold jk qd at h
 rw [List.mem_reverse] at h
 exact zb6 46 s x (List.mem_reverse.1 ((List.dropWhile_sublist _).subset h))
theorem xp {n : Int} {v : Bs} (h : valid n v = true) : v.length ≤ 64 := by
 unfold valid at h; simp at h; omega
theorem zd2 {l : List Bs} {m : Nat} (h : ∀ x ∈ l, x.length ≤ m) (k : Nat) : (l.getD k []).length ≤ m := by
 rw [List.getD_eq_getElem?_getD]
 rcases hk : l[k]? with _ | x
 ·simp
 ·exact h x (List.mem_of_getElem? hk)
theorem zd4 {n : Int} (hn : scheme n = true) {a b : Bs} (ha : valid n a = true) (hb : valid n b = true) : cb (keyV n a) (keyV n b) = cmpV n a b := by
 have l1 := xp ha
 have l2 := xp hb
 have hs : n = 1 ∨ n = 2 ∨ n = 3 := by unfold scheme at hn; simpa [or_assoc] using hn
 rcases hs with rfl | rfl | rfl
 ·unfold keyV cmpV
  rw [if_pos rfl, if_pos rfl, if_pos rfl]
  obtain ⟨⟨la, pa⟩, e1⟩ := Option.isSome_iff_exists.1 (show (zo a).isSome = true by unfold valid xl at ha; simp at ha; exact ha.2)
  obtain ⟨⟨lb, pb⟩, e2⟩ := Option.isSome_iff_exists.1 (show (zo b).isSome = true by unfold valid xl at hb; simp at hb; exact hb.2)
  have f1 := yz e1
  have f2 := yz e2
  rw [e1, e2]
  exact zr5 _ _ (fun k => by have := zd2 f1.1 k; simp only; omega) (fun k => by have := zd2 f2.1 k; simp only; omega)
   (fun z hz => zj3 (f1.2 z hz).2 (by have := (f1.2 z hz).1; omega)) (fun z hz => zj3 (f2.2 z hz).2 (by have := (f2.2 z hz).1; omega))
 ·unfold keyV cmpV
  rw [if_neg (by decide), if_pos rfl, if_neg (by decide), if_pos rfl, if_neg (by decide), if_pos rfl]
  obtain ⟨x, e1⟩ := Option.isSome_iff_exists.1 (show (zw a).isSome = true by unfold valid xl at ha; simp at ha; exact ha.2)
  obtain ⟨y, e2⟩ := Option.isSome_iff_exists.1 (show (zw b).isSome = true by unfold valid xl at hb; simp at hb; exact hb.2)
  have f1 := yy e1
  have f2 := yy e2
  rw [e1, e2]
  exact zsa _ _ (by omega) (by omega) (by omega) (by omega) (by omega) (by omega)
 ·unfold keyV cmpV
  rw [if_neg (by decide), if_neg (by decide), if_neg (by decide), if_neg (by decide), if_neg (by decide), if_neg (by decide)]
  exact zi6 _ _ (fun x hx => by have := zf3 hx; omega) (fun x hx => by have := zf3 hx; omega)
theorem zty {n : Int} (hn : scheme n = true) {a b c : Bs} (ha : valid n a = true) (hb : valid n b = true) (hc : valid n c = true) :
  cmpV n a b = - cmpV n b a ∧ cmpV n a a = 0 ∧ ¬ (cmpV n a b ≤ 0 ∧ cmpV n b c ≤ 0 ∧ 0 < cmpV n a c) ∧ ¬ (0 ≤ cmpV n a b ∧ 0 ≤ cmpV n b c ∧ cmpV n a c < 0) ∧ (cmpV n a b = 0 → cmpV n b c = cmpV n a c) := by
 rw [← zd4 hn ha hb, ← zd4 hn hb ha, ← zd4 hn ha ha, ← zd4 hn hb hc, ← zd4 hn ha hc]
 refine ⟨kf _ _, uh _, fun h => ?_, fun h => ?_, fun h => ?_⟩
 ·have := wh _ _ _ h.1 h.2.1; omega
 ·have h1 := kf (keyV n a) (keyV n b)
  have h2 := kf (keyV n b) (keyV n c)
  have h3 := kf (keyV n a) (keyV n c)
  have := wh (keyV n c) (keyV n b) (keyV n a) (by omega) (by omega)
  omega
 ·rw [zjg h]
end Go.Proofs.YtbikeahmldobkaaGreatDoor.V
namespace Go.Proofs.YtbikeahmldobkaaGreatDoor.V
def verB (c : UInt8) : Bool := kind [46, 43, 126, 45, 58] c
theorem wg {P : UInt8 → Prop} (c : UInt8) (hc : P c) : ∀ l : Bs, (∀ x ∈ zl c l, ∀ b ∈ x, P b) → ∀ b ∈ l, P b
 | [], _, b, hb => by simp at hb
 | a :: l, h, b, hb => by
  unfold zl at h
  by_cases e : a = c
  ·subst e
   simp only [beq_self_eq_true, if_true] at h
   rcases List.mem_cons.1 hb with rfl | hb
   ·exact hc
   ·exact wg a hc l (fun x hx => h x (by simp [hx])) b hb
  ·rw [if_neg (by simpa using e)] at h
   rcases hs : zl c l with _ | ⟨y, r⟩
   ·exact absurd hs (zr4 c l)
   ·rw [hs] at h
    simp only at h
    rcases List.mem_cons.1 hb with rfl | hb
    ·exact h (b :: y) (by simp) b (by simp)
    ·exact wg c hc l (fun x hx z hz => by
       rw [hs] at hx
       rcases List.mem_cons.1 hx with rfl | hx
       · exact h (a :: x) (by simp) z (by simp [hz])
       · exact h x (by simp [hx]) z hz) b hb
theorem zp6 (c : UInt8) : ∀ l : Bs, c ∈ l → l = l.takeWhile (· != c) ++ c :: l.drop ((l.takeWhile (· != c)).length + 1)
 | [], h => by simp at h
 | b :: l, h => by
  by_cases e : b = c
  ·subst e; simp
  ·have hb : (b != c) = true := by simpa using e
   have ih := zp6 c l (by
     rcases List.mem_cons.1 h with h | h
     · exact absurd h.symm e
     · exact h)
   rw [List.takeWhile_cons, if_pos hb, List.length_cons, List.drop_succ_cons, List.cons_append, ← ih]
theorem zl7 (c : UInt8) (l : Bs) (h : (cut1 c l).2.2 = true) : l = (cut1 c l).1 ++ c :: (cut1 c l).2.1 := by
 unfold cut1 at *
 by_cases hc : c ∈ l
 ·rw [if_pos hc]; exact zp6 c l hc
 ·rw [if_neg hc] at h; cases h
theorem cut_none (c : UInt8) (l : Bs) (h : (cut1 c l).2.2 = false) : (cut1 c l).1 = l := by
 unfold cut1 at *
 split
 ·rename_i hc; rw [if_pos hc] at h; cases h
 ·rfl
theorem zgf {P : UInt8 → Prop} (c : UInt8) (hc : P c) (l : Bs) (h1 : ∀ b ∈ (cut1 c l).1, P b) (h2 : (cut1 c l).2.2 = true → ∀ b ∈ (cut1 c l).2.1, P b) : ∀ b ∈ l, P b := by
 intro b hb
 rcases h : (cut1 c l).2.2 with _ | _
 ·rw [cut_none c l h] at h1; exact h1 b hb
 ·rw [zl7 c l h] at hb
  rcases List.mem_append.1 hb with g | g
  ·exact h1 b g
  ·rcases List.mem_cons.1 g with rfl | g
   ·exact hc
   ·exact h2 h b g
theorem ze3 {p : UInt8 → Bool} {l : Bs} (h : only p l = true) : ∀ b ∈ l, p b = true := by
 unfold only at h
 rw [Bool.and_eq_true, List.all_eq_true] at h
 exact h.1
theorem zd1 {o o' : Bs} (ho : ∀ c ∈ o, c ∈ o') {c : UInt8} (h : kind o c = true) : kind o' c = true := by
 unfold kind at *
 rw [Bool.or_eq_true] at *
 rcases h with h | h
 ·exact .inl h
 ·exact .inr (by simpa using ho c (by simpa using h))
theorem zm9 {x : Bs} {e : Bool} (h : numb x e = true) : ∀ b ∈ x, verB b = true := fun b hb => by
 unfold numb digits at h
 rw [Bool.and_eq_true] at h
 have := ze3 h.1 b hb
 unfold verB kind; rw [this]; simp
theorem ident_in {x : Bs} {e : Bool} (h : ju e x = true) : ∀ b ∈ x, verB b = true := fun b hb => by
 unfold ju at h
 rw [Bool.and_eq_true] at h
 exact zd1 (by simp) (ze3 h.1 b hb)
theorem zma {s : Bs} {e : Bool} (h : identifiers s e = true) : ∀ b ∈ s, verB b = true := by
 unfold identifiers at h
 rw [List.all_eq_true] at h
 exact wg 46 (by decide +kernel) s fun x hx => ident_in (h x hx)
theorem dot_in {s : Bs} (h : zeh s = true) : ∀ b ∈ s, verB b = true := by
 unfold zeh at h
 rw [List.all_eq_true] at h
 exact wg 46 (by decide +kernel) s fun x hx => zm9 (h x hx)
theorem sem_in {s : Bs} (h : (zo s).isSome = true) : ∀ b ∈ s, verB b = true := by
 unfold zo at h
 split at h
 ·cases h
 ·rename_i hn
  split at h
  ·rename_i ha
   rw [List.all_eq_true] at ha
   simp only [Bool.or_eq_true, Bool.and_eq_true, Bool.not_eq_true', not_or, not_and, Bool.not_eq_false] at hn
   obtain ⟨⟨h1, h2⟩, _⟩ := hn
   refine zgf 43 (by decide +kernel) s (zgf 45 (by decide +kernel) _ (wg 46 (by decide +kernel) _ fun x hx => zm9 (ha x hx)) fun e => zma (h2 e)) fun e => zma (h1 e)
  ·cases h
theorem zi8 {ep s : Bs} (h : (jc ep s).isSome = true) : ∀ b ∈ s, verB b = true := by
 unfold jc at h
 split at h
 ·split at h
  ·rename_i g
   rw [Bool.and_eq_true] at g
   exact fun b hb => zd1 (by simp) (ze3 g.1 b hb)
  ·cases h
 ·rename_i h0
  split at h
  ·rename_i g1
   split at h
   ·rename_i g2
    rw [Bool.and_eq_true] at g2
    have e1 := fun b hb => zd1 (o' := [46, 43, 126, 45, 58]) (by simp) (ze3 g2.1 b hb)
    have e2 := fun b hb => zd1 (o' := [46, 43, 126, 45, 58]) (by simp [allow]) (ze3 g1 b hb)
    unfold ja at *
    rcases Lib.lastIndexByte_spec ⟨s.toArray⟩ 45 with ⟨e, _⟩ | ⟨i, hi, e, hc, _⟩
    ·rw [e] at h0; simp at h0
    ·rw [e] at e1 e2
     have g0 : i < s.length := by rw [show (ByteArray.mk s.toArray).size = s.length by show s.toArray.size = _; simp] at hi; exact hi
     intro b hb
     rw [← List.take_append_drop i s, List.drop_eq_getElem_cons g0] at hb
     rcases List.mem_append.1 hb with q | q
     ·exact e1 b (by simpa using q)
     ·rcases List.mem_cons.1 q with rfl | q
      ·have : s[i] = 45 := by
        have e3 : (ByteArray.mk s.toArray).data[i]! = s[i] := by simp [g0]
        rw [e3] at hc
        exact UInt8.toNat_inj.1 (show s[i].toNat = 45 by omega)
       rw [this]; decide +kernel
      ·exact e2 b (by simpa using q)
   ·cases h
  ·cases h
theorem deb_in {s : Bs} (h : (zw s).isSome = true) : ∀ b ∈ s, verB b = true := by
 unfold zw at h
 split at h
 ·rename_i hc
  split at h
  ·rename_i hn
   exact zgf 58 (by decide +kernel) s (zm9 hn) fun _ => zi8 h
  ·cases h
 ·exact zi8 h
theorem valid_in {n : Int} {v : Bs} (h : valid n v = true) : ∀ b ∈ v, verB b = true := by
 unfold valid xl at h
 rw [Bool.and_eq_true] at h
 obtain ⟨_, h⟩ := h
 repeat' split at h
 ·exact sem_in h
 ·exact deb_in h
 ·exact dot_in h
 ·cases h
theorem zlq {n : Int} {v : Bs} (h : valid n v = true) {c : UInt8} (hc : verB c = false) : c ∉ v := fun g => by
 rw [valid_in h c g] at hc; cases hc
theorem zny {n : Int} {v : Bs} (h : valid n v = true) : n = 1 ∨ n = 2 ∨ n = 3 := by
 unfold valid xl at h
 rw [Bool.and_eq_true] at h
 obtain ⟨_, h⟩ := h
 repeat' split at h
 all_goals first | (cases h; done) | omega
end Go.Proofs.YtbikeahmldobkaaGreatDoor.V
namespace Go.Proofs.YtbikeahmldobkaaGreatDoor.V
structure Comp where
 par : Int
 sch : Int
 name : Bs
 ver : Bs
 dig : List Int
deriving DecidableEq
def xq (c : Comp) : Bool := jo c.name && valid c.sch c.ver
def za0 (l : List Comp) (i : Nat) (c : Comp) : Bool := xq c && (decide (-1 ≤ c.par) && (decide (c.par < i) && !decide (c ∈ l.take i)))
def qf (l : List Comp) : Nat → Bool
 | 0 => true
 | k + 1 => qf l k && match l[k]? with | some c => za0 l k c | none => true
def zf9 (art : List Int) (time : Int) (l : List Comp) : Bool := !decide (art = List.replicate 32 0) && (decide (0 ≤ time) && (decide (time ≤ 1099511627776) && decide (l.length ≤ 128)))
def qt (art : List Int) (time : Int) (l : List Comp) : Bool := zf9 art time l && qf l l.length
theorem kx {l : List Comp} {k : Nat} (h : k < l.length) : qf l (k + 1) = (qf l k && za0 l k l[k]) := by
 show (qf l k && match l[k]? with | some c => za0 l k c | none => true) = _
 rw [List.getElem?_eq_getElem h]
theorem zbi {l : List Comp} : ∀ {m k : Nat}, k ≤ m → qf l k = false → qf l m = false
 | 0, k, h, e => by obtain rfl : k = 0 := by omega
                    exact e
 | m + 1, k, h, e => by
  by_cases g : k = m + 1
  ·subst g; exact e
  ·show (qf l m && _) = false
   rw [zbi (by omega) e]; rfl
theorem zr3 {l : List Comp} {k m : Nat} (h : k ≤ m) (e : qf l m = true) : qf l k = true := by
 rcases hh : qf l k with _ | _
 ·rw [zbi h hh] at e; cases e
 ·rfl
theorem zj9 {l : List Comp} {k : Nat} (e : qf l l.length = true) (h : k < l.length) : za0 l k l[k] = true := by
 have := zr3 (show k + 1 ≤ l.length by omega) e
 rw [kx h] at this
 exact (Bool.and_eq_true_iff.1 this).2
theorem zez {l : List Comp} {k : Nat} {c : Comp} : za0 l k c = true ↔ xq c = true ∧ -1 ≤ c.par ∧ c.par < k ∧ c ∉ l.take k := by
 unfold za0; simp [Bool.and_eq_true]
end Go.Proofs.YtbikeahmldobkaaGreatDoor.V
namespace Go.Proofs.YtbikeahmldobkaaGreatDoor.V
theorem zis {c : Comp} : xq c = true ↔ jo c.name = true ∧ valid c.sch c.ver = true := by unfold xq; rw [Bool.and_eq_true]
end Go.Proofs.YtbikeahmldobkaaGreatDoor.V
