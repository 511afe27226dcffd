/-
  Lemmas for the law.
-/
import Derived.Test.YtbikeahmldobkaaGreatDoorC41x01
set_option linter.all false
namespace Go.Proofs.YtbikeahmldobkaaGreatDoor.V
abbrev cb := Lib.compareBytes
theorem yt (a b c : Int) : cor (cor a b) c = cor a (cor b c) := by unfold cor; repeat' split <;> simp_all
theorem za9 (a : Int) : cor a 0 = a := by unfold cor; split <;> simp_all
theorem zje : ∀ a, cb a a = 0
 | [] => rfl
 | x :: a => by simp [cb, Lib.compareBytes]; exact zje a
theorem jl (x : UInt8) (a b : Bs) : cb (x :: a) (x :: b) = cb a b := by simp [cb, Lib.compareBytes]
theorem yf {x y : UInt8} (h : x < y) (a b : Bs) : cb (x :: a) (y :: b) = -1 := by simp [cb, Lib.compareBytes, h]
theorem yg {x y : UInt8} (h : y < x) (a b : Bs) : cb (x :: a) (y :: b) = 1 := by
 have h2 : ¬ x < y := fun g => by rw [UInt8.lt_iff_toNat_lt] at h g; omega
 simp [cb, Lib.compareBytes, h, h2]
theorem zaf (x y : UInt8) : x < y ∨ x = y ∨ y < x := by
 rw [UInt8.lt_iff_toNat_lt, UInt8.lt_iff_toNat_lt, ← UInt8.toNat_inj]; omega
theorem ziw (x y : UInt8) (a b : Bs) : (x < y ∧ cb (x :: a) (y :: b) = -1) ∨ (x = y ∧ cb (x :: a) (y :: b) = cb a b) ∨ (y < x ∧ cb (x :: a) (y :: b) = 1) := by
 rcases zaf x y with h | h | h
 ·exact .inl ⟨h, yf h a b⟩
 ·subst h; exact .inr (.inl ⟨rfl, jl x a b⟩)
 ·exact .inr (.inr ⟨h, yg h a b⟩)
theorem zjk : ∀ a b, cb a b = -1 ∨ cb a b = 0 ∨ cb a b = 1
 | [], [] => .inr (.inl rfl)
 | [], _ :: _ => .inl rfl
 | _ :: _, [] => .inr (.inr rfl)
 | x :: a, y :: b => by
  rcases ziw x y a b with ⟨_, h⟩ | ⟨_, h⟩ | ⟨_, h⟩
  ·exact .inl h
  ·rw [h]; exact zjk a b
  ·exact .inr (.inr h)
theorem za5 : ∀ a b, cb b a = - cb a b
 | [], [] => rfl
 | [], _ :: _ => rfl
 | _ :: _, [] => rfl
 | x :: a, y :: b => by
  rcases zaf x y with h | h | h
  ·rw [yf h, yg h]; rfl
  ·subst h; rw [jl, jl]; exact za5 a b
  ·rw [yf h, yg h]
theorem cb_eq : ∀ {a b}, cb a b = 0 → a = b
 | [], [], _ => rfl
 | [], _ :: _, h => by simp [cb, Lib.compareBytes] at h
 | _ :: _, [], h => by simp [cb, Lib.compareBytes] at h
 | x :: a, y :: b, h => by
  rcases ziw x y a b with ⟨_, g⟩ | ⟨e, g⟩ | ⟨_, g⟩
  ·rw [g] at h; simp at h
  ·rw [g] at h; rw [e, cb_eq h]
  ·rw [g] at h; simp at h
theorem zfw : ∀ a b c, cb a b ≤ 0 → cb b c ≤ 0 → cb a c ≤ 0
 | [], _, [], _, _ => by simp [cb, Lib.compareBytes]
 | [], _, _ :: _, _, _ => by simp [cb, Lib.compareBytes]
 | _ :: _, [], _, h, _ => by simp [cb, Lib.compareBytes] at h
 | _ :: _, _ :: _, [], _, h => by simp [cb, Lib.compareBytes] at h
 | x :: a, y :: b, z :: c, h, g => by
  rcases zaf x y with h1 | h1 | h1
  ·rcases zaf y z with g1 | g1 | g1
   ·rw [yf (by rw [UInt8.lt_iff_toNat_lt] at *; omega)]; decide
   ·subst g1; rw [yf h1]; decide
   ·rw [yg g1] at g; simp at g
  ·subst h1
   rcases zaf x z with g1 | g1 | g1
   ·rw [yf g1]; decide
   ·subst g1; rw [jl] at *; exact zfw a b c h g
   ·rw [yg g1] at g; simp at g
  ·rw [yg h1] at h; simp at h
theorem cb_app : ∀ (a b x y : Bs), a.length = b.length → cb (a ++ x) (b ++ y) = cor (cb a b) (cb x y)
 | [], [], _, _, _ => rfl
 | [], _ :: _, _, _, h => by simp at h
 | _ :: _, [], _, _, h => by simp at h
 | p :: a, q :: b, x, y, h => by
  rw [List.cons_append, List.cons_append]
  rcases zaf p q with e | e | e
  ·rw [yf e, yf e]; rfl
  ·subst e; rw [jl, jl]; exact cb_app a b x y (by simpa using h)
  ·rw [yg e, yg e]; rfl
theorem zhy (a : Bs) : (value a).length ≤ a.length := (List.dropWhile_sublist _).length_le
theorem zk8 {m n : Nat} (h : m < n) (hn : n ≤ 255) : UInt8.ofNat m < UInt8.ofNat n := by
 rw [UInt8.lt_iff_toNat_lt, UInt8.toNat_ofNat', UInt8.toNat_ofNat', Nat.mod_eq_of_lt (by omega), Nat.mod_eq_of_lt (by omega)]; exact h
theorem zaj (a b x y : Bs) (ha : a.length ≤ 255) (hb : b.length ≤ 255) : cb (nk a ++ x) (nk b ++ y) = cor (numbers a b) (cb x y) := by
 have h1 := zhy a
 have h2 := zhy b
 unfold nk numbers Lib.compareInt
 rw [List.cons_append, List.cons_append]
 rcases Nat.lt_trichotomy (value a).length (value b).length with h | h | h
 ·rw [yf (zk8 h (by omega)), if_pos (by omega)]; rfl
 ·rw [h, jl, cb_app _ _ _ _ h, if_neg (by omega), if_neg (by omega), xf]
 ·rw [yg (zk8 h (by omega)), if_neg (by omega), if_pos (by omega)]; rfl
theorem _root_.Go.Proofs.YtbikeahmldobkaaGreatDoor.zsh {P : Prop} (h : P := by
 rw [UInt8.lt_iff_toNat_lt]
 rw [Ne, ← UInt8.toNat_inj] at this
 have h0 : (0 : UInt8).toNat = 0 := rfl
 omega) : P := h
theorem znq : ∀ (p q x y : Bs), (∀ c ∈ p, c ≠ 0) → (∀ c ∈ q, c ≠ 0) → cb (p ++ 0 :: x) (q ++ 0 :: y) = cor (cb p q) (cb x y)
 | [], [], x, y, _, _ => by rw [List.nil_append, List.nil_append, jl]; rfl
 | [], b :: q, x, y, _, h => by
  have hb : (0 : UInt8) < b := by
   have := h b (by simp)
   exact zsh
  rw [List.nil_append, List.cons_append, yf hb]; rfl
 | b :: p, [], x, y, h, _ => by
  have hb : (0 : UInt8) < b := by
   have := h b (by simp)
   exact zsh
  rw [List.nil_append, List.cons_append, yg hb]; rfl
 | b :: p, c :: q, x, y, h, g => by
  rw [List.cons_append, List.cons_append]
  rcases zaf b c with e | e | e
  ·rw [yf e, yf e]; rfl
  ·subst e
   rw [jl, jl]
   exact znq p q x y (fun d hd => h d (by simp [hd])) (fun d hd => g d (by simp [hd]))
  ·rw [yg e, yg e]; rfl
def zbn (p : Bs) : Bs := if digits p then 1 :: nk p else 2 :: (p ++ [0])
def kq (l : List Bs) : Bs := (l.map zbn).flatten
def zi8 (l : List Bs) : Bs := if l.isEmpty then [3] else kq l ++ [0]
def zig (x : List Bs × List Bs) : Bs := nk (x.1.getD 0 []) ++ (nk (x.1.getD 1 []) ++ (nk (x.1.getD 2 []) ++ zi8 x.2))
def Tame (p : Bs) : Prop := p.length ≤ 255 ∧ ∀ c ∈ p, c ≠ 0
theorem znz (p q x y : Bs) (hp : Tame p) (hq : Tame q) : cb (zbn p ++ x) (zbn q ++ y) = cor (jc p q) (cb x y) := by
 unfold zbn jc
 rcases h1 : digits p with _ | _ <;> rcases h2 : digits q with _ | _
 ·simp only [Bool.false_eq_true, if_false, Bool.and_self]
  rw [List.cons_append, List.cons_append, jl, List.append_assoc, List.append_assoc]
  exact znq p q x y hp.2 hq.2
 ·simp only [Bool.false_eq_true, if_false, if_true, Bool.and_true]
  rw [List.cons_append, List.cons_append, yg (by decide)]; rfl
 ·simp only [Bool.false_eq_true, if_false, if_true, Bool.and_false]
  rw [List.cons_append, List.cons_append, yf (by decide)]; rfl
 ·simp only [if_true, Bool.and_self]
  rw [List.cons_append, List.cons_append, jl]
  exact zaj p q x y hp.1 hq.1
theorem vy (p x : Bs) : ∃ c r, zbn p ++ x = c :: r ∧ 0 < c ∧ c < 3 := by
 unfold zbn
 split
 ·exact ⟨_, _, rfl, by decide, by decide⟩
 ·exact ⟨_, _, rfl, by decide, by decide⟩
theorem zf3 : ∀ p q : List Bs, (∀ x ∈ p, Tame x) → (∀ x ∈ q, Tame x) → cb (kq p ++ [0]) (kq q ++ [0]) = qm jc p q
 | [], [], _, _ => rfl
 | [], b :: q, _, _ => by
  obtain ⟨c, r, h, hc, _⟩ := vy b (kq q ++ [0])
  show cb [0] ((zbn b ++ kq q) ++ [0]) = -1
  rw [List.append_assoc, h, yf hc]
 | b :: p, [], _, _ => by
  obtain ⟨c, r, h, hc, _⟩ := vy b (kq p ++ [0])
  show cb ((zbn b ++ kq p) ++ [0]) [0] = 1
  rw [List.append_assoc, h, yg hc]
 | a :: p, b :: q, hp, hq => by
  show cb ((zbn a ++ kq p) ++ [0]) ((zbn b ++ kq q) ++ [0]) = cor (jc a b) (qm jc p q)
  rw [List.append_assoc, List.append_assoc, znz a b _ _ (hp a (by simp)) (hq b (by simp)), zf3 p q (fun x h => hp x (by simp [h])) (fun x h => hq x (by simp [h]))]
theorem zmh (p q : List Bs) (hp : ∀ x ∈ p, Tame x) (hq : ∀ x ∈ q, Tame x) : cb (zi8 p) (zi8 q) = wl p q := by
 unfold zi8 wl
 cases p with
 | nil =>
  cases q with
  | nil => rfl
  | cons b q =>
   obtain ⟨c, r, h, _, hc⟩ := vy b (kq q ++ [0])
   have e : kq (b :: q) ++ [0] = c :: r := by rw [← h]; simp [kq]
   simp only [List.isEmpty_nil, List.isEmpty_cons, if_true, if_false, Bool.false_eq_true, Bool.true_or]
   rw [e, yg hc]
   unfold Lib.compareInt
   rw [if_neg (by simp; try omega), if_pos (by simp; try omega)]
 | cons a p =>
  cases q with
  | nil =>
   obtain ⟨c, r, h, _, hc⟩ := vy a (kq p ++ [0])
   have e : kq (a :: p) ++ [0] = c :: r := by rw [← h]; simp [kq]
   simp only [List.isEmpty_nil, List.isEmpty_cons, if_true, if_false, Bool.false_eq_true, Bool.or_true]
   rw [e, yf hc]
   unfold Lib.compareInt
   rw [if_pos (by simp; try omega)]
  | cons b q => simp only [List.isEmpty_cons, if_false, Bool.false_eq_true, Bool.or_self]; exact zf3 _ _ hp hq
theorem zm2 (x y : List Bs × List Bs) (hx : ∀ k, (x.1.getD k []).length ≤ 255) (hy : ∀ k, (y.1.getD k []).length ≤ 255) (hp : ∀ z ∈ x.2, Tame z) (hq : ∀ z ∈ y.2, Tame z) :
  cb (zig x) (zig y) = qp x y := by
 unfold zig qp
 rw [zaj _ _ _ _ (hx 0) (hy 0), zaj _ _ _ _ (hx 1) (hy 1), zaj _ _ _ _ (hx 2) (hy 2), zmh _ _ hp hq]
 simp only [orI, za9, yt]
def wb (c : UInt8) : UInt8 := if c = 126 then 1 else if lett c then c else c ||| 128
def wts (s : Bs) : Bs := s.map wb ++ [2]
theorem zhz (c : UInt8) : wb c ≠ 2 := by
 have h : ∀ n : Fin 256, wb (UInt8.ofNat n.val) ≠ 2 := by decide +kernel
 have := h ⟨c.toNat, c.toNat_lt⟩
 rwa [show UInt8.ofNat c.toNat = c from UInt8.ofNat_toNat] at this
theorem zeh (c : UInt8) (s : Bs) : wt (c :: s) 0 = (wb c).toNat := by
 unfold wt wb
 simp only [List.length_cons, List.getD_cons_zero]
 rw [if_neg (by omega)]
 repeat' split
 all_goals rfl
theorem zno (c : UInt8) (s : Bs) (i : Nat) : wt (c :: s) (i + 1) = wt s i := by
 unfold wt
 simp only [List.length_cons, List.getD_cons_succ, Nat.add_le_add_iff_right]
theorem wt_nil (i : Nat) : wt [] i = 2 := by unfold wt; simp
theorem zn3 (b c : UInt8) (p q : Bs) : wcmp (b :: p) (c :: q) = cor (Lib.compareInt (wb b).toNat (wb c).toNat) (wcmp p q) := by
 unfold wcmp
 rw [List.length_cons, List.length_cons, Nat.succ_max_succ, List.range_succ_eq_map, List.map_cons, orI, zeh, zeh, List.map_map]
 congr 2
 exact List.map_congr_left (fun i _ => by show Lib.compareInt (wt (b :: p) (i + 1)) (wt (c :: q) (i + 1)) = _; rw [zno, zno])
theorem za1 {a b : Int} (h : a ≠ b) : Lib.compareInt a b ≠ 0 := by unfold Lib.compareInt; repeat' split <;> omega
theorem zgi (c : UInt8) (q : Bs) : wcmp [] (c :: q) = Lib.compareInt 2 (wb c).toNat := by
 unfold wcmp
 rw [List.length_nil, List.length_cons, Nat.zero_max, List.range_succ_eq_map, List.map_cons, orI, zeh, wt_nil, jb]
 apply za1
 intro e
 apply zhz c
 rw [← UInt8.toNat_inj]
 have : (2 : UInt8).toNat = 2 := rfl
 omega
theorem zhu (c : UInt8) (q : Bs) : wcmp (c :: q) [] = Lib.compareInt (wb c).toNat 2 := by
 unfold wcmp
 rw [List.length_nil, List.length_cons, Nat.max_zero, List.range_succ_eq_map, List.map_cons, orI, zeh, wt_nil, jb]
 apply za1
 intro e
 apply zhz c
 rw [← UInt8.toNat_inj]
 have : (2 : UInt8).toNat = 2 := rfl
 omega
theorem wcmp_nil : wcmp [] [] = 0 := rfl
theorem zgc (x y : UInt8) (a b : Bs) : cb (x :: a) (y :: b) = cor (Lib.compareInt x.toNat y.toNat) (cb a b) := by
 unfold Lib.compareInt
 rcases zaf x y with e | e | e
 ·rw [yf e, if_pos (by rw [UInt8.lt_iff_toNat_lt] at e; omega)]; rfl
 ·subst e; rw [jl, if_neg (by omega), if_neg (by omega)]; rfl
 ·rw [yg e, if_neg (by rw [UInt8.lt_iff_toNat_lt] at e; omega), if_pos (by rw [UInt8.lt_iff_toNat_lt] at e; omega)]; rfl
theorem zc1 : ∀ (p q x y : Bs), cb (wts p ++ x) (wts q ++ y) = cor (wcmp p q) (cb x y)
 | [], [], x, y => by rw [wcmp_nil, xf]; exact jl 2 x y
 | [], c :: q, x, y => by
  rw [zgi]
  show cb (2 :: x) (wb c :: (wts q ++ y)) = _
  rw [zgc]
  have h : Lib.compareInt ((2 : UInt8).toNat : Int) (wb c).toNat ≠ 0 := za1 (by
    intro e; apply zhz c; rw [← UInt8.toNat_inj]; omega)
  rw [jb h]
  exact (jb h _).symm
 | c :: p, [], x, y => by
  rw [zhu]
  show cb (wb c :: (wts p ++ x)) (2 :: y) = _
  rw [zgc]
  have h : Lib.compareInt (wb c).toNat ((2 : UInt8).toNat : Int) ≠ 0 := za1 (by
    intro e; apply zhz c; rw [← UInt8.toNat_inj]; omega)
  rw [jb h]
  exact (jb h _).symm
 | b :: p, c :: q, x, y => by
  rw [zn3]
  show cb (wb b :: (wts p ++ x)) (wb c :: (wts q ++ y)) = _
  rw [zgc, zc1 p q x y, yt]
def zad (s : Bs) : Bs := (zt (zt s false).2 true).2
def zbl (s : Bs) : Bs := wts (zt s false).1 ++ nk (zt (zt s false).2 true).1
def zac : Nat → Bs → Bs
 | 0, _ => [2]
 | f + 1, s => if s.isEmpty then [2] else zbl s ++ zac f (zad s)
def zci (s : Bs) : Bs := zbl s ++ zac s.length (zad s)
theorem zhg (s : Bs) : (zad s).length ≤ s.length := by
 have h1 := qa s false
 have h2 := qa (zt s false).2 true
 unfold zad; omega
theorem zkw {s : Bs} (h : s ≠ []) : (zad s).length < s.length := kf s h
theorem zh3 {p : UInt8 → Bool} : ∀ {l : Bs} {c r}, l.dropWhile p = c :: r → p c = false
 | b :: l, c, r, h => by
  rw [List.dropWhile_cons] at h
  split at h
  ·exact zh3 h
  ·rename_i hb
   simp at h; obtain ⟨rfl, _⟩ := h; exact Bool.eq_false_iff.2 hb
theorem vi {s : Bs} {c : UInt8} {r : Bs} (h : zad s = c :: r) : dig c = false := by
 have := zh3 (p := fun c => dig c == true) (show List.dropWhile _ _ = c :: r from h)
 simpa using this
theorem yn (a b : Bs) : zx a b = cor (wcmp (zt a false).1 (zt b false).1)
      (cor (numbers (zt (zt a false).2 true).1 (zt (zt b false).2 true).1) (zx (zad a) (zad b))) := by
 by_cases h : (a.isEmpty && b.isEmpty) = true
 ·rw [Bool.and_eq_true, List.isEmpty_iff, List.isEmpty_iff] at h
  obtain ⟨rfl, rfl⟩ := h
  decide +kernel
 ·exact zay a b h
theorem zcw (s : Bs) : (zt s false).1.length ≤ s.length ∧ (zt (zt s false).2 true).1.length ≤ s.length := by
 have h1 := qa s false
 have h2 := qa (zt s false).2 true
 omega
theorem zia {c : UInt8} (r : Bs) (h : dig c = false) : ∃ q, (zt (c :: r) false).1 = c :: q := by
 unfold zt
 refine ⟨r.takeWhile fun c => dig c == false, ?_⟩
 simp [h]
theorem zib : ∀ (f g : Nat) (a b x y : Bs), a.length ≤ f → b.length ≤ g → a.length ≤ 255 → b.length ≤ 255 → (∀ c r, a = c :: r → dig c = false) → (∀ c r, b = c :: r → dig c = false) →
  cb (zac f a ++ x) (zac g b ++ y) = cor (zx a b) (cb x y)
 | f, g, [], [], x, y, _, _, _, _, _, _ => by
  have e1 : zac f [] = [2] := by cases f <;> rfl
  have e2 : zac g [] = [2] := by cases g <;> rfl
  rw [e1, e2, zl5, xf]; exact jl 2 x y
 | f, 0, _, _ :: _, _, _, _, h, _, _, _, _ => by simp at h
 | 0, g, _ :: _, _, _, _, h, _, _, _, _, _ => by simp at h
 | f, g + 1, [], c :: r, x, y, _, _, _, _, _, hb => by
  have e1 : zac f [] = wts [] := by cases f <;> rfl
  obtain ⟨q, hq⟩ := zia r (hb c r rfl)
  have e0 : (zt ([] : Bs) false).1 = [] := rfl
  have hw : wcmp [] (c :: q) ≠ 0 := by
   rw [zgi]; exact za1 (by intro e; apply zhz c; rw [← UInt8.toNat_inj]; have : (2 : UInt8).toNat = 2 := rfl; omega)
  rw [yn, hq, e0, jb hw, e1]
  show cb (wts [] ++ x) ((zbl (c :: r) ++ zac g (zad (c :: r))) ++ y) = _
  unfold zbl
  rw [hq, List.append_assoc, List.append_assoc, zc1, jb hw, jb hw]
 | f + 1, g, c :: r, [], x, y, _, _, _, _, ha, _ => by
  have e1 : zac g [] = wts [] := by cases g <;> rfl
  obtain ⟨q, hq⟩ := zia r (ha c r rfl)
  have e0 : (zt ([] : Bs) false).1 = [] := rfl
  have hw : wcmp (c :: q) [] ≠ 0 := by
   rw [zhu]; exact za1 (by intro e; apply zhz c; rw [← UInt8.toNat_inj]; have : (2 : UInt8).toNat = 2 := rfl; omega)
  rw [yn, hq, e0, jb hw, e1]
  show cb ((zbl (c :: r) ++ zac f (zad (c :: r))) ++ x) (wts [] ++ y) = _
  unfold zbl
  rw [hq, List.append_assoc, List.append_assoc, zc1, jb hw, jb hw]
 | f + 1, g + 1, c :: r, d :: t, x, y, hf, hg, h1, h2, ha, hb => by
  have l1 := zkw (s := c :: r) (by simp)
  have l2 := zkw (s := d :: t) (by simp)
  have s1 := zcw (c :: r)
  have s2 := zcw (d :: t)
  rw [yn]
  show cb ((zbl (c :: r) ++ zac f (zad (c :: r))) ++ x) ((zbl (d :: t) ++ zac g (zad (d :: t))) ++ y) = _
  unfold zbl
  rw [List.append_assoc, List.append_assoc, List.append_assoc, List.append_assoc, zc1, zaj _ _ _ _ (by omega) (by omega),
    zib f g _ _ x y (by omega) (by omega) (by omega) (by omega) (fun _ _ h => vi h) (fun _ _ h => vi h), yt, yt]
theorem zdf (a b x y : Bs) (ha : a.length ≤ 255) (hb : b.length ≤ 255) : cb (zci a ++ x) (zci b ++ y) = cor (zx a b) (cb x y) := by
 have l1 := zhg a
 have l2 := zhg b
 have s1 := zcw a
 have s2 := zcw b
 unfold zci zbl
 rw [yn, List.append_assoc, List.append_assoc, List.append_assoc, List.append_assoc, zc1, zaj _ _ _ _ (by omega) (by omega),
   zib _ _ _ _ x y (by omega) (by omega) (by omega) (by omega) (fun _ _ h => vi h) (fun _ _ h => vi h), yt, yt]
def zi9 (x : Bs × Bs × Bs) : Bs := nk x.1 ++ (zci x.2.1 ++ zci x.2.2)
theorem zm5 (x y : Bs × Bs × Bs) (h1 : x.1.length ≤ 255) (h2 : x.2.1.length ≤ 255) (h3 : x.2.2.length ≤ 255) (g1 : y.1.length ≤ 255) (g2 : y.2.1.length ≤ 255) (g3 : y.2.2.length ≤ 255) :
  cb (zi9 x) (zi9 y) = xa x y := by
 unfold zi9 xa
 rw [zaj _ _ _ _ h1 g1, zdf _ _ _ _ h2 g2]
 have := zdf x.2.2 y.2.2 [] [] h3 g3
 rw [List.append_nil, List.append_nil, show cb [] [] = 0 from rfl, za9] at this
 rw [this]
 simp only [orI, za9]
def zm6 (l : List Bs) : Bs := (l.map fun x => 1 :: nk x).flatten
def zlv (l : List Bs) : Bs := zm6 l ++ [0]
theorem zfh : ∀ p q : List Bs, (∀ x ∈ p, x.length ≤ 255) → (∀ x ∈ q, x.length ≤ 255) → cb (zlv p) (zlv q) = qm numbers p q
 | [], [], _, _ => rfl
 | [], b :: q, _, _ => rfl
 | b :: p, [], _, _ => rfl
 | a :: p, b :: q, hp, hq => by
  show cb (((1 :: nk a) ++ zm6 p) ++ [0]) (((1 :: nk b) ++ zm6 q) ++ [0]) = cor (numbers a b) (qm numbers p q)
  rw [List.append_assoc, List.append_assoc, List.cons_append, List.cons_append, jl, zaj _ _ _ _ (hp a (by simp)) (hq b (by simp))]
  congr 1
  exact zfh p q (fun x h => hp x (by simp [h])) (fun x h => hq x (by simp [h]))
def keyV (n : Int) (v : Bs) : Bs :=
 if n = 1 then (match zl v with | some x => zig x | none => [])
 else if n = 2 then (match zq v with | some x => zi9 x | none => [])
 else zlv (qt v)
theorem zcl (c : UInt8) (l : Bs) : (cut1 c l).1.length ≤ l.length ∧ (cut1 c l).2.1.length ≤ l.length := by
 unfold cut1
 split
 ·exact ⟨(List.takeWhile_sublist _).length_le, by simp⟩
 ·simp
theorem _root_.Go.Proofs.YtbikeahmldobkaaGreatDoor.zqd {P : Prop} (h : P := by
 split at h
 ·rcases List.mem_cons.1 h with h | h
  ·simp [h]
  ·have := ih x h; simp; omega
 ·split at h
  ·simp at h; simp [h]
  ·rename_i y r he
   rw [he] at ih
   rcases List.mem_cons.1 h with h | h
   ·subst h; have := ih y (by simp); simp; omega
   ·have := ih x (by simp [h]); simp; omega) : P := h
theorem vg (c : UInt8) : ∀ (l x : Bs), x ∈ zo c l → x.length ≤ l.length
 | [], x, h => by simp [zo] at h; simp [h]
 | b :: l, x, h => by
  have ih := vg c l
  unfold zo at h
  exact zqd
theorem zf4 {e : Bool} {x : Bs} (h : jh e x = true) (hl : x.length ≤ 255) : Tame x := by
 refine ⟨hl, fun c hc e0 => ?_⟩
 subst e0
 unfold jh only at h
 rw [Bool.and_eq_true, Bool.and_eq_true, List.all_eq_true] at h
 have := h.1.1 0 hc
 revert this; decide +kernel
theorem xd {s : Bs} {l pre : List Bs} (h : zl s = some (l, pre)) : (∀ x ∈ l, x.length ≤ s.length) ∧ (∀ x ∈ pre, x.length ≤ s.length ∧ jh true x = true) := by
 unfold zl at h
 have h1 := zcl 43 s
 have h2 := zcl 45 (cut1 43 s).1
 split at h
 ·cases h
 ·rename_i hn
  split at h
  ·simp only [Option.some.injEq, Prod.mk.injEq] at h
   obtain ⟨rfl, h⟩ := h
   refine ⟨fun x hx => by have := vg 46 _ x hx; omega, fun x hx => ?_⟩
   split at h
   ·rename_i hc
    subst h
    refine ⟨by have := vg 46 _ x hx; omega, ?_⟩
    have hi : identifiers (cut1 45 (cut1 43 s).1).2.1 true = true := by
     rcases hb : identifiers (cut1 45 (cut1 43 s).1).2.1 true with _ | _
     ·rw [hb, hc] at hn; simp at hn
     ·rfl
    unfold identifiers at hi
    rw [List.all_eq_true] at hi
    exact hi x hx
   ·subst h; simp at hx
  ·cases h
theorem xc {s : Bs} {x : Bs × Bs × Bs} (h : zq s = some x) : x.1.length ≤ s.length ∧ x.2.1.length ≤ s.length ∧ x.2.2.length ≤ s.length := by
 have ht : ∀ {ep t : Bs}, ep.length ≤ s.length → t.length ≤ s.length → qs ep t = some x → x.1.length ≤ s.length ∧ x.2.1.length ≤ s.length ∧ x.2.2.length ≤ s.length := by
  intro ep t he hl h
  unfold qs at h
  repeat' split at h
  all_goals first | (cases h; done) | (simp only [Option.some.injEq] at h; subst h; simp only [List.length_take, List.length_drop, List.length_nil]; omega)
 have h1 := zcl 58 s
 unfold zq at h
 split at h
 ·split at h
  ·exact ht h1.1 h1.2 h
  ·cases h
 ·exact ht (by simp) (Nat.le_refl _) h
theorem zcy {s x : Bs} (h : x ∈ qt s) : x.length ≤ s.length := by
 unfold qt zw at h
 rw [List.mem_reverse] at h
 exact vg 46 s x (List.mem_reverse.1 ((List.dropWhile_sublist _).subset h))
theorem ky {n : Int} {v : Bs} (h : valid n v = true) : v.length ≤ 64 := by
 unfold valid at h; simp at h; omega
theorem za8 {l : List Bs} {m : Nat} (h : ∀ x ∈ l, x.length ≤ m) (k : Nat) : (l.getD k []).length ≤ m := by
 rw [List.getD_eq_getElem?_getD]
 rcases hk : l[k]? with _ | x
 ·simp
 ·exact h x (List.mem_of_getElem? hk)
theorem vx {n : Int} (hn : scheme n = true) {a b : Bs} (ha : valid n a = true) (hb : valid n b = true) : cb (keyV n a) (keyV n b) = cmpV n a b := by
 have l1 := ky ha
 have l2 := ky hb
 have hs : n = 1 ∨ n = 2 ∨ n = 3 := by unfold scheme at hn; simpa [or_assoc] using hn
 rcases hs with rfl | rfl | rfl
 ·unfold keyV cmpV
  rw [if_pos rfl, if_pos rfl, if_pos rfl]
  obtain ⟨⟨la, pa⟩, e1⟩ := Option.isSome_iff_exists.1 (show (zl a).isSome = true by unfold valid kj at ha; simp at ha; exact ha.2)
  obtain ⟨⟨lb, pb⟩, e2⟩ := Option.isSome_iff_exists.1 (show (zl b).isSome = true by unfold valid kj at hb; simp at hb; exact hb.2)
  have f1 := xd e1
  have f2 := xd e2
  rw [e1, e2]
  exact zm2 _ _ (fun k => by have := za8 f1.1 k; simp only; omega) (fun k => by have := za8 f2.1 k; simp only; omega)
   (fun z hz => zf4 (f1.2 z hz).2 (by have := (f1.2 z hz).1; omega)) (fun z hz => zf4 (f2.2 z hz).2 (by have := (f2.2 z hz).1; omega))
 ·unfold keyV cmpV
  rw [if_neg (by decide), if_pos rfl, if_neg (by decide), if_pos rfl, if_neg (by decide), if_pos rfl]
  obtain ⟨x, e1⟩ := Option.isSome_iff_exists.1 (show (zq a).isSome = true by unfold valid kj at ha; simp at ha; exact ha.2)
  obtain ⟨y, e2⟩ := Option.isSome_iff_exists.1 (show (zq b).isSome = true by unfold valid kj at hb; simp at hb; exact hb.2)
  have f1 := xc e1
  have f2 := xc e2
  rw [e1, e2]
  exact zm5 _ _ (by omega) (by omega) (by omega) (by omega) (by omega) (by omega)
 ·unfold keyV cmpV
  rw [if_neg (by decide), if_neg (by decide), if_neg (by decide), if_neg (by decide), if_neg (by decide), if_neg (by decide)]
  exact zfh _ _ (fun x hx => by have := zcy hx; omega) (fun x hx => by have := zcy hx; omega)
theorem zg8 {n : Int} (hn : scheme n = true) {a b c : Bs} (ha : valid n a = true) (hb : valid n b = true) (hc : valid n c = true) :
  cmpV n a b = - cmpV n b a ∧ cmpV n a a = 0 ∧ ¬ (cmpV n a b ≤ 0 ∧ cmpV n b c ≤ 0 ∧ 0 < cmpV n a c) ∧ ¬ (0 ≤ cmpV n a b ∧ 0 ≤ cmpV n b c ∧ cmpV n a c < 0) ∧ (cmpV n a b = 0 → cmpV n b c = cmpV n a c) := by
 rw [← vx hn ha hb, ← vx hn hb ha, ← vx hn ha ha, ← vx hn hb hc, ← vx hn ha hc]
 refine ⟨za5 _ _, zje _, fun h => ?_, fun h => ?_, fun h => ?_⟩
 ·have := zfw _ _ _ h.1 h.2.1; omega
 ·have h1 := za5 (keyV n a) (keyV n b)
  have h2 := za5 (keyV n b) (keyV n c)
  have h3 := za5 (keyV n a) (keyV n c)
  have := zfw (keyV n c) (keyV n b) (keyV n a) (by omega) (by omega)
  omega
 ·rw [cb_eq h]
end Go.Proofs.YtbikeahmldobkaaGreatDoor.V
namespace Go.Proofs.YtbikeahmldobkaaGreatDoor.V
theorem zlk (c : UInt8) : ∀ l : Bs, c ∈ l → l = l.takeWhile (· != c) ++ c :: l.drop ((l.takeWhile (· != c)).length + 1)
 | [], h => by simp at h
 | b :: l, h => by
  by_cases e : b = c
  ·subst e; simp
  ·have hb : (b != c) = true := by simpa using e
   have ih := zlk c l (by
     rcases List.mem_cons.1 h with h | h
     · exact absurd h.symm e
     · exact h)
   rw [List.takeWhile_cons, if_pos hb, List.length_cons, List.drop_succ_cons, List.cons_append, ← ih]
theorem zot (c : UInt8) (l : Bs) (h : (cut1 c l).2.2 = true) : l = (cut1 c l).1 ++ c :: (cut1 c l).2.1 := by
 unfold cut1 at *
 by_cases hc : c ∈ l
 ·rw [if_pos hc]; exact zlk c l hc
 ·rw [if_neg hc] at h; cases h
end Go.Proofs.YtbikeahmldobkaaGreatDoor.V
