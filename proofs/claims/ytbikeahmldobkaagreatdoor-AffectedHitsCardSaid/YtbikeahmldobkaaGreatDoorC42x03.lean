/-
  Lemmas for the law.
-/
import Derived.Test.YtbikeahmldobkaaGreatDoorC42x01
set_option linter.all false
namespace Go.Proofs.YtbikeahmldobkaaGreatDoor.V
abbrev cb := Lib.compareBytes
theorem zaq (a b c : Int) : cor (cor a b) c = cor a (cor b c) := by unfold cor; repeat' split <;> simp_all
theorem zb7 (a : Int) : cor a 0 = a := by unfold cor; split <;> simp_all
theorem ut : ∀ a, cb a a = 0
 | [] => rfl
 | x :: a => by simp [cb, Lib.compareBytes]; exact ut a
theorem ky (x : UInt8) (a b : Bs) : cb (x :: a) (x :: b) = cb a b := by simp [cb, Lib.compareBytes]
theorem ww {x y : UInt8} (h : x < y) (a b : Bs) : cb (x :: a) (y :: b) = -1 := by simp [cb, Lib.compareBytes, h]
theorem zac {x y : UInt8} (h : y < x) (a b : Bs) : cb (x :: a) (y :: b) = 1 := by
 have h2 : ¬ x < y := fun g => by rw [UInt8.lt_iff_toNat_lt] at h g; omega
 simp [cb, Lib.compareBytes, h, h2]
theorem zdd (x y : UInt8) : x < y ∨ x = y ∨ y < x := by
 rw [UInt8.lt_iff_toNat_lt, UInt8.lt_iff_toNat_lt, ← UInt8.toNat_inj]; omega
theorem zh1 (x y : UInt8) (a b : Bs) : (x < y ∧ cb (x :: a) (y :: b) = -1) ∨ (x = y ∧ cb (x :: a) (y :: b) = cb a b) ∨ (y < x ∧ cb (x :: a) (y :: b) = 1) := by
 rcases zdd x y with h | h | h
 ·exact .inl ⟨h, ww h a b⟩
 ·subst h; exact .inr (.inl ⟨rfl, ky x a b⟩)
 ·exact .inr (.inr ⟨h, zac h a b⟩)
theorem ze4 : ∀ a b, cb a b = -1 ∨ cb a b = 0 ∨ cb a b = 1
 | [], [] => .inr (.inl rfl)
 | [], _ :: _ => .inl rfl
 | _ :: _, [] => .inr (.inr rfl)
 | x :: a, y :: b => by
  rcases zh1 x y a b with ⟨_, h⟩ | ⟨_, h⟩ | ⟨_, h⟩
  ·exact .inl h
  ·rw [h]; exact ze4 a b
  ·exact .inr (.inr h)
theorem km : ∀ a b, cb b a = - cb a b
 | [], [] => rfl
 | [], _ :: _ => rfl
 | _ :: _, [] => rfl
 | x :: a, y :: b => by
  rcases zdd x y with h | h | h
  ·rw [ww h, zac h]; rfl
  ·subst h; rw [ky, ky]; exact km a b
  ·rw [ww h, zac h]
theorem zjq : ∀ {a b}, cb a b = 0 → a = b
 | [], [], _ => rfl
 | [], _ :: _, h => by simp [cb, Lib.compareBytes] at h
 | _ :: _, [], h => by simp [cb, Lib.compareBytes] at h
 | x :: a, y :: b, h => by
  rcases zh1 x y a b with ⟨_, g⟩ | ⟨e, g⟩ | ⟨_, g⟩
  ·rw [g] at h; simp at h
  ·rw [g] at h; rw [e, zjq h]
  ·rw [g] at h; simp at h
theorem wm : ∀ a b c, cb a b ≤ 0 → cb b c ≤ 0 → cb a c ≤ 0
 | [], _, [], _, _ => by simp [cb, Lib.compareBytes]
 | [], _, _ :: _, _, _ => by simp [cb, Lib.compareBytes]
 | _ :: _, [], _, h, _ => by simp [cb, Lib.compareBytes] at h
 | _ :: _, _ :: _, [], _, h => by simp [cb, Lib.compareBytes] at h
 | x :: a, y :: b, z :: c, h, g => by
  rcases zdd x y with h1 | h1 | h1
  ·rcases zdd y z with g1 | g1 | g1
   ·rw [ww (by rw [UInt8.lt_iff_toNat_lt] at *; omega)]; decide
   ·subst g1; rw [ww h1]; decide
   ·rw [zac g1] at g; simp at g
  ·subst h1
   rcases zdd x z with g1 | g1 | g1
   ·rw [ww g1]; decide
   ·subst g1; rw [ky] at *; exact wm a b c h g
   ·rw [zac g1] at g; simp at g
  ·rw [zac h1] at h; simp at h
theorem cb_app : ∀ (a b x y : Bs), a.length = b.length → cb (a ++ x) (b ++ y) = cor (cb a b) (cb x y)
 | [], [], _, _, _ => rfl
 | [], _ :: _, _, _, h => by simp at h
 | _ :: _, [], _, _, h => by simp at h
 | p :: a, q :: b, x, y, h => by
  rw [List.cons_append, List.cons_append]
  rcases zdd p q with e | e | e
  ·rw [ww e, ww e]; rfl
  ·subst e; rw [ky, ky]; exact cb_app a b x y (by simpa using h)
  ·rw [zac e, zac e]; rfl
theorem zmi (a : Bs) : (value a).length ≤ a.length := (List.dropWhile_sublist _).length_le
theorem zqj {m n : Nat} (h : m < n) (hn : n ≤ 255) : UInt8.ofNat m < UInt8.ofNat n := by
 rw [UInt8.lt_iff_toNat_lt, UInt8.toNat_ofNat', UInt8.toNat_ofNat', Nat.mod_eq_of_lt (by omega), Nat.mod_eq_of_lt (by omega)]; exact h
theorem zdg (a b x y : Bs) (ha : a.length ≤ 255) (hb : b.length ≤ 255) : cb (nk a ++ x) (nk b ++ y) = cor (numbers a b) (cb x y) := by
 have h1 := zmi a
 have h2 := zmi b
 unfold nk numbers Lib.compareInt
 rw [List.cons_append, List.cons_append]
 rcases Nat.lt_trichotomy (value a).length (value b).length with h | h | h
 ·rw [ww (zqj h (by omega)), if_pos (by omega)]; rfl
 ·rw [h, ky, cb_app _ _ _ _ h, if_neg (by omega), if_neg (by omega), ul]
 ·rw [zac (zqj h (by omega)), if_neg (by omega), if_pos (by omega)]; rfl
theorem _root_.Go.Proofs.YtbikeahmldobkaaGreatDoor.zz3 {P : Prop} (h : P := by
 rw [UInt8.lt_iff_toNat_lt]
 rw [Ne, ← UInt8.toNat_inj] at this
 have h0 : (0 : UInt8).toNat = 0 := rfl
 omega) : P := h
theorem zts : ∀ (p q x y : Bs), (∀ c ∈ p, c ≠ 0) → (∀ c ∈ q, c ≠ 0) → cb (p ++ 0 :: x) (q ++ 0 :: y) = cor (cb p q) (cb x y)
 | [], [], x, y, _, _ => by rw [List.nil_append, List.nil_append, ky]; rfl
 | [], b :: q, x, y, _, h => by
  have hb : (0 : UInt8) < b := by
   have := h b (by simp)
   exact zz3
  rw [List.nil_append, List.cons_append, ww hb]; rfl
 | b :: p, [], x, y, h, _ => by
  have hb : (0 : UInt8) < b := by
   have := h b (by simp)
   exact zz3
  rw [List.nil_append, List.cons_append, zac hb]; rfl
 | b :: p, c :: q, x, y, h, g => by
  rw [List.cons_append, List.cons_append]
  rcases zdd b c with e | e | e
  ·rw [ww e, ww e]; rfl
  ·subst e
   rw [ky, ky]
   exact zts p q x y (fun d hd => h d (by simp [hd])) (fun d hd => g d (by simp [hd]))
  ·rw [zac e, zac e]; rfl
def zej (p : Bs) : Bs := if digits p then 1 :: nk p else 2 :: (p ++ [0])
def yq (l : List Bs) : Bs := (l.map zej).flatten
def znx (l : List Bs) : Bs := if l.isEmpty then [3] else yq l ++ [0]
def zm1 (x : List Bs × List Bs) : Bs := nk (x.1.getD 0 []) ++ (nk (x.1.getD 1 []) ++ (nk (x.1.getD 2 []) ++ znx x.2))
def Tame (p : Bs) : Prop := p.length ≤ 255 ∧ ∀ c ∈ p, c ≠ 0
theorem zt6 (p q x y : Bs) (hp : Tame p) (hq : Tame q) : cb (zej p ++ x) (zej q ++ y) = cor (jz p q) (cb x y) := by
 unfold zej jz
 rcases h1 : digits p with _ | _ <;> rcases h2 : digits q with _ | _
 ·simp only [Bool.false_eq_true, if_false, Bool.and_self]
  rw [List.cons_append, List.cons_append, ky, List.append_assoc, List.append_assoc]
  exact zts p q x y hp.2 hq.2
 ·simp only [Bool.false_eq_true, if_false, if_true, Bool.and_true]
  rw [List.cons_append, List.cons_append, zac (by decide)]; rfl
 ·simp only [Bool.false_eq_true, if_false, if_true, Bool.and_false]
  rw [List.cons_append, List.cons_append, ww (by decide)]; rfl
 ·simp only [if_true, Bool.and_self]
  rw [List.cons_append, List.cons_append, ky]
  exact zdg p q x y hp.1 hq.1
theorem zcs (p x : Bs) : ∃ c r, zej p ++ x = c :: r ∧ 0 < c ∧ c < 3 := by
 unfold zej
 split
 ·exact ⟨_, _, rfl, by decide, by decide⟩
 ·exact ⟨_, _, rfl, by decide, by decide⟩
theorem zkb : ∀ p q : List Bs, (∀ x ∈ p, Tame x) → (∀ x ∈ q, Tame x) → cb (yq p ++ [0]) (yq q ++ [0]) = je jz p q
 | [], [], _, _ => rfl
 | [], b :: q, _, _ => by
  obtain ⟨c, r, h, hc, _⟩ := zcs b (yq q ++ [0])
  show cb [0] ((zej b ++ yq q) ++ [0]) = -1
  rw [List.append_assoc, h, ww hc]
 | b :: p, [], _, _ => by
  obtain ⟨c, r, h, hc, _⟩ := zcs b (yq p ++ [0])
  show cb ((zej b ++ yq p) ++ [0]) [0] = 1
  rw [List.append_assoc, h, zac hc]
 | a :: p, b :: q, hp, hq => by
  show cb ((zej a ++ yq p) ++ [0]) ((zej b ++ yq q) ++ [0]) = cor (jz a b) (je jz p q)
  rw [List.append_assoc, List.append_assoc, zt6 a b _ _ (hp a (by simp)) (hq b (by simp)), zkb p q (fun x h => hp x (by simp [h])) (fun x h => hq x (by simp [h]))]
theorem zr8 (p q : List Bs) (hp : ∀ x ∈ p, Tame x) (hq : ∀ x ∈ q, Tame x) : cb (znx p) (znx q) = zc2 p q := by
 unfold znx zc2
 cases p with
 | nil =>
  cases q with
  | nil => rfl
  | cons b q =>
   obtain ⟨c, r, h, _, hc⟩ := zcs b (yq q ++ [0])
   have e : yq (b :: q) ++ [0] = c :: r := by rw [← h]; simp [yq]
   simp only [List.isEmpty_nil, List.isEmpty_cons, if_true, if_false, Bool.false_eq_true, Bool.true_or]
   rw [e, zac hc]
   unfold Lib.compareInt
   rw [if_neg (by simp; try omega), if_pos (by simp; try omega)]
 | cons a p =>
  cases q with
  | nil =>
   obtain ⟨c, r, h, _, hc⟩ := zcs a (yq p ++ [0])
   have e : yq (a :: p) ++ [0] = c :: r := by rw [← h]; simp [yq]
   simp only [List.isEmpty_nil, List.isEmpty_cons, if_true, if_false, Bool.false_eq_true, Bool.or_true]
   rw [e, ww hc]
   unfold Lib.compareInt
   rw [if_pos (by simp; try omega)]
  | cons b q => simp only [List.isEmpty_cons, if_false, Bool.false_eq_true, Bool.or_self]; exact zkb _ _ hp hq
theorem zsr (x y : List Bs × List Bs) (hx : ∀ k, (x.1.getD k []).length ≤ 255) (hy : ∀ k, (y.1.getD k []).length ≤ 255) (hp : ∀ z ∈ x.2, Tame z) (hq : ∀ z ∈ y.2, Tame z) :
  cb (zm1 x) (zm1 y) = ji x y := by
 unfold zm1 ji
 rw [zdg _ _ _ _ (hx 0) (hy 0), zdg _ _ _ _ (hx 1) (hy 1), zdg _ _ _ _ (hx 2) (hy 2), zr8 _ _ hp hq]
 simp only [orI, zb7, zaq]
def wb (c : UInt8) : UInt8 := if c = 126 then 1 else if lett c then c else c ||| 128
def wts (s : Bs) : Bs := s.map wb ++ [2]
theorem zmj (c : UInt8) : wb c ≠ 2 := by
 have h : ∀ n : Fin 256, wb (UInt8.ofNat n.val) ≠ 2 := by decide +kernel
 have := h ⟨c.toNat, c.toNat_lt⟩
 rwa [show UInt8.ofNat c.toNat = c from UInt8.ofNat_toNat] at this
theorem zh7 (c : UInt8) (s : Bs) : wt (c :: s) 0 = (wb c).toNat := by
 unfold wt wb
 simp only [List.length_cons, List.getD_cons_zero]
 rw [if_neg (by omega)]
 repeat' split
 all_goals rfl
theorem ztq (c : UInt8) (s : Bs) (i : Nat) : wt (c :: s) (i + 1) = wt s i := by
 unfold wt
 simp only [List.length_cons, List.getD_cons_succ, Nat.add_le_add_iff_right]
theorem wt_nil (i : Nat) : wt [] i = 2 := by unfold wt; simp
theorem zug (b c : UInt8) (p q : Bs) : wcmp (b :: p) (c :: q) = cor (Lib.compareInt (wb b).toNat (wb c).toNat) (wcmp p q) := by
 unfold wcmp
 rw [List.length_cons, List.length_cons, Nat.succ_max_succ, List.range_succ_eq_map, List.map_cons, orI, zh7, zh7, List.map_map]
 congr 2
 exact List.map_congr_left (fun i _ => by show Lib.compareInt (wt (b :: p) (i + 1)) (wt (c :: q) (i + 1)) = _; rw [ztq, ztq])
theorem zdz {a b : Int} (h : a ≠ b) : Lib.compareInt a b ≠ 0 := by unfold Lib.compareInt; repeat' split <;> omega
theorem zks (c : UInt8) (q : Bs) : wcmp [] (c :: q) = Lib.compareInt 2 (wb c).toNat := by
 unfold wcmp
 rw [List.length_nil, List.length_cons, Nat.zero_max, List.range_succ_eq_map, List.map_cons, orI, zh7, wt_nil, jy]
 apply zdz
 intro e
 apply zmj c
 rw [← UInt8.toNat_inj]
 have : (2 : UInt8).toNat = 2 := rfl
 omega
theorem zmc (c : UInt8) (q : Bs) : wcmp (c :: q) [] = Lib.compareInt (wb c).toNat 2 := by
 unfold wcmp
 rw [List.length_nil, List.length_cons, Nat.max_zero, List.range_succ_eq_map, List.map_cons, orI, zh7, wt_nil, jy]
 apply zdz
 intro e
 apply zmj c
 rw [← UInt8.toNat_inj]
 have : (2 : UInt8).toNat = 2 := rfl
 omega
theorem wcmp_nil : wcmp [] [] = 0 := rfl
theorem zkl (x y : UInt8) (a b : Bs) : cb (x :: a) (y :: b) = cor (Lib.compareInt x.toNat y.toNat) (cb a b) := by
 unfold Lib.compareInt
 rcases zdd x y with e | e | e
 ·rw [ww e, if_pos (by rw [UInt8.lt_iff_toNat_lt] at e; omega)]; rfl
 ·subst e; rw [ky, if_neg (by omega), if_neg (by omega)]; rfl
 ·rw [zac e, if_neg (by rw [UInt8.lt_iff_toNat_lt] at e; omega), if_pos (by rw [UInt8.lt_iff_toNat_lt] at e; omega)]; rfl
theorem zf8 : ∀ (p q x y : Bs), cb (wts p ++ x) (wts q ++ y) = cor (wcmp p q) (cb x y)
 | [], [], x, y => by rw [wcmp_nil, ul]; exact ky 2 x y
 | [], c :: q, x, y => by
  rw [zks]
  show cb (2 :: x) (wb c :: (wts q ++ y)) = _
  rw [zkl]
  have h : Lib.compareInt ((2 : UInt8).toNat : Int) (wb c).toNat ≠ 0 := zdz (by
    intro e; apply zmj c; rw [← UInt8.toNat_inj]; omega)
  rw [jy h]
  exact (jy h _).symm
 | c :: p, [], x, y => by
  rw [zmc]
  show cb (wb c :: (wts p ++ x)) (2 :: y) = _
  rw [zkl]
  have h : Lib.compareInt (wb c).toNat ((2 : UInt8).toNat : Int) ≠ 0 := zdz (by
    intro e; apply zmj c; rw [← UInt8.toNat_inj]; omega)
  rw [jy h]
  exact (jy h _).symm
 | b :: p, c :: q, x, y => by
  rw [zug]
  show cb (wb b :: (wts p ++ x)) (wb c :: (wts q ++ y)) = _
  rw [zkl, zf8 p q x y, zaq]
def zda (s : Bs) : Bs := (qa (qa s false).2 true).2
def zeh (s : Bs) : Bs := wts (qa s false).1 ++ nk (qa (qa s false).2 true).1
def zc9 : Nat → Bs → Bs
 | 0, _ => [2]
 | f + 1, s => if s.isEmpty then [2] else zeh s ++ zc9 f (zda s)
def zfm (s : Bs) : Bs := zeh s ++ zc9 s.length (zda s)
theorem zlr (s : Bs) : (zda s).length ≤ s.length := by
 have h1 := ql s false
 have h2 := ql (qa s false).2 true
 unfold zda; omega
theorem zp8 {s : Bs} (h : s ≠ []) : (zda s).length < s.length := yf s h
theorem zmq {p : UInt8 → Bool} : ∀ {l : Bs} {c r}, l.dropWhile p = c :: r → p c = false
 | b :: l, c, r, h => by
  rw [List.dropWhile_cons] at h
  split at h
  ·exact zmq h
  ·rename_i hb
   simp at h; obtain ⟨rfl, _⟩ := h; exact Bool.eq_false_iff.2 hb
theorem zcj {s : Bs} {c : UInt8} {r : Bs} (h : zda s = c :: r) : dig c = false := by
 have := zmq (p := fun c => dig c == true) (show List.dropWhile _ _ = c :: r from h)
 simpa using this
theorem zah (a b : Bs) : qj a b = cor (wcmp (qa a false).1 (qa b false).1)
      (cor (numbers (qa (qa a false).2 true).1 (qa (qa b false).2 true).1) (qj (zda a) (zda b))) := by
 by_cases h : (a.isEmpty && b.isEmpty) = true
 ·rw [Bool.and_eq_true, List.isEmpty_iff, List.isEmpty_iff] at h
  obtain ⟨rfl, rfl⟩ := h
  decide +kernel
 ·exact zdu a b h
theorem zf3 (s : Bs) : (qa s false).1.length ≤ s.length ∧ (qa (qa s false).2 true).1.length ≤ s.length := by
 have h1 := ql s false
 have h2 := ql (qa s false).2 true
 omega
theorem zmw {c : UInt8} (r : Bs) (h : dig c = false) : ∃ q, (qa (c :: r) false).1 = c :: q := by
 unfold qa
 refine ⟨r.takeWhile fun c => dig c == false, ?_⟩
 simp [h]
theorem zmx : ∀ (f g : Nat) (a b x y : Bs), a.length ≤ f → b.length ≤ g → a.length ≤ 255 → b.length ≤ 255 → (∀ c r, a = c :: r → dig c = false) → (∀ c r, b = c :: r → dig c = false) →
  cb (zc9 f a ++ x) (zc9 g b ++ y) = cor (qj a b) (cb x y)
 | f, g, [], [], x, y, _, _, _, _, _, _ => by
  have e1 : zc9 f [] = [2] := by cases f <;> rfl
  have e2 : zc9 g [] = [2] := by cases g <;> rfl
  rw [e1, e2, zrl, ul]; exact ky 2 x y
 | f, 0, _, _ :: _, _, _, _, h, _, _, _, _ => by simp at h
 | 0, g, _ :: _, _, _, _, h, _, _, _, _, _ => by simp at h
 | f, g + 1, [], c :: r, x, y, _, _, _, _, _, hb => by
  have e1 : zc9 f [] = wts [] := by cases f <;> rfl
  obtain ⟨q, hq⟩ := zmw r (hb c r rfl)
  have e0 : (qa ([] : Bs) false).1 = [] := rfl
  have hw : wcmp [] (c :: q) ≠ 0 := by
   rw [zks]; exact zdz (by intro e; apply zmj c; rw [← UInt8.toNat_inj]; have : (2 : UInt8).toNat = 2 := rfl; omega)
  rw [zah, hq, e0, jy hw, e1]
  show cb (wts [] ++ x) ((zeh (c :: r) ++ zc9 g (zda (c :: r))) ++ y) = _
  unfold zeh
  rw [hq, List.append_assoc, List.append_assoc, zf8, jy hw, jy hw]
 | f + 1, g, c :: r, [], x, y, _, _, _, _, ha, _ => by
  have e1 : zc9 g [] = wts [] := by cases g <;> rfl
  obtain ⟨q, hq⟩ := zmw r (ha c r rfl)
  have e0 : (qa ([] : Bs) false).1 = [] := rfl
  have hw : wcmp (c :: q) [] ≠ 0 := by
   rw [zmc]; exact zdz (by intro e; apply zmj c; rw [← UInt8.toNat_inj]; have : (2 : UInt8).toNat = 2 := rfl; omega)
  rw [zah, hq, e0, jy hw, e1]
  show cb ((zeh (c :: r) ++ zc9 f (zda (c :: r))) ++ x) (wts [] ++ y) = _
  unfold zeh
  rw [hq, List.append_assoc, List.append_assoc, zf8, jy hw, jy hw]
 | f + 1, g + 1, c :: r, d :: t, x, y, hf, hg, h1, h2, ha, hb => by
  have l1 := zp8 (s := c :: r) (by simp)
  have l2 := zp8 (s := d :: t) (by simp)
  have s1 := zf3 (c :: r)
  have s2 := zf3 (d :: t)
  rw [zah]
  show cb ((zeh (c :: r) ++ zc9 f (zda (c :: r))) ++ x) ((zeh (d :: t) ++ zc9 g (zda (d :: t))) ++ y) = _
  unfold zeh
  rw [List.append_assoc, List.append_assoc, List.append_assoc, List.append_assoc, zf8, zdg _ _ _ _ (by omega) (by omega),
    zmx f g _ _ x y (by omega) (by omega) (by omega) (by omega) (fun _ _ h => zcj h) (fun _ _ h => zcj h), zaq, zaq]
theorem zgy (a b x y : Bs) (ha : a.length ≤ 255) (hb : b.length ≤ 255) : cb (zfm a ++ x) (zfm b ++ y) = cor (qj a b) (cb x y) := by
 have l1 := zlr a
 have l2 := zlr b
 have s1 := zf3 a
 have s2 := zf3 b
 unfold zfm zeh
 rw [zah, List.append_assoc, List.append_assoc, List.append_assoc, List.append_assoc, zf8, zdg _ _ _ _ (by omega) (by omega),
   zmx _ _ _ _ x y (by omega) (by omega) (by omega) (by omega) (fun _ _ h => zcj h) (fun _ _ h => zcj h), zaq, zaq]
def zny (x : Bs × Bs × Bs) : Bs := nk x.1 ++ (zfm x.2.1 ++ zfm x.2.2)
theorem zsy (x y : Bs × Bs × Bs) (h1 : x.1.length ≤ 255) (h2 : x.2.1.length ≤ 255) (h3 : x.2.2.length ≤ 255) (g1 : y.1.length ≤ 255) (g2 : y.2.1.length ≤ 255) (g3 : y.2.2.length ≤ 255) :
  cb (zny x) (zny y) = ug x y := by
 unfold zny ug
 rw [zdg _ _ _ _ h1 g1, zgy _ _ _ _ h2 g2]
 have := zgy x.2.2 y.2.2 [] [] h3 g3
 rw [List.append_nil, List.append_nil, show cb [] [] = 0 from rfl, zb7] at this
 rw [this]
 simp only [orI, zb7]
def zsz (l : List Bs) : Bs := (l.map fun x => 1 :: nk x).flatten
def zq6 (l : List Bs) : Bs := zsz l ++ [0]
theorem zjh : ∀ p q : List Bs, (∀ x ∈ p, x.length ≤ 255) → (∀ x ∈ q, x.length ≤ 255) → cb (zq6 p) (zq6 q) = je numbers p q
 | [], [], _, _ => rfl
 | [], b :: q, _, _ => rfl
 | b :: p, [], _, _ => rfl
 | a :: p, b :: q, hp, hq => by
  show cb (((1 :: nk a) ++ zsz p) ++ [0]) (((1 :: nk b) ++ zsz q) ++ [0]) = cor (numbers a b) (je numbers p q)
  rw [List.append_assoc, List.append_assoc, List.cons_append, List.cons_append, ky, zdg _ _ _ _ (hp a (by simp)) (hq b (by simp))]
  congr 1
  exact zjh p q (fun x h => hp x (by simp [h])) (fun x h => hq x (by simp [h]))
def keyV (n : Int) (v : Bs) : Bs :=
 if n = 1 then (match zo v with | some x => zm1 x | none => [])
 else if n = 2 then (match zy v with | some x => zny x | none => [])
 else zq6 (jq v)
theorem zfq (c : UInt8) (l : Bs) : (cut1 c l).1.length ≤ l.length ∧ (cut1 c l).2.1.length ≤ l.length := by
 unfold cut1
 split
 ·exact ⟨(List.takeWhile_sublist _).length_le, by simp⟩
 ·simp
theorem _root_.Go.Proofs.YtbikeahmldobkaaGreatDoor.zxg {P : Prop} (h : P := by
 split at h
 ·rcases List.mem_cons.1 h with h | h
  ·simp [h]
  ·have := ih x h; simp; omega
 ·split at h
  ·simp at h; simp [h]
  ·rename_i y r he
   rw [he] at ih
   rcases List.mem_cons.1 h with h | h
   ·subst h; have := ih y (by simp); simp; omega
   ·have := ih x (by simp [h]); simp; omega) : P := h
theorem zcf (c : UInt8) : ∀ (l x : Bs), x ∈ zm c l → x.length ≤ l.length
 | [], x, h => by simp [zm] at h; simp [h]
 | b :: l, x, h => by
  have ih := zcf c l
  unfold zm at h
  exact zxg
theorem zkc {e : Bool} {x : Bs} (h : ke e x = true) (hl : x.length ≤ 255) : Tame x := by
 refine ⟨hl, fun c hc e0 => ?_⟩
 subst e0
 unfold ke only at h
 rw [Bool.and_eq_true, Bool.and_eq_true, List.all_eq_true] at h
 have := h.1.1 0 hc
 revert this; decide +kernel
theorem uj {s : Bs} {l pre : List Bs} (h : zo s = some (l, pre)) : (∀ x ∈ l, x.length ≤ s.length) ∧ (∀ x ∈ pre, x.length ≤ s.length ∧ ke true x = true) := by
 unfold zo at h
 have h1 := zfq 43 s
 have h2 := zfq 45 (cut1 43 s).1
 split at h
 ·cases h
 ·rename_i hn
  split at h
  ·simp only [Option.some.injEq, Prod.mk.injEq] at h
   obtain ⟨rfl, h⟩ := h
   refine ⟨fun x hx => by have := zcf 46 _ x hx; omega, fun x hx => ?_⟩
   split at h
   ·rename_i hc
    subst h
    refine ⟨by have := zcf 46 _ x hx; omega, ?_⟩
    have hi : identifiers (cut1 45 (cut1 43 s).1).2.1 true = true := by
     rcases hb : identifiers (cut1 45 (cut1 43 s).1).2.1 true with _ | _
     ·rw [hb, hc] at hn; simp at hn
     ·rfl
    unfold identifiers at hi
    rw [List.all_eq_true] at hi
    exact hi x hx
   ·subst h; simp at hx
  ·cases h
theorem ui {s : Bs} {x : Bs × Bs × Bs} (h : zy s = some x) : x.1.length ≤ s.length ∧ x.2.1.length ≤ s.length ∧ x.2.2.length ≤ s.length := by
 have ht : ∀ {ep t : Bs}, ep.length ≤ s.length → t.length ≤ s.length → jf ep t = some x → x.1.length ≤ s.length ∧ x.2.1.length ≤ s.length ∧ x.2.2.length ≤ s.length := by
  intro ep t he hl h
  unfold jf at h
  repeat' split at h
  all_goals first | (cases h; done) | (simp only [Option.some.injEq] at h; subst h; simp only [List.length_take, List.length_drop, List.length_nil]; omega)
 have h1 := zfq 58 s
 unfold zy at h
 split at h
 ·split at h
  ·exact ht h1.1 h1.2 h
  ·cases h
 ·exact ht (by simp) (Nat.le_refl _) h
theorem zf6 {s x : Bs} (h : x ∈ jq s) : x.length ≤ s.length := by
 unfold jq qf at h
 rw [List.mem_reverse] at h
 exact zcf 46 s x (List.mem_reverse.1 ((List.dropWhile_sublist _).subset h))
theorem yc {n : Int} {v : Bs} (h : valid n v = true) : v.length ≤ 64 := by
 unfold valid at h; simp at h; omega
theorem zd7 {l : List Bs} {m : Nat} (h : ∀ x ∈ l, x.length ≤ m) (k : Nat) : (l.getD k []).length ≤ m := by
 rw [List.getD_eq_getElem?_getD]
 rcases hk : l[k]? with _ | x
 ·simp
 ·exact h x (List.mem_of_getElem? hk)
theorem zbj {n : Int} (hn : scheme n = true) {a b : Bs} (ha : valid n a = true) (hb : valid n b = true) : cb (keyV n a) (keyV n b) = cmpV n a b := by
 have l1 := yc ha
 have l2 := yc hb
 have hs : n = 1 ∨ n = 2 ∨ n = 3 := by unfold scheme at hn; simpa [or_assoc] using hn
 rcases hs with rfl | rfl | rfl
 ·unfold keyV cmpV
  rw [if_pos rfl, if_pos rfl, if_pos rfl]
  obtain ⟨⟨la, pa⟩, e1⟩ := Option.isSome_iff_exists.1 (show (zo a).isSome = true by unfold valid yi at ha; simp at ha; exact ha.2)
  obtain ⟨⟨lb, pb⟩, e2⟩ := Option.isSome_iff_exists.1 (show (zo b).isSome = true by unfold valid yi at hb; simp at hb; exact hb.2)
  have f1 := uj e1
  have f2 := uj e2
  rw [e1, e2]
  exact zsr _ _ (fun k => by have := zd7 f1.1 k; simp only; omega) (fun k => by have := zd7 f2.1 k; simp only; omega)
   (fun z hz => zkc (f1.2 z hz).2 (by have := (f1.2 z hz).1; omega)) (fun z hz => zkc (f2.2 z hz).2 (by have := (f2.2 z hz).1; omega))
 ·unfold keyV cmpV
  rw [if_neg (by decide), if_pos rfl, if_neg (by decide), if_pos rfl, if_neg (by decide), if_pos rfl]
  obtain ⟨x, e1⟩ := Option.isSome_iff_exists.1 (show (zy a).isSome = true by unfold valid yi at ha; simp at ha; exact ha.2)
  obtain ⟨y, e2⟩ := Option.isSome_iff_exists.1 (show (zy b).isSome = true by unfold valid yi at hb; simp at hb; exact hb.2)
  have f1 := ui e1
  have f2 := ui e2
  rw [e1, e2]
  exact zsy _ _ (by omega) (by omega) (by omega) (by omega) (by omega) (by omega)
 ·unfold keyV cmpV
  rw [if_neg (by decide), if_neg (by decide), if_neg (by decide), if_neg (by decide), if_neg (by decide), if_neg (by decide)]
  exact zjh _ _ (fun x hx => by have := zf6 hx; omega) (fun x hx => by have := zf6 hx; omega)
theorem zgc {n : Int} (hn : scheme n = true) {a b c : Bs} (ha : valid n a = true) (hb : valid n b = true) (hc : valid n c = true) :
  cmpV n a b = - cmpV n b a ∧ cmpV n a a = 0 ∧ ¬ (cmpV n a b ≤ 0 ∧ cmpV n b c ≤ 0 ∧ 0 < cmpV n a c) ∧ ¬ (0 ≤ cmpV n a b ∧ 0 ≤ cmpV n b c ∧ cmpV n a c < 0) ∧ (cmpV n a b = 0 → cmpV n b c = cmpV n a c) := by
 rw [← zbj hn ha hb, ← zbj hn hb ha, ← zbj hn ha ha, ← zbj hn hb hc, ← zbj hn ha hc]
 refine ⟨km _ _, ut _, fun h => ?_, fun h => ?_, fun h => ?_⟩
 ·have := wm _ _ _ h.1 h.2.1; omega
 ·have h1 := km (keyV n a) (keyV n b)
  have h2 := km (keyV n b) (keyV n c)
  have h3 := km (keyV n a) (keyV n c)
  have := wm (keyV n c) (keyV n b) (keyV n a) (by omega) (by omega)
  omega
 ·rw [zjq h]
end Go.Proofs.YtbikeahmldobkaaGreatDoor.V
namespace Go.Proofs.YtbikeahmldobkaaGreatDoor.V
def verB (c : UInt8) : Bool := kind [46, 43, 126, 45, 58] c
theorem wl {P : UInt8 → Prop} (c : UInt8) (hc : P c) : ∀ l : Bs, (∀ x ∈ zm c l, ∀ b ∈ x, P b) → ∀ b ∈ l, P b
 | [], _, b, hb => by simp at hb
 | a :: l, h, b, hb => by
  unfold zm at h
  by_cases e : a = c
  ·subst e
   simp only [beq_self_eq_true, if_true] at h
   rcases List.mem_cons.1 hb with rfl | hb
   ·exact hc
   ·exact wl a hc l (fun x hx => h x (by simp [hx])) b hb
  ·rw [if_neg (by simpa using e)] at h
   rcases hs : zm c l with _ | ⟨y, r⟩
   ·exact absurd hs (zsq c l)
   ·rw [hs] at h
    simp only at h
    rcases List.mem_cons.1 hb with rfl | hb
    ·exact h (b :: y) (by simp) b (by simp)
    ·exact wl c hc l (fun x hx z hz => by
       rw [hs] at hx
       rcases List.mem_cons.1 hx with rfl | hx
       · exact h (a :: x) (by simp) z (by simp [hz])
       · exact h x (by simp [hx]) z hz) b hb
theorem zqu (c : UInt8) : ∀ l : Bs, c ∈ l → l = l.takeWhile (· != c) ++ c :: l.drop ((l.takeWhile (· != c)).length + 1)
 | [], h => by simp at h
 | b :: l, h => by
  by_cases e : b = c
  ·subst e; simp
  ·have hb : (b != c) = true := by simpa using e
   have ih := zqu c l (by
     rcases List.mem_cons.1 h with h | h
     · exact absurd h.symm e
     · exact h)
   rw [List.takeWhile_cons, if_pos hb, List.length_cons, List.drop_succ_cons, List.cons_append, ← ih]
theorem zmm (c : UInt8) (l : Bs) (h : (cut1 c l).2.2 = true) : l = (cut1 c l).1 ++ c :: (cut1 c l).2.1 := by
 unfold cut1 at *
 by_cases hc : c ∈ l
 ·rw [if_pos hc]; exact zqu c l hc
 ·rw [if_neg hc] at h; cases h
theorem cut_none (c : UInt8) (l : Bs) (h : (cut1 c l).2.2 = false) : (cut1 c l).1 = l := by
 unfold cut1 at *
 split
 ·rename_i hc; rw [if_pos hc] at h; cases h
 ·rfl
theorem zgl {P : UInt8 → Prop} (c : UInt8) (hc : P c) (l : Bs) (h1 : ∀ b ∈ (cut1 c l).1, P b) (h2 : (cut1 c l).2.2 = true → ∀ b ∈ (cut1 c l).2.1, P b) : ∀ b ∈ l, P b := by
 intro b hb
 rcases h : (cut1 c l).2.2 with _ | _
 ·rw [cut_none c l h] at h1; exact h1 b hb
 ·rw [zmm c l h] at hb
  rcases List.mem_append.1 hb with g | g
  ·exact h1 b g
  ·rcases List.mem_cons.1 g with rfl | g
   ·exact hc
   ·exact h2 h b g
theorem ze5 {p : UInt8 → Bool} {l : Bs} (h : only p l = true) : ∀ b ∈ l, p b = true := by
 unfold only at h
 rw [Bool.and_eq_true, List.all_eq_true] at h
 exact h.1
theorem zd6 {o o' : Bs} (ho : ∀ c ∈ o, c ∈ o') {c : UInt8} (h : kind o c = true) : kind o' c = true := by
 unfold kind at *
 rw [Bool.or_eq_true] at *
 rcases h with h | h
 ·exact .inl h
 ·exact .inr (by simpa using ho c (by simpa using h))
theorem zns {x : Bs} {e : Bool} (h : numb x e = true) : ∀ b ∈ x, verB b = true := fun b hb => by
 unfold numb digits at h
 rw [Bool.and_eq_true] at h
 have := ze5 h.1 b hb
 unfold verB kind; rw [this]; simp
theorem ident_in {x : Bs} {e : Bool} (h : ke e x = true) : ∀ b ∈ x, verB b = true := fun b hb => by
 unfold ke at h
 rw [Bool.and_eq_true] at h
 exact zd6 (by simp) (ze5 h.1 b hb)
theorem zmp {s : Bs} {e : Bool} (h : identifiers s e = true) : ∀ b ∈ s, verB b = true := by
 unfold identifiers at h
 rw [List.all_eq_true] at h
 exact wl 46 (by decide +kernel) s fun x hx => ident_in (h x hx)
theorem dot_in {s : Bs} (h : zek s = true) : ∀ b ∈ s, verB b = true := by
 unfold zek at h
 rw [List.all_eq_true] at h
 exact wl 46 (by decide +kernel) s fun x hx => zns (h x hx)
theorem sem_in {s : Bs} (h : (zo s).isSome = true) : ∀ b ∈ s, verB b = true := by
 unfold zo at h
 split at h
 ·cases h
 ·rename_i hn
  split at h
  ·rename_i ha
   rw [List.all_eq_true] at ha
   simp only [Bool.or_eq_true, Bool.and_eq_true, Bool.not_eq_true', not_or, not_and, Bool.not_eq_false] at hn
   obtain ⟨⟨h1, h2⟩, _⟩ := hn
   refine zgl 43 (by decide +kernel) s (zgl 45 (by decide +kernel) _ (wl 46 (by decide +kernel) _ fun x hx => zns (ha x hx)) fun e => zmp (h2 e)) fun e => zmp (h1 e)
  ·cases h
theorem zjj {ep s : Bs} (h : (jf ep s).isSome = true) : ∀ b ∈ s, verB b = true := by
 unfold jf at h
 split at h
 ·split at h
  ·rename_i g
   rw [Bool.and_eq_true] at g
   exact fun b hb => zd6 (by simp) (ze5 g.1 b hb)
  ·cases h
 ·rename_i h0
  split at h
  ·rename_i g1
   split at h
   ·rename_i g2
    rw [Bool.and_eq_true] at g2
    have e1 := fun b hb => zd6 (o' := [46, 43, 126, 45, 58]) (by simp) (ze5 g2.1 b hb)
    have e2 := fun b hb => zd6 (o' := [46, 43, 126, 45, 58]) (by simp [allow]) (ze5 g1 b hb)
    unfold jd at *
    rcases Lib.lastIndexByte_spec ⟨s.toArray⟩ 45 with ⟨e, _⟩ | ⟨i, hi, e, hc, _⟩
    ·rw [e] at h0; simp at h0
    ·rw [e] at e1 e2
     have g0 : i < s.length := by rw [show (ByteArray.mk s.toArray).size = s.length by show s.toArray.size = _; simp] at hi; exact hi
     intro b hb
     rw [← List.take_append_drop i s, List.drop_eq_getElem_cons g0] at hb
     rcases List.mem_append.1 hb with q | q
     ·exact e1 b (by simpa using q)
     ·rcases List.mem_cons.1 q with rfl | q
      ·have : s[i] = 45 := by
        have e3 : (ByteArray.mk s.toArray).data[i]! = s[i] := by simp [g0]
        rw [e3] at hc
        exact UInt8.toNat_inj.1 (show s[i].toNat = 45 by omega)
       rw [this]; decide +kernel
      ·exact e2 b (by simpa using q)
   ·cases h
  ·cases h
theorem deb_in {s : Bs} (h : (zy s).isSome = true) : ∀ b ∈ s, verB b = true := by
 unfold zy at h
 split at h
 ·rename_i hc
  split at h
  ·rename_i hn
   exact zgl 58 (by decide +kernel) s (zns hn) fun _ => zjj h
  ·cases h
 ·exact zjj h
theorem valid_in {n : Int} {v : Bs} (h : valid n v = true) : ∀ b ∈ v, verB b = true := by
 unfold valid yi at h
 rw [Bool.and_eq_true] at h
 obtain ⟨_, h⟩ := h
 repeat' split at h
 ·exact sem_in h
 ·exact deb_in h
 ·exact dot_in h
 ·cases h
theorem zl3 {n : Int} {v : Bs} (h : valid n v = true) {c : UInt8} (hc : verB c = false) : c ∉ v := fun g => by
 rw [valid_in h c g] at hc; cases hc
end Go.Proofs.YtbikeahmldobkaaGreatDoor.V
namespace Go.Proofs.YtbikeahmldobkaaGreatDoor.V
structure Comp where
 par : Int
 sch : Int
 name : Bs
 ver : Bs
 dig : List Int
deriving DecidableEq
def yj (c : Comp) : Bool := jp c.name && valid c.sch c.ver
def zbe (l : List Comp) (i : Nat) (c : Comp) : Bool := yj c && (decide (-1 ≤ c.par) && (decide (c.par < i) && !decide (c ∈ l.take i)))
def qb (l : List Comp) : Nat → Bool
 | 0 => true
 | k + 1 => qb l k && match l[k]? with | some c => zbe l k c | none => true
def ziw (art : List Int) (time : Int) (l : List Comp) : Bool := !decide (art = List.replicate 32 0) && (decide (0 ≤ time) && (decide (time ≤ 1099511627776) && decide (l.length ≤ 128)))
def qn (art : List Int) (time : Int) (l : List Comp) : Bool := ziw art time l && qb l l.length
theorem xg {l : List Comp} {k : Nat} (h : k < l.length) : qb l (k + 1) = (qb l k && zbe l k l[k]) := by
 show (qb l k && match l[k]? with | some c => zbe l k c | none => true) = _
 rw [List.getElem?_eq_getElem h]
theorem zbv {l : List Comp} : ∀ {m k : Nat}, k ≤ m → qb l k = false → qb l m = false
 | 0, k, h, e => by obtain rfl : k = 0 := by omega
                    exact e
 | m + 1, k, h, e => by
  by_cases g : k = m + 1
  ·subst g; exact e
  ·show (qb l m && _) = false
   rw [zbv (by omega) e]; rfl
theorem zsp {l : List Comp} {k m : Nat} (h : k ≤ m) (e : qb l m = true) : qb l k = true := by
 rcases hh : qb l k with _ | _
 ·rw [zbv h hh] at e; cases e
 ·rfl
theorem zs1 {l : List Comp} {k : Nat} (e : qb l l.length = true) (h : k < l.length) : zbe l k l[k] = true := by
 have := zsp (show k + 1 ≤ l.length by omega) e
 rw [xg h] at this
 exact (Bool.and_eq_true_iff.1 this).2
theorem zju {l : List Comp} {k : Nat} {c : Comp} : zbe l k c = true ↔ yj c = true ∧ -1 ≤ c.par ∧ c.par < k ∧ c ∉ l.take k := by
 unfold zbe; simp [Bool.and_eq_true]
end Go.Proofs.YtbikeahmldobkaaGreatDoor.V
namespace Go.Proofs.YtbikeahmldobkaaGreatDoor.V
theorem zrz {c : Comp} : yj c = true ↔ jp c.name = true ∧ valid c.sch c.ver = true := by unfold yj; rw [Bool.and_eq_true]
end Go.Proofs.YtbikeahmldobkaaGreatDoor.V
