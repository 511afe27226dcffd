/-
  Lemmas for the law.
-/
import Derived.Test.YtnhfaincdabdkaaGreatDoorC37x01
set_option linter.all false
namespace Go.Proofs.YtnhfaincdabdkaaGreatDoor.V
abbrev cb := Lib.compareBytes
theorem wv (a b c : Int) : cor (cor a b) c = cor a (cor b c) := by unfold cor; repeat' split <;> simp_all
theorem zc1 (a : Int) : cor a 0 = a := by unfold cor; split <;> simp_all
theorem ye : ∀ a, cb a a = 0
 | [] => rfl
 | x :: a => by simp [cb, Lib.compareBytes]; exact ye a
theorem kk (x : UInt8) (a b : Bs) : cb (x :: a) (x :: b) = cb a b := by simp [cb, Lib.compareBytes]
theorem vs {x y : UInt8} (h : x < y) (a b : Bs) : cb (x :: a) (y :: b) = -1 := by simp [cb, Lib.compareBytes, h]
theorem vt {x y : UInt8} (h : y < x) (a b : Bs) : cb (x :: a) (y :: b) = 1 := by
 have h2 : ¬ x < y := fun g => by rw [UInt8.lt_iff_toNat_lt] at h g; omega
 simp [cb, Lib.compareBytes, h, h2]
theorem zbz (x y : UInt8) : x < y ∨ x = y ∨ y < x := by
 rw [UInt8.lt_iff_toNat_lt, UInt8.lt_iff_toNat_lt, ← UInt8.toNat_inj]; omega
theorem zgm (x y : UInt8) (a b : Bs) : (x < y ∧ cb (x :: a) (y :: b) = -1) ∨ (x = y ∧ cb (x :: a) (y :: b) = cb a b) ∨ (y < x ∧ cb (x :: a) (y :: b) = 1) := by
 rcases zbz x y with h | h | h
 ·exact .inl ⟨h, vs h a b⟩
 ·subst h; exact .inr (.inl ⟨rfl, kk x a b⟩)
 ·exact .inr (.inr ⟨h, vt h a b⟩)
theorem zig : ∀ a b, cb a b = -1 ∨ cb a b = 0 ∨ cb a b = 1
 | [], [] => .inr (.inl rfl)
 | [], _ :: _ => .inl rfl
 | _ :: _, [] => .inr (.inr rfl)
 | x :: a, y :: b => by
  rcases zgm x y a b with ⟨_, h⟩ | ⟨_, h⟩ | ⟨_, h⟩
  ·exact .inl h
  ·rw [h]; exact zig a b
  ·exact .inr (.inr h)
theorem kj : ∀ a b, cb b a = - cb a b
 | [], [] => rfl
 | [], _ :: _ => rfl
 | _ :: _, [] => rfl
 | x :: a, y :: b => by
  rcases zbz x y with h | h | h
  ·rw [vs h, vt h]; rfl
  ·subst h; rw [kk, kk]; exact kj a b
  ·rw [vs h, vt h]
theorem zn4 : ∀ {a b}, cb a b = 0 → a = b
 | [], [], _ => rfl
 | [], _ :: _, h => by simp [cb, Lib.compareBytes] at h
 | _ :: _, [], h => by simp [cb, Lib.compareBytes] at h
 | x :: a, y :: b, h => by
  rcases zgm x y a b with ⟨_, g⟩ | ⟨e, g⟩ | ⟨_, g⟩
  ·rw [g] at h; simp at h
  ·rw [g] at h; rw [e, zn4 h]
  ·rw [g] at h; simp at h
theorem zai : ∀ a b c, cb a b ≤ 0 → cb b c ≤ 0 → cb a c ≤ 0
 | [], _, [], _, _ => by simp [cb, Lib.compareBytes]
 | [], _, _ :: _, _, _ => by simp [cb, Lib.compareBytes]
 | _ :: _, [], _, h, _ => by simp [cb, Lib.compareBytes] at h
 | _ :: _, _ :: _, [], _, h => by simp [cb, Lib.compareBytes] at h
 | x :: a, y :: b, z :: c, h, g => by
  rcases zbz x y with h1 | h1 | h1
  ·rcases zbz y z with g1 | g1 | g1
   ·rw [vs (by rw [UInt8.lt_iff_toNat_lt] at *; omega)]; decide
   ·subst g1; rw [vs h1]; decide
   ·rw [vt g1] at g; simp at g
  ·subst h1
   rcases zbz x z with g1 | g1 | g1
   ·rw [vs g1]; decide
   ·subst g1; rw [kk] at *; exact zai a b c h g
   ·rw [vt g1] at g; simp at g
  ·rw [vt h1] at h; simp at h
theorem cb_app : ∀ (a b x y : Bs), a.length = b.length → cb (a ++ x) (b ++ y) = cor (cb a b) (cb x y)
 | [], [], _, _, _ => rfl
 | [], _ :: _, _, _, h => by simp at h
 | _ :: _, [], _, _, h => by simp at h
 | p :: a, q :: b, x, y, h => by
  rw [List.cons_append, List.cons_append]
  rcases zbz p q with e | e | e
  ·rw [vs e, vs e]; rfl
  ·subst e; rw [kk, kk]; exact cb_app a b x y (by simpa using h)
  ·rw [vt e, vt e]; rfl
theorem zkl (a : Bs) : (value a).length ≤ a.length := (List.dropWhile_sublist _).length_le
theorem zof {m n : Nat} (h : m < n) (hn : n ≤ 255) : UInt8.ofNat m < UInt8.ofNat n := by
 rw [UInt8.lt_iff_toNat_lt, UInt8.toNat_ofNat', UInt8.toNat_ofNat', Nat.mod_eq_of_lt (by omega), Nat.mod_eq_of_lt (by omega)]; exact h
theorem zb5 (a b x y : Bs) (ha : a.length ≤ 255) (hb : b.length ≤ 255) : cb (nk a ++ x) (nk b ++ y) = cor (numbers a b) (cb x y) := by
 have h1 := zkl a
 have h2 := zkl b
 unfold nk numbers Lib.compareInt
 rw [List.cons_append, List.cons_append]
 rcases Nat.lt_trichotomy (value a).length (value b).length with h | h | h
 ·rw [vs (zof h (by omega)), if_pos (by omega)]; rfl
 ·rw [h, kk, cb_app _ _ _ _ h, if_neg (by omega), if_neg (by omega), uh]
 ·rw [vt (zof h (by omega)), if_neg (by omega), if_pos (by omega)]; rfl
theorem _root_.Go.Proofs.YtnhfaincdabdkaaGreatDoor.zxf {P : Prop} (h : P := by
 rw [UInt8.lt_iff_toNat_lt]
 rw [Ne, ← UInt8.toNat_inj] at this
 have h0 : (0 : UInt8).toNat = 0 := rfl
 omega) : P := h
theorem zre : ∀ (p q x y : Bs), (∀ c ∈ p, c ≠ 0) → (∀ c ∈ q, c ≠ 0) → cb (p ++ 0 :: x) (q ++ 0 :: y) = cor (cb p q) (cb x y)
 | [], [], x, y, _, _ => by rw [List.nil_append, List.nil_append, kk]; rfl
 | [], b :: q, x, y, _, h => by
  have hb : (0 : UInt8) < b := by
   have := h b (by simp)
   exact zxf
  rw [List.nil_append, List.cons_append, vs hb]; rfl
 | b :: p, [], x, y, h, _ => by
  have hb : (0 : UInt8) < b := by
   have := h b (by simp)
   exact zxf
  rw [List.nil_append, List.cons_append, vt hb]; rfl
 | b :: p, c :: q, x, y, h, g => by
  rw [List.cons_append, List.cons_append]
  rcases zbz b c with e | e | e
  ·rw [vs e, vs e]; rfl
  ·subst e
   rw [kk, kk]
   exact zre p q x y (fun d hd => h d (by simp [hd])) (fun d hd => g d (by simp [hd]))
  ·rw [vt e, vt e]; rfl
def zdc (p : Bs) : Bs := if digits p then 1 :: nk p else 2 :: (p ++ [0])
def yg (l : List Bs) : Bs := (l.map zdc).flatten
def zl2 (l : List Bs) : Bs := if l.isEmpty then [3] else yg l ++ [0]
def zk9 (x : List Bs × List Bs) : Bs := nk (x.1.getD 0 []) ++ (nk (x.1.getD 1 []) ++ (nk (x.1.getD 2 []) ++ zl2 x.2))
def Tame (p : Bs) : Prop := p.length ≤ 255 ∧ ∀ c ∈ p, c ≠ 0
theorem zru (p q x y : Bs) (hp : Tame p) (hq : Tame q) : cb (zdc p ++ x) (zdc q ++ y) = cor (jt p q) (cb x y) := by
 unfold zdc jt
 rcases h1 : digits p with _ | _ <;> rcases h2 : digits q with _ | _
 ·simp only [Bool.false_eq_true, if_false, Bool.and_self]
  rw [List.cons_append, List.cons_append, kk, List.append_assoc, List.append_assoc]
  exact zre p q x y hp.2 hq.2
 ·simp only [Bool.false_eq_true, if_false, if_true, Bool.and_true]
  rw [List.cons_append, List.cons_append, vt (by decide)]; rfl
 ·simp only [Bool.false_eq_true, if_false, if_true, Bool.and_false]
  rw [List.cons_append, List.cons_append, vs (by decide)]; rfl
 ·simp only [if_true, Bool.and_self]
  rw [List.cons_append, List.cons_append, kk]
  exact zb5 p q x y hp.1 hq.1
theorem zbj (p x : Bs) : ∃ c r, zdc p ++ x = c :: r ∧ 0 < c ∧ c < 3 := by
 unfold zdc
 split
 ·exact ⟨_, _, rfl, by decide, by decide⟩
 ·exact ⟨_, _, rfl, by decide, by decide⟩
theorem zil : ∀ p q : List Bs, (∀ x ∈ p, Tame x) → (∀ x ∈ q, Tame x) → cb (yg p ++ [0]) (yg q ++ [0]) = qu jt p q
 | [], [], _, _ => rfl
 | [], b :: q, _, _ => by
  obtain ⟨c, r, h, hc, _⟩ := zbj b (yg q ++ [0])
  show cb [0] ((zdc b ++ yg q) ++ [0]) = -1
  rw [List.append_assoc, h, vs hc]
 | b :: p, [], _, _ => by
  obtain ⟨c, r, h, hc, _⟩ := zbj b (yg p ++ [0])
  show cb ((zdc b ++ yg p) ++ [0]) [0] = 1
  rw [List.append_assoc, h, vt hc]
 | a :: p, b :: q, hp, hq => by
  show cb ((zdc a ++ yg p) ++ [0]) ((zdc b ++ yg q) ++ [0]) = cor (jt a b) (qu jt p q)
  rw [List.append_assoc, List.append_assoc, zru a b _ _ (hp a (by simp)) (hq b (by simp)), zil p q (fun x h => hp x (by simp [h])) (fun x h => hq x (by simp [h]))]
theorem zpy (p q : List Bs) (hp : ∀ x ∈ p, Tame x) (hq : ∀ x ∈ q, Tame x) : cb (zl2 p) (zl2 q) = zbp p q := by
 unfold zl2 zbp
 cases p with
 | nil =>
  cases q with
  | nil => rfl
  | cons b q =>
   obtain ⟨c, r, h, _, hc⟩ := zbj b (yg q ++ [0])
   have e : yg (b :: q) ++ [0] = c :: r := by rw [← h]; simp [yg]
   simp only [List.isEmpty_nil, List.isEmpty_cons, if_true, if_false, Bool.false_eq_true, Bool.true_or]
   rw [e, vt hc]
   unfold Lib.compareInt
   rw [if_neg (by simp; try omega), if_pos (by simp; try omega)]
 | cons a p =>
  cases q with
  | nil =>
   obtain ⟨c, r, h, _, hc⟩ := zbj a (yg p ++ [0])
   have e : yg (a :: p) ++ [0] = c :: r := by rw [← h]; simp [yg]
   simp only [List.isEmpty_nil, List.isEmpty_cons, if_true, if_false, Bool.false_eq_true, Bool.or_true]
   rw [e, vs hc]
   unfold Lib.compareInt
   rw [if_pos (by simp; try omega)]
  | cons b q => simp only [List.isEmpty_cons, if_false, Bool.false_eq_true, Bool.or_self]; exact zil _ _ hp hq
theorem zqj (x y : List Bs × List Bs) (hx : ∀ k, (x.1.getD k []).length ≤ 255) (hy : ∀ k, (y.1.getD k []).length ≤ 255) (hp : ∀ z ∈ x.2, Tame z) (hq : ∀ z ∈ y.2, Tame z) :
  cb (zk9 x) (zk9 y) = jb x y := by
 unfold zk9 jb
 rw [zb5 _ _ _ _ (hx 0) (hy 0), zb5 _ _ _ _ (hx 1) (hy 1), zb5 _ _ _ _ (hx 2) (hy 2), zpy _ _ hp hq]
 simp only [orI, zc1, wv]
def wb (c : UInt8) : UInt8 := if c = 126 then 1 else if lett c then c else c ||| 128
def wts (s : Bs) : Bs := s.map wb ++ [2]
theorem zkm (c : UInt8) : wb c ≠ 2 := by
 have h : ∀ n : Fin 256, wb (UInt8.ofNat n.val) ≠ 2 := by decide +kernel
 have := h ⟨c.toNat, c.toNat_lt⟩
 rwa [show UInt8.ofNat c.toNat = c from UInt8.ofNat_toNat] at this
theorem zgp (c : UInt8) (s : Bs) : wt (c :: s) 0 = (wb c).toNat := by
 unfold wt wb
 simp only [List.length_cons, List.getD_cons_zero]
 rw [if_neg (by omega)]
 repeat' split
 all_goals rfl
theorem zrc (c : UInt8) (s : Bs) (i : Nat) : wt (c :: s) (i + 1) = wt s i := by
 unfold wt
 simp only [List.length_cons, List.getD_cons_succ, Nat.add_le_add_iff_right]
theorem wt_nil (i : Nat) : wt [] i = 2 := by unfold wt; simp
theorem zr0 (b c : UInt8) (p q : Bs) : wcmp (b :: p) (c :: q) = cor (Lib.compareInt (wb b).toNat (wb c).toNat) (wcmp p q) := by
 unfold wcmp
 rw [List.length_cons, List.length_cons, Nat.succ_max_succ, List.range_succ_eq_map, List.map_cons, orI, zgp, zgp, List.map_map]
 congr 2
 exact List.map_congr_left (fun i _ => by show Lib.compareInt (wt (b :: p) (i + 1)) (wt (c :: q) (i + 1)) = _; rw [zrc, zrc])
theorem zcq {a b : Int} (h : a ≠ b) : Lib.compareInt a b ≠ 0 := by unfold Lib.compareInt; repeat' split <;> omega
theorem zi0 (c : UInt8) (q : Bs) : wcmp [] (c :: q) = Lib.compareInt 2 (wb c).toNat := by
 unfold wcmp
 rw [List.length_nil, List.length_cons, Nat.zero_max, List.range_succ_eq_map, List.map_cons, orI, zgp, wt_nil, js]
 apply zcq
 intro e
 apply zkm c
 rw [← UInt8.toNat_inj]
 have : (2 : UInt8).toNat = 2 := rfl
 omega
theorem zkh (c : UInt8) (q : Bs) : wcmp (c :: q) [] = Lib.compareInt (wb c).toNat 2 := by
 unfold wcmp
 rw [List.length_nil, List.length_cons, Nat.max_zero, List.range_succ_eq_map, List.map_cons, orI, zgp, wt_nil, js]
 apply zcq
 intro e
 apply zkm c
 rw [← UInt8.toNat_inj]
 have : (2 : UInt8).toNat = 2 := rfl
 omega
theorem wcmp_nil : wcmp [] [] = 0 := rfl
theorem ziu (x y : UInt8) (a b : Bs) : cb (x :: a) (y :: b) = cor (Lib.compareInt x.toNat y.toNat) (cb a b) := by
 unfold Lib.compareInt
 rcases zbz x y with e | e | e
 ·rw [vs e, if_pos (by rw [UInt8.lt_iff_toNat_lt] at e; omega)]; rfl
 ·subst e; rw [kk, if_neg (by omega), if_neg (by omega)]; rfl
 ·rw [vt e, if_neg (by rw [UInt8.lt_iff_toNat_lt] at e; omega), if_pos (by rw [UInt8.lt_iff_toNat_lt] at e; omega)]; rfl
theorem ze0 : ∀ (p q x y : Bs), cb (wts p ++ x) (wts q ++ y) = cor (wcmp p q) (cb x y)
 | [], [], x, y => by rw [wcmp_nil, uh]; exact kk 2 x y
 | [], c :: q, x, y => by
  rw [zi0]
  show cb (2 :: x) (wb c :: (wts q ++ y)) = _
  rw [ziu]
  have h : Lib.compareInt ((2 : UInt8).toNat : Int) (wb c).toNat ≠ 0 := zcq (by
    intro e; apply zkm c; rw [← UInt8.toNat_inj]; omega)
  rw [js h]
  exact (js h _).symm
 | c :: p, [], x, y => by
  rw [zkh]
  show cb (wb c :: (wts p ++ x)) (2 :: y) = _
  rw [ziu]
  have h : Lib.compareInt (wb c).toNat ((2 : UInt8).toNat : Int) ≠ 0 := zcq (by
    intro e; apply zkm c; rw [← UInt8.toNat_inj]; omega)
  rw [js h]
  exact (js h _).symm
 | b :: p, c :: q, x, y => by
  rw [zr0]
  show cb (wb b :: (wts p ++ x)) (wb c :: (wts q ++ y)) = _
  rw [ziu, ze0 p q x y, wv]
def zbw (s : Bs) : Bs := (zp (zp s false).2 true).2
def zc9 (s : Bs) : Bs := wts (zp s false).1 ++ nk (zp (zp s false).2 true).1
def zbu : Nat → Bs → Bs
 | 0, _ => [2]
 | f + 1, s => if s.isEmpty then [2] else zc9 s ++ zbu f (zbw s)
def zej (s : Bs) : Bs := zc9 s ++ zbu s.length (zbw s)
theorem zjz (s : Bs) : (zbw s).length ≤ s.length := by
 have h1 := qe s false
 have h2 := qe (zp s false).2 true
 unfold zbw; omega
theorem znz {s : Bs} (h : s ≠ []) : (zbw s).length < s.length := xl s h
theorem zkr {p : UInt8 → Bool} : ∀ {l : Bs} {c r}, l.dropWhile p = c :: r → p c = false
 | b :: l, c, r, h => by
  rw [List.dropWhile_cons] at h
  split at h
  ·exact zkr h
  ·rename_i hb
   simp at h; obtain ⟨rfl, _⟩ := h; exact Bool.eq_false_iff.2 hb
theorem zbe {s : Bs} {c : UInt8} {r : Bs} (h : zbw s = c :: r) : dig c = false := by
 have := zkr (p := fun c => dig c == true) (show List.dropWhile _ _ = c :: r from h)
 simpa using this
theorem wh (a b : Bs) : qc a b = cor (wcmp (zp a false).1 (zp b false).1)
      (cor (numbers (zp (zp a false).2 true).1 (zp (zp b false).2 true).1) (qc (zbw a) (zbw b))) := by
 by_cases h : (a.isEmpty && b.isEmpty) = true
 ·rw [Bool.and_eq_true, List.isEmpty_iff, List.isEmpty_iff] at h
  obtain ⟨rfl, rfl⟩ := h
  decide +kernel
 ·exact zcm a b h
theorem zeu (s : Bs) : (zp s false).1.length ≤ s.length ∧ (zp (zp s false).2 true).1.length ≤ s.length := by
 have h1 := qe s false
 have h2 := qe (zp s false).2 true
 omega
theorem zkz {c : UInt8} (r : Bs) (h : dig c = false) : ∃ q, (zp (c :: r) false).1 = c :: q := by
 unfold zp
 refine ⟨r.takeWhile fun c => dig c == false, ?_⟩
 simp [h]
theorem zk0 : ∀ (f g : Nat) (a b x y : Bs), a.length ≤ f → b.length ≤ g → a.length ≤ 255 → b.length ≤ 255 → (∀ c r, a = c :: r → dig c = false) → (∀ c r, b = c :: r → dig c = false) →
  cb (zbu f a ++ x) (zbu g b ++ y) = cor (qc a b) (cb x y)
 | f, g, [], [], x, y, _, _, _, _, _, _ => by
  have e1 : zbu f [] = [2] := by cases f <;> rfl
  have e2 : zbu g [] = [2] := by cases g <;> rfl
  rw [e1, e2, zpm, uh]; exact kk 2 x y
 | f, 0, _, _ :: _, _, _, _, h, _, _, _, _ => by simp at h
 | 0, g, _ :: _, _, _, _, h, _, _, _, _, _ => by simp at h
 | f, g + 1, [], c :: r, x, y, _, _, _, _, _, hb => by
  have e1 : zbu f [] = wts [] := by cases f <;> rfl
  obtain ⟨q, hq⟩ := zkz r (hb c r rfl)
  have e0 : (zp ([] : Bs) false).1 = [] := rfl
  have hw : wcmp [] (c :: q) ≠ 0 := by
   rw [zi0]; exact zcq (by intro e; apply zkm c; rw [← UInt8.toNat_inj]; have : (2 : UInt8).toNat = 2 := rfl; omega)
  rw [wh, hq, e0, js hw, e1]
  show cb (wts [] ++ x) ((zc9 (c :: r) ++ zbu g (zbw (c :: r))) ++ y) = _
  unfold zc9
  rw [hq, List.append_assoc, List.append_assoc, ze0, js hw, js hw]
 | f + 1, g, c :: r, [], x, y, _, _, _, _, ha, _ => by
  have e1 : zbu g [] = wts [] := by cases g <;> rfl
  obtain ⟨q, hq⟩ := zkz r (ha c r rfl)
  have e0 : (zp ([] : Bs) false).1 = [] := rfl
  have hw : wcmp (c :: q) [] ≠ 0 := by
   rw [zkh]; exact zcq (by intro e; apply zkm c; rw [← UInt8.toNat_inj]; have : (2 : UInt8).toNat = 2 := rfl; omega)
  rw [wh, hq, e0, js hw, e1]
  show cb ((zc9 (c :: r) ++ zbu f (zbw (c :: r))) ++ x) (wts [] ++ y) = _
  unfold zc9
  rw [hq, List.append_assoc, List.append_assoc, ze0, js hw, js hw]
 | f + 1, g + 1, c :: r, d :: t, x, y, hf, hg, h1, h2, ha, hb => by
  have l1 := znz (s := c :: r) (by simp)
  have l2 := znz (s := d :: t) (by simp)
  have s1 := zeu (c :: r)
  have s2 := zeu (d :: t)
  rw [wh]
  show cb ((zc9 (c :: r) ++ zbu f (zbw (c :: r))) ++ x) ((zc9 (d :: t) ++ zbu g (zbw (d :: t))) ++ y) = _
  unfold zc9
  rw [List.append_assoc, List.append_assoc, List.append_assoc, List.append_assoc, ze0, zb5 _ _ _ _ (by omega) (by omega),
    zk0 f g _ _ x y (by omega) (by omega) (by omega) (by omega) (fun _ _ h => zbe h) (fun _ _ h => zbe h), wv, wv]
theorem zfq (a b x y : Bs) (ha : a.length ≤ 255) (hb : b.length ≤ 255) : cb (zej a ++ x) (zej b ++ y) = cor (qc a b) (cb x y) := by
 have l1 := zjz a
 have l2 := zjz b
 have s1 := zeu a
 have s2 := zeu b
 unfold zej zc9
 rw [wh, List.append_assoc, List.append_assoc, List.append_assoc, List.append_assoc, ze0, zb5 _ _ _ _ (by omega) (by omega),
   zk0 _ _ _ _ x y (by omega) (by omega) (by omega) (by omega) (fun _ _ h => zbe h) (fun _ _ h => zbe h), wv, wv]
def zl3 (x : Bs × Bs × Bs) : Bs := nk x.1 ++ (zej x.2.1 ++ zej x.2.2)
theorem zql (x y : Bs × Bs × Bs) (h1 : x.1.length ≤ 255) (h2 : x.2.1.length ≤ 255) (h3 : x.2.2.length ≤ 255) (g1 : y.1.length ≤ 255) (g2 : y.2.1.length ≤ 255) (g3 : y.2.2.length ≤ 255) :
  cb (zl3 x) (zl3 y) = yx x y := by
 unfold zl3 yx
 rw [zb5 _ _ _ _ h1 g1, zfq _ _ _ _ h2 g2]
 have := zfq x.2.2 y.2.2 [] [] h3 g3
 rw [List.append_nil, List.append_nil, show cb [] [] = 0 from rfl, zc1] at this
 rw [this]
 simp only [orI, zc1]
def zqm (l : List Bs) : Bs := (l.map fun x => 1 :: nk x).flatten
def zo4 (l : List Bs) : Bs := zqm l ++ [0]
theorem zhx : ∀ p q : List Bs, (∀ x ∈ p, x.length ≤ 255) → (∀ x ∈ q, x.length ≤ 255) → cb (zo4 p) (zo4 q) = qu numbers p q
 | [], [], _, _ => rfl
 | [], b :: q, _, _ => rfl
 | b :: p, [], _, _ => rfl
 | a :: p, b :: q, hp, hq => by
  show cb (((1 :: nk a) ++ zqm p) ++ [0]) (((1 :: nk b) ++ zqm q) ++ [0]) = cor (numbers a b) (qu numbers p q)
  rw [List.append_assoc, List.append_assoc, List.cons_append, List.cons_append, kk, zb5 _ _ _ _ (hp a (by simp)) (hq b (by simp))]
  congr 1
  exact zhx p q (fun x h => hp x (by simp [h])) (fun x h => hq x (by simp [h]))
def keyV (n : Int) (v : Bs) : Bs :=
 if n = 1 then (match zi v with | some x => zk9 x | none => [])
 else if n = 2 then (match zn v with | some x => zl3 x | none => [])
 else zo4 (jm v)
theorem zen (c : UInt8) (l : Bs) : (cut1 c l).1.length ≤ l.length ∧ (cut1 c l).2.1.length ≤ l.length := by
 unfold cut1
 split
 ·exact ⟨(List.takeWhile_sublist _).length_le, by simp⟩
 ·simp
theorem zbb (c : UInt8) : ∀ (l x : Bs), x ∈ ze c l → x.length ≤ l.length
 | [], x, h => by simp [ze] at h; simp [h]
 | b :: l, x, h => by
  have ih := zbb c l
  unfold ze at h
  split at h
  ·rcases List.mem_cons.1 h with h | h
   ·simp [h]
   ·have := ih x h; simp; omega
  ·split at h
   ·simp at h; simp [h]
   ·rename_i y r he
    rw [he] at ih
    rcases List.mem_cons.1 h with h | h
    ·subst h; have := ih y (by simp); simp; omega
    ·have := ih x (by simp [h]); simp; omega
theorem zin {e : Bool} {x : Bs} (h : ju e x = true) (hl : x.length ≤ 255) : Tame x := by
 refine ⟨hl, fun c hc e0 => ?_⟩
 subst e0
 unfold ju only at h
 rw [Bool.and_eq_true, Bool.and_eq_true, List.all_eq_true] at h
 have := h.1.1 0 hc
 revert this; decide +kernel
theorem uf {s : Bs} {l pre : List Bs} (h : zi s = some (l, pre)) : (∀ x ∈ l, x.length ≤ s.length) ∧ (∀ x ∈ pre, x.length ≤ s.length ∧ ju true x = true) := by
 unfold zi at h
 have h1 := zen 43 s
 have h2 := zen 45 (cut1 43 s).1
 split at h
 ·cases h
 ·rename_i hn
  split at h
  ·simp only [Option.some.injEq, Prod.mk.injEq] at h
   obtain ⟨rfl, h⟩ := h
   refine ⟨fun x hx => by have := zbb 46 _ x hx; omega, fun x hx => ?_⟩
   split at h
   ·rename_i hc
    subst h
    refine ⟨by have := zbb 46 _ x hx; omega, ?_⟩
    have hi : identifiers (cut1 45 (cut1 43 s).1).2.1 true = true := by
     rcases hb : identifiers (cut1 45 (cut1 43 s).1).2.1 true with _ | _
     ·rw [hb, hc] at hn; simp at hn
     ·rfl
    unfold identifiers at hi
    rw [List.all_eq_true] at hi
    exact hi x hx
   ·subst h; simp at hx
  ·cases h
theorem ue {s : Bs} {x : Bs × Bs × Bs} (h : zn s = some x) : x.1.length ≤ s.length ∧ x.2.1.length ≤ s.length ∧ x.2.2.length ≤ s.length := by
 have ht : ∀ {ep t : Bs}, ep.length ≤ s.length → t.length ≤ s.length → ja ep t = some x → x.1.length ≤ s.length ∧ x.2.1.length ≤ s.length ∧ x.2.2.length ≤ s.length := by
  intro ep t he hl h
  unfold ja at h
  repeat' split at h
  all_goals first | (cases h; done) | (simp only [Option.some.injEq] at h; subst h; simp only [List.length_take, List.length_drop, List.length_nil]; omega)
 have h1 := zen 58 s
 unfold zn at h
 split at h
 ·split at h
  ·exact ht h1.1 h1.2 h
  ·cases h
 ·exact ht (by simp) (Nat.le_refl _) h
theorem zey {s x : Bs} (h : x ∈ jm s) : x.length ≤ s.length := by
 unfold jm zw at h
 rw [List.mem_reverse] at h
 exact zbb 46 s x (List.mem_reverse.1 ((List.dropWhile_sublist _).subset h))
theorem yt {n : Int} {v : Bs} (h : valid n v = true) : v.length ≤ 64 := by
 unfold valid at h; simp at h; omega
theorem zcy {l : List Bs} {m : Nat} (h : ∀ x ∈ l, x.length ≤ m) (k : Nat) : (l.getD k []).length ≤ m := by
 rw [List.getD_eq_getElem?_getD]
 rcases hk : l[k]? with _ | x
 ·simp
 ·exact h x (List.mem_of_getElem? hk)
theorem zc2 {n : Int} (hn : scheme n = true) {a b : Bs} (ha : valid n a = true) (hb : valid n b = true) : cb (keyV n a) (keyV n b) = cmpV n a b := by
 have l1 := yt ha
 have l2 := yt hb
 have hs : n = 1 ∨ n = 2 ∨ n = 3 := by unfold scheme at hn; simpa [or_assoc] using hn
 rcases hs with rfl | rfl | rfl
 ·unfold keyV cmpV
  rw [if_pos rfl, if_pos rfl, if_pos rfl]
  obtain ⟨⟨la, pa⟩, e1⟩ := Option.isSome_iff_exists.1 (show (zi a).isSome = true by unfold valid xq at ha; simp at ha; exact ha.2)
  obtain ⟨⟨lb, pb⟩, e2⟩ := Option.isSome_iff_exists.1 (show (zi b).isSome = true by unfold valid xq at hb; simp at hb; exact hb.2)
  have f1 := uf e1
  have f2 := uf e2
  rw [e1, e2]
  exact zqj _ _ (fun k => by have := zcy f1.1 k; simp only; omega) (fun k => by have := zcy f2.1 k; simp only; omega)
   (fun z hz => zin (f1.2 z hz).2 (by have := (f1.2 z hz).1; omega)) (fun z hz => zin (f2.2 z hz).2 (by have := (f2.2 z hz).1; omega))
 ·unfold keyV cmpV
  rw [if_neg (by decide), if_pos rfl, if_neg (by decide), if_pos rfl, if_neg (by decide), if_pos rfl]
  obtain ⟨x, e1⟩ := Option.isSome_iff_exists.1 (show (zn a).isSome = true by unfold valid xq at ha; simp at ha; exact ha.2)
  obtain ⟨y, e2⟩ := Option.isSome_iff_exists.1 (show (zn b).isSome = true by unfold valid xq at hb; simp at hb; exact hb.2)
  have f1 := ue e1
  have f2 := ue e2
  rw [e1, e2]
  exact zql _ _ (by omega) (by omega) (by omega) (by omega) (by omega) (by omega)
 ·unfold keyV cmpV
  rw [if_neg (by decide), if_neg (by decide), if_neg (by decide), if_neg (by decide), if_neg (by decide), if_neg (by decide)]
  exact zhx _ _ (fun x hx => by have := zey hx; omega) (fun x hx => by have := zey hx; omega)
theorem zr4 {n : Int} (hn : scheme n = true) {a b c : Bs} (ha : valid n a = true) (hb : valid n b = true) (hc : valid n c = true) :
  cmpV n a b = - cmpV n b a ∧ cmpV n a a = 0 ∧ ¬ (cmpV n a b ≤ 0 ∧ cmpV n b c ≤ 0 ∧ 0 < cmpV n a c) ∧ ¬ (0 ≤ cmpV n a b ∧ 0 ≤ cmpV n b c ∧ cmpV n a c < 0) ∧ (cmpV n a b = 0 → cmpV n b c = cmpV n a c) := by
 rw [← zc2 hn ha hb, ← zc2 hn hb ha, ← zc2 hn ha ha, ← zc2 hn hb hc, ← zc2 hn ha hc]
 refine ⟨kj _ _, ye _, fun h => ?_, fun h => ?_, fun h => ?_⟩
 ·have := zai _ _ _ h.1 h.2.1; omega
 ·have h1 := kj (keyV n a) (keyV n b)
  have h2 := kj (keyV n b) (keyV n c)
  have h3 := kj (keyV n a) (keyV n c)
  have := zai (keyV n c) (keyV n b) (keyV n a) (by omega) (by omega)
  omega
 ·rw [zn4 h]
end Go.Proofs.YtnhfaincdabdkaaGreatDoor.V
namespace Go.Proofs.YtnhfaincdabdkaaGreatDoor.V
def rwt (s : Bs) (i : Nat) : Int := if s.length ≤ i then 1 else if s.getD i 0 = 126 then 0 else if lett (s.getD i 0) then 2 + (s.getD i 0).toNat else 300 + (s.getD i 0).toNat
def phi (n : Int) : Int := if n ≤ 2 then n - 1 else if n < 128 then n + 2 else n + 172
def Ascii (s : Bs) : Prop := ∀ c ∈ s, c.toNat < 128
theorem or_128 {c : UInt8} (h : c.toNat < 128) : (c ||| 128).toNat = c.toNat + 128 := by
 have h2 : ∀ n : Fin 128, ((UInt8.ofNat n.val) ||| 128).toNat = n.val + 128 := by decide +kernel
 have := h2 ⟨c.toNat, h⟩
 rwa [show UInt8.ofNat c.toNat = c from UInt8.ofNat_toNat] at this
theorem ziw {c : UInt8} (h : lett c = true) : 65 ≤ c.toNat ∧ c.toNat ≤ 122 := by
 unfold lett letB at h; simp at h; omega
theorem wt_ge (s : Bs) (i : Nat) (h : Ascii s) : 1 ≤ wt s i := by
 unfold wt
 split
 ·omega
 ·split
  ·omega
  ·split
   ·rename_i hl; have := ziw hl; omega
   ·rename_i hk _ _
    have hm : s.getD i 0 ∈ s := by
     rw [List.getD_eq_getElem?_getD, List.getElem?_eq_getElem (by omega)]; exact List.getElem_mem _
    have := or_128 (h _ hm); omega
theorem zrq (s : Bs) (i : Nat) (h : Ascii s) : rwt s i = phi (wt s i) := by
 unfold rwt wt
 split
 ·rfl
 ·split
  ·rfl
  ·split
   ·rename_i hl
    have := ziw hl
    unfold phi
    rw [if_neg (by omega), if_pos (by omega)]; omega
   ·rename_i hk _ _
    have hm : s.getD i 0 ∈ s := by
     rw [List.getD_eq_getElem?_getD, List.getElem?_eq_getElem (by omega)]; exact List.getElem_mem _
    have h1 := or_128 (h _ hm)
    have h2 := h _ hm
    unfold phi
    rw [h1, if_neg (by omega), if_neg (by omega)]; omega
theorem sgn_phi {a b : Int} (ha : 1 ≤ a) (hb : 1 ≤ b) : sgn (phi a - phi b) = Lib.compareInt a b := by
 unfold sgn phi Lib.compareInt
 repeat' split
 all_goals omega
theorem sgn_rwt (x y : Bs) (i : Nat) (hx : Ascii x) (hy : Ascii y) : sgn (rwt x i - rwt y i) = Lib.compareInt (wt x i) (wt y i) := by
 rw [zrq x i hx, zrq y i hy]
 exact sgn_phi (wt_ge x i hx) (wt_ge y i hy)
theorem sgn_zero {n : Int} : sgn n = 0 ↔ n = 0 := by unfold sgn; repeat' split <;> omega
theorem zrn (s : Bs) (i : Nat) : 0 ≤ rwt s i ∧ rwt s i ≤ 555 := by
 unfold rwt
 have := (s.getD i 0).toNat_lt
 repeat' split
 all_goals omega
theorem Ascii.take {s : Bs} (h : Ascii s) (d : Bool) : Ascii (zp s d).1 := fun c hc => h c ((List.takeWhile_sublist _).subset hc)
theorem Ascii.rest {s : Bs} (h : Ascii s) (d : Bool) : Ascii (zp s d).2 := fun c hc => h c ((List.dropWhile_sublist _).subset hc)
def pad : List Bs → List Bs → Int
 | [], [] => 0
 | [], b :: q => cor (numbers [48] b) (pad [] q)
 | a :: p, [] => cor (numbers a [48]) (pad p [])
 | a :: p, b :: q => cor (numbers a b) (pad p q)
theorem znd (x y : List Bs) (h : 0 < x.length ∨ 0 < y.length) : pad x y = cor (numbers (x.getD 0 [48]) (y.getD 0 [48])) (pad (x.drop 1) (y.drop 1)) := by
 cases x <;> cases y
 ·simp at h
 all_goals
  rw [pad]
  rfl
theorem zgz : ∀ (k : Nat) (x y : List Bs), (∀ j, j < k → numbers (x.getD j [48]) (y.getD j [48]) = 0) → pad x y = pad (x.drop k) (y.drop k)
 | 0, _, _, _ => rfl
 | k + 1, x, y, h => by
  have h0 := h 0 (by omega)
  have e : pad x y = pad (x.drop 1) (y.drop 1) := by
   by_cases hl : 0 < x.length ∨ 0 < y.length
   ·rw [znd x y hl, h0, uh]
   ·have hx : x = [] := List.eq_nil_of_length_eq_zero (by omega)
    have hy : y = [] := List.eq_nil_of_length_eq_zero (by omega)
    subst hx hy; rfl
  rw [e, zgz k (x.drop 1) (y.drop 1) (fun j hj => by
    have := h (j + 1) (by omega)
    simpa [List.getD_eq_getElem?_getD, List.getElem?_drop, Nat.add_comm] using this)]
  simp
theorem pad_hit (k : Nat) (x y : List Bs) (h : ∀ j, j < k → numbers (x.getD j [48]) (y.getD j [48]) = 0) (hk : k < x.length ∨ k < y.length) (h0 : numbers (x.getD k [48]) (y.getD k [48]) ≠ 0) :
  pad x y = numbers (x.getD k [48]) (y.getD k [48]) := by
 rw [zgz k x y h, znd _ _ (by simp only [List.length_drop]; omega)]
 have e1 : (x.drop k).getD 0 [48] = x.getD k [48] := by simp [List.getD_eq_getElem?_getD, List.getElem?_drop]
 have e2 : (y.drop k).getD 0 [48] = y.getD k [48] := by simp [List.getD_eq_getElem?_getD, List.getElem?_drop]
 rw [e1, e2, js h0]
theorem pad_end (k : Nat) (x y : List Bs) (h : ∀ j, j < k → numbers (x.getD j [48]) (y.getD j [48]) = 0) (hk : ¬ (k < x.length ∨ k < y.length)) : pad x y = 0 := by
 rw [zgz k x y h, List.drop_of_length_le (by omega), List.drop_of_length_le (by omega), pad]
theorem uz (a : Bs) (l : List Bs) : zw (a :: l) = if (zw l).isEmpty && (value a).isEmpty then [] else a :: zw l := by
 unfold zw
 rw [List.reverse_cons, List.dropWhile_append]
 rcases h : (List.dropWhile (fun x => (value x).isEmpty) l.reverse) with _ | ⟨b, r⟩
 ·rcases hv : (value a).isEmpty with _ | _ <;> simp [hv]
 ·simp
theorem zh6 {a b : Bs} (h : value a = []) : numbers a b = if (value b).isEmpty then 0 else -1 := by
 unfold numbers
 rw [h]
 rcases hb : value b with _ | ⟨c, r⟩
 ·rfl
 ·rw [List.isEmpty_cons, if_neg (by decide)]
  unfold Lib.compareInt
  rw [if_pos (by simp; try omega)]; rfl
theorem zke {a b : Bs} (h : value b = []) : numbers a b = if (value a).isEmpty then 0 else 1 := by
 unfold numbers
 rw [h]
 rcases hb : value a with _ | ⟨c, r⟩
 ·rfl
 ·rw [List.isEmpty_cons, if_neg (by decide)]
  unfold Lib.compareInt
  rw [if_neg (by simp; try omega), if_pos (by simp; try omega)]; rfl
theorem zle (l : List Bs) : qu numbers [] l = if l.isEmpty then 0 else -1 := by cases l <;> rfl
theorem zhu (l : List Bs) : qu numbers l [] = if l.isEmpty then 0 else 1 := by cases l <;> rfl
theorem zcu : ∀ x y : List Bs, pad x y = qu numbers (zw x) (zw y)
 | [], [] => by rw [pad]; rfl
 | [], b :: q => by
  have ih := zcu [] q
  have e : zw [] = [] := rfl
  rw [e, zle] at ih ⊢
  rw [pad, zh6 (a := [48]) (by decide), ih, uz]
  rcases (value b).isEmpty with _ | _ <;> rcases (zw q).isEmpty with _ | _ <;> simp [cor]
 | a :: p, [] => by
  have ih := zcu p []
  have e : zw [] = [] := rfl
  rw [e, zhu] at ih ⊢
  rw [pad, zke (b := [48]) (by decide), ih, uz]
  rcases (value a).isEmpty with _ | _ <;> rcases (zw p).isEmpty with _ | _ <;> simp [cor]
 | a :: p, b :: q => by
  have ih := zcu p q
  rw [pad, uz, uz, ih]
  rcases hp : (zw p).isEmpty && (value a).isEmpty with _ | _ <;> rcases hq : (zw q).isEmpty && (value b).isEmpty with _ | _
  ·simp [qu]
  ·rw [Bool.and_eq_true, List.isEmpty_iff, List.isEmpty_iff] at hq
   rw [zke hq.2, hq.1, zhu, if_pos rfl, if_neg Bool.false_ne_true, zhu]
   rcases h1 : (value a).isEmpty with _ | _ <;> rcases h2 : (zw p).isEmpty with _ | _ <;> (rw [h1, h2] at hp; simp [cor] at hp ⊢)
  ·rw [Bool.and_eq_true, List.isEmpty_iff, List.isEmpty_iff] at hp
   rw [zh6 hp.2, hp.1, zle, if_pos rfl, if_neg Bool.false_ne_true, zle]
   rcases h1 : (value b).isEmpty with _ | _ <;> rcases h2 : (zw q).isEmpty with _ | _ <;> (rw [h1, h2] at hq; simp [cor] at hq ⊢)
  ·rw [Bool.and_eq_true, List.isEmpty_iff, List.isEmpty_iff] at hp hq
   rw [zh6 hp.2, hp.1, hq.1, hq.2, if_pos rfl, if_pos rfl]
   rfl
theorem pad_dots (a b : Bs) : pad (ze 46 a) (ze 46 b) = zaf a b := zcu _ _
theorem zpb {o : Bs} (ho : Ascii o) {c : UInt8} (h : kind o c = true) : c.toNat < 128 := by
 unfold kind at h
 rw [Bool.or_eq_true, Bool.or_eq_true] at h
 rcases h with (h | h) | h
 ·have := ziw h; omega
 ·unfold dig digB at h; simp at h; omega
 ·exact ho c (by simpa using h)
theorem zdn {o : Bs} (ho : Ascii o) {s : Bs} (h : only (kind o) s = true) : Ascii s := fun c hc => by
 unfold only at h
 rw [Bool.and_eq_true, List.all_eq_true] at h
 exact zpb ho (h.1 c hc)
theorem zj1 (l : Bs) (h : l.all (fun c => decide (c.toNat < 128)) = true) : Ascii l := fun c hc => by
 rw [List.all_eq_true] at h
 simpa using h c hc
theorem zc7 {ep s : Bs} {x : Bs × Bs × Bs} (h : ja ep s = some x) : Ascii x.2.1 ∧ Ascii x.2.2 := by
 have a1 : Ascii [46, 43, 126, 45] := zj1 _ (by decide)
 have a2 : Ascii allow := zj1 _ (by decide)
 unfold ja at h
 split at h
 ·split at h
  ·rename_i hk
   simp only [Option.some.injEq] at h; subst h
   rw [Bool.and_eq_true] at hk
   exact ⟨zdn a1 hk.1, fun c hc => by simp at hc⟩
  ·cases h
 ·split at h
  ·rename_i hr
   split at h
   ·rename_i hk
    simp only [Option.some.injEq] at h; subst h
    rw [Bool.and_eq_true] at hk
    exact ⟨zdn a1 hk.1, zdn a2 hr⟩
   ·cases h
  ·cases h
theorem zcc {v : Bs} {x : Bs × Bs × Bs} (h : zn v = some x) : Ascii x.2.1 ∧ Ascii x.2.2 := by
 unfold zn at h
 split at h
 ·split at h
  ·exact zc7 h
  ·cases h
 ·exact zc7 h
theorem zjg {a b c d : Bs} (h : value a = value c) (g : value b = value d) : numbers a b = numbers c d := by
 unfold numbers; rw [h, g]
end Go.Proofs.YtnhfaincdabdkaaGreatDoor.V
