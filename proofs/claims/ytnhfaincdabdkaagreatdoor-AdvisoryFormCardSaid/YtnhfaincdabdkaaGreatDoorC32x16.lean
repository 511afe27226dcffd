/-
  Lemmas for the law.
-/
import Derived.Test.YtnhfaincdabdkaaGreatDoorC32x01
import Derived.Test.YtnhfaincdabdkaaGreatDoorC32x15
import Derived.Test.YtnhfaincdabdkaaGreatDoorC32x14
import Derived.Lib.ItoaNum
set_option linter.all false
namespace Go.Proofs.YtnhfaincdabdkaaGreatDoor
open Go.RowKit
namespace V
def jr (c : UInt8) : Bool := decide (33 ≤ c.toNat) && (decide (c.toNat ≤ 125) && !decide (c.toNat = 37))
def digU : Bs := [48, 49, 50, 51, 52, 53, 54, 55, 56, 57, 65, 66, 67, 68, 69, 70]
def encB (c : UInt8) : Bs := if jr c = true then [c] else [37, digU.getD (c.toNat / 16) 0, digU.getD (c.toNat % 16) 0]
def word (w : Bs) : Bs := if w.isEmpty then [126] else w.flatMap encB
def ym (c : UInt8) : Nat := if jr c = true then 1 else 3
def zae (w : Bs) : Nat := max ((w.map ym).sum) 1
theorem encB_len (c : UInt8) : (encB c).length = ym c := by unfold encB ym; split <;> rfl
theorem zuk (c : UInt8) : 1 ≤ ym c := by unfold ym; split <;> omega
theorem sizeC_le (c : UInt8) : ym c ≤ 3 := by unfold ym; split <;> omega
theorem zjl : ∀ w : Bs, (w.flatMap encB).length = (w.map ym).sum
 | [] => rfl
 | c :: w => by rw [List.flatMap_cons, List.length_append, encB_len, zjl w, List.map_cons, List.sum_cons]
theorem sum_le (w : Bs) : (w.map ym).sum ≤ 3 * w.length := by
 induction w with
 | nil => simp
 | cons c w ih => rw [List.map_cons, List.sum_cons, List.length_cons]; have := sizeC_le c; omega
theorem le_sum (w : Bs) : w.length ≤ (w.map ym).sum := by
 induction w with
 | nil => simp
 | cons c w ih => rw [List.map_cons, List.sum_cons, List.length_cons]; have := zuk c; omega
theorem zbt (w : Bs) : (word w).length = zae w := by
 unfold word zae
 cases w with
 | nil => rfl
 | cons c r =>
  rw [List.isEmpty_cons, if_neg (by decide), zjl]
  have := le_sum (c :: r)
  rw [List.length_cons] at this
  omega
theorem wn (w : Bs) : zae w ≤ 3 * w.length + 1 := by
 unfold zae
 have := sum_le w
 omega
def kz (l : List Bs) (k : Nat) : Bs := (List.range k).flatMap fun i => (if i = 0 then [] else [32]) ++ word (l.getD i [])
def line (l : List Bs) : Bs := kz l l.length ++ [10]
def ze0 (ls : List (List Bs)) (k : Nat) : Bs := (ls.take k).flatMap line
def doc (ls : List (List Bs)) : Bs := ls.flatMap line
def kf (l : List Bs) (k : Nat) : Nat := ((l.take k).map fun w => zae w + 1).sum
def ku (ls : List (List Bs)) (k : Nat) : Nat := ((ls.take k).map fun l => kf l l.length).sum
theorem zbh (l : List Bs) (k : Nat) : kz l (k + 1) = kz l k ++ ((if k = 0 then [] else [32]) ++ word (l.getD k [])) := by
 unfold kz
 rw [List.range_succ, List.flatMap_append]
 simp
theorem _root_.Go.Proofs.YtnhfaincdabdkaaGreatDoor.zye {P : Prop} (h : P := by
 rw [List.take_succ_eq_append_getElem h, List.map_append, List.sum_append]
 simp) : P := h
theorem zbj {l : List Bs} {k : Nat} (h : k < l.length) : kf l (k + 1) = kf l k + (zae l[k] + 1) := by
 unfold kf
 exact zye
theorem zj2 {ls : List (List Bs)} {k : Nat} (h : k < ls.length) : ze0 ls (k + 1) = ze0 ls k ++ line ls[k] := by
 unfold ze0
 rw [List.take_succ_eq_append_getElem h, List.flatMap_append]
 simp
theorem za7 {ls : List (List Bs)} {k : Nat} (h : k < ls.length) : ku ls (k + 1) = ku ls k + kf ls[k] ls[k].length := by
 unfold ku
 exact zye
theorem zgz (ls : List (List Bs)) : ze0 ls ls.length = doc ls := by unfold ze0 doc; rw [List.take_length]
theorem ze6 {l : List Bs} : ∀ k, k ≤ l.length → (kz l k).length + 1 ≤ kf l k + 1 ∧ (0 < k → (kz l k).length + 1 = kf l k)
 | 0, _ => ⟨by simp [kz, kf], fun h => by omega⟩
 | k + 1, h => by
  have ih := ze6 (l := l) k (by omega)
  rw [zbh, zbj (by omega), List.length_append, List.length_append, zbt, List.getD_eq_getElem?_getD, List.getElem?_eq_getElem (by omega)]
  simp only [Option.getD_some]
  by_cases hk : k = 0
  ·subst hk
   have : (kz l 0).length = 0 := rfl
   have h2 : kf l 0 = 0 := rfl
   simp
   omega
  ·have := ih.2 (by omega)
   rw [if_neg hk, List.length_singleton]
   omega
theorem zpv {l : List Bs} (h : 0 < l.length) : (line l).length = kf l l.length := by
 unfold line
 rw [List.length_append, List.length_singleton]
 exact (ze6 l.length (Nat.le_refl _)).2 h
theorem zb6 {l : List Bs} {j k : Nat} (h : j ≤ k) (hk : k ≤ l.length) : kf l j ≤ kf l k := by
 induction k with
 | zero => obtain rfl : j = 0 := by omega
           exact Nat.le_refl _
 | succ k ih =>
  rcases Nat.lt_or_ge k j with hj | hj
  ·obtain rfl : j = k + 1 := by omega
   exact Nat.le_refl _
  ·rw [zbj (by omega)]
   have := ih hj (by omega)
   omega
theorem zdl {ls : List (List Bs)} {j k : Nat} (h : j ≤ k) (hk : k ≤ ls.length) : ku ls j ≤ ku ls k := by
 induction k with
 | zero => obtain rfl : j = 0 := by omega
           exact Nat.le_refl _
 | succ k ih =>
  rcases Nat.lt_or_ge k j with hj | hj
  ·obtain rfl : j = k + 1 := by omega
   exact Nat.le_refl _
  ·rw [za7 (by omega)]
   have := ih hj (by omega)
   omega
theorem zec {ls : List (List Bs)} (hw : ∀ l ∈ ls, 0 < l.length) : ∀ k, k ≤ ls.length → (ze0 ls k).length = ku ls k
 | 0, _ => rfl
 | k + 1, h => by
  rw [zj2 (by omega), za7 (by omega), List.length_append, zec hw k (by omega), zpv (hw _ (List.getElem_mem (by omega)))]
structure DocOk (ls : List (List Bs)) : Prop where
 lines : ls.length ≤ 1000
 line : ∀ l ∈ ls, 0 < l.length ∧ l.length ≤ 120 ∧ ∀ w ∈ l, w.length ≤ 32768
 size : ku ls ls.length ≤ 262144
end V
open Go.RowKit
namespace V
def hexV (c : UInt8) : Option Nat := if 48 ≤ c.toNat ∧ c.toNat ≤ 57 then some (c.toNat - 48) else if 65 ≤ c.toNat ∧ c.toNat ≤ 70 then some (c.toNat - 55) else none
def qw : Bs → Option Bs
 | [] => some []
 | c :: r => if jr c = true then (qw r).map (c :: ·) else if c = 37 then
   match r with
   | a :: b :: r' => match hexV a, hexV b with
    | some x, some y => if jr (UInt8.ofNat (16 * x + y)) = true then none else (qw r').map (UInt8.ofNat (16 * x + y) :: ·)
    | _, _ => none
   | _ => none
  else none
def unwR (s : Bs) : Option Bs := if s = [126] then some [] else match qw s with | some w => if w = [] then none else some w | none => none
def escB : Bs → Option Bs
 | a :: b :: r' => match hexV a, hexV b with
  | some x, some y => if jr (UInt8.ofNat (16 * x + y)) = true then none else (qw r').map (UInt8.ofNat (16 * x + y) :: ·)
  | _, _ => none
 | _ => none
theorem zfe (c : UInt8) (r : Bs) : qw (c :: r) = if jr c = true then (qw r).map (c :: ·) else if c = 37 then escB r else none := by
 match r with
 | [] => rfl
 | [_] => rfl
 | _ :: _ :: _ => rfl
theorem zdf {c : UInt8} {r : Bs} (h : jr c = true) : qw (c :: r) = (qw r).map (c :: ·) := by rw [zfe, if_pos h]
theorem zlr {c : UInt8} {r : Bs} (h : jr c = false) (hc : c ≠ 37) : qw (c :: r) = none := by
 rw [zfe, if_neg (by rw [h]; decide), if_neg hc]
theorem zm7 (r : Bs) : qw (37 :: r) = escB r := by rw [zfe, if_neg (by decide), if_pos rfl]
theorem zdk {r : Bs} (h : r.length < 2) : qw (37 :: r) = none := by
 rw [zm7]
 match r, h with
 | [], _ => rfl
 | [_], _ => rfl
theorem zge {a b : UInt8} {r : Bs} (h : hexV a = none ∨ hexV b = none) : qw (37 :: a :: b :: r) = none := by
 rw [zm7, escB]
 rcases h with h | h
 ·simp [h]
 ·cases ha : hexV a <;> simp [h]
theorem zgu {a b : UInt8} {r : Bs} {x y : Nat} (ha : hexV a = some x) (hb : hexV b = some y) : qw (37 :: a :: b :: r) = if jr (UInt8.ofNat (16 * x + y)) = true then none else (qw r).map (UInt8.ofNat (16 * x + y) :: ·) := by
 rw [zm7, escB]
 simp [ha, hb]
theorem zh7 {c : UInt8} {x : Nat} (h : hexV c = some x) : x < 16 := by
 unfold hexV at h
 split at h
 ·cases h; omega
 ·split at h
  ·cases h; omega
  ·cases h
theorem hexV_dig : ∀ n : Fin 256, (match hexV (UInt8.ofNat n.val) with | some x => decide (digU.getD x 0 = UInt8.ofNat n.val) | none => true) = true := by decide +kernel
theorem zl3 {c : UInt8} {x : Nat} (h : hexV c = some x) : digU.getD x 0 = c := by
 have := hexV_dig ⟨c.toNat, c.toNat_lt⟩
 simp only [UInt8.ofNat_toNat, h, decide_eq_true_eq] at this
 exact this
theorem enc_esc {a b : UInt8} {x y : Nat} (ha : hexV a = some x) (hb : hexV b = some y) (hp : jr (UInt8.ofNat (16 * x + y)) = false) : encB (UInt8.ofNat (16 * x + y)) = [37, a, b] := by
 have hx := zh7 ha
 have hy := zh7 hb
 unfold encB
 have e : (UInt8.ofNat (16 * x + y)).toNat = 16 * x + y := by simp; omega
 rw [hp, if_neg (by decide), e, show (16 * x + y) / 16 = x by omega, show (16 * x + y) % 16 = y by omega, zl3 ha, zl3 hb]
theorem zgq : ∀ (k : Nat) (s w : Bs), s.length ≤ k → qw s = some w → w.flatMap encB = s
 | _, [], w, _, h => by rw [qw] at h; cases h; rfl
 | 0, c :: r, w, hk, _ => by simp at hk
 | k + 1, c :: r, w, hk, h => by
  rw [List.length_cons] at hk
  rcases hp : jr c with _ | _
  ·by_cases hc : c = 37
   ·subst hc
    match r, h with
    | [], h => rw [zdk (by simp)] at h; cases h
    | [_], h => rw [zdk (by simp)] at h; cases h
    | a :: b :: r', h =>
     cases ha : hexV a with
     | none => rw [zge (.inl ha)] at h; cases h
     | some x =>
      cases hb : hexV b with
      | none => rw [zge (.inr hb)] at h; cases h
      | some y =>
       rw [zgu ha hb] at h
       split at h
       ·cases h
       ·rename_i hq
        have hq : jr (UInt8.ofNat (16 * x + y)) = false := by simpa using hq
        cases hr : qw r' with
        | none => rw [hr] at h; cases h
        | some w' =>
         rw [hr] at h
         simp only [Option.map_some, Option.some.injEq] at h
         subst h
         simp only [List.length_cons] at hk
         rw [List.flatMap_cons, zgq k r' w' (by omega) hr, enc_esc ha hb hq]
         rfl
   ·rw [zlr hp hc] at h; cases h
  ·rw [zdf hp] at h
   cases hr : qw r with
   | none => rw [hr] at h; cases h
   | some w' =>
    rw [hr] at h
    simp only [Option.map_some, Option.some.injEq] at h
    subst h
    rw [List.flatMap_cons, zgq k r w' (by omega) hr]
    unfold encB
    rw [if_pos hp]
    rfl
theorem zlz {s w : Bs} (h : unwR s = some w) : word w = s := by
 unfold unwR at h
 split at h
 ·rename_i e
  cases h
  rw [e]; rfl
 ·cases hq : qw s with
  | none => rw [hq] at h; cases h
  | some v =>
   rw [hq] at h
   simp only at h
   split at h
   ·cases h
   ·rename_i hv
    cases h
    unfold word
    rw [if_neg (by simpa using hv)]
    exact zgq _ s _ (Nat.le_refl _) hq
theorem unw_at {s : Bs} {k : Nat} {out : Bs} (h : qw s = (qw (s.drop k)).map (out ++ ·)) (hk : k < s.length) :
  (jr s[k] = true → qw s = (qw (s.drop (k + 1))).map ((out ++ [s[k]]) ++ ·)) ∧
  (jr s[k] = false → s[k] ≠ 37 → qw s = none) ∧
  (s[k] = 37 → s.length < k + 3 → qw s = none) ∧
  (∀ h3 : k + 2 < s.length, s[k] = 37 → (hexV s[k + 1] = none ∨ hexV s[k + 2] = none) → qw s = none) ∧
  (∀ (h3 : k + 2 < s.length) x y, s[k] = 37 → hexV s[k + 1] = some x → hexV s[k + 2] = some y → (jr (UInt8.ofNat (16 * x + y)) = true → qw s = none) ∧ (jr (UInt8.ofNat (16 * x + y)) = false → qw s = (qw (s.drop (k + 3))).map ((out ++ [UInt8.ofNat (16 * x + y)]) ++ ·))) := by
 have hd := List.drop_eq_getElem_cons hk
 refine ⟨fun hp => ?_, fun hp hc => ?_, fun hc hl => ?_, fun h3 hc hb => ?_, fun h3 x y hc hx hy => ?_⟩
 ·rw [h, hd, zdf hp]
  cases qw (s.drop (k + 1)) <;> simp
 ·rw [h, hd, zlr hp hc]; rfl
 ·rw [h, hd, hc, zdk (by simp; omega)]; rfl
 ·have h1 := List.drop_eq_getElem_cons (show k + 1 < s.length by omega)
  have h2 := List.drop_eq_getElem_cons h3
  rw [h, hd, hc, h1, h2, zge hb]; rfl
 ·have h1 := List.drop_eq_getElem_cons (show k + 1 < s.length by omega)
  have h2 := List.drop_eq_getElem_cons h3
  rw [hd, hc, h1, h2, zgu hx hy] at h
  refine ⟨fun hp => ?_, fun hp => ?_⟩
  ·rw [h, if_pos hp]; rfl
  ·rw [h, if_neg (by rw [hp]; decide)]
   cases qw (s.drop (k + 3)) <;> simp
end V
open Go.RowKit
namespace V
def qz : List Bs → Option (List Bs)
 | [] => some []
 | s :: r => match unwR s with | none => none | some w => (qz r).map (w :: ·)
def chk (l : List Bs) : Int := if l.length = 0 then 1 else if 120 < l.length then 3 else if (l.all fun w => decide (w.length ≤ 32768)) = true then 0 else 3
def ji : List Bs → Option (List (List Bs))
 | [] => none
 | [x] => if x = [] then some [] else none
 | x :: y :: r => match qz (ze 32 x) with | none => none | some l => if chk l = 0 then (ji (y :: r)).map (l :: ·) else none
def decP (b : Bs) : List (List Bs) × Int := if 262144 < b.length then ([], 3) else match ji (ze 10 b) with | some ls => if ls.length ≤ 1000 then (ls, 0) else ([], 2) | none => ([], 2)
def zkw : List Bs → Option (List (List Bs))
 | [] => some []
 | x :: r => match qz (ze 32 x) with | none => none | some l => (zkw r).map (l :: ·)
def qb : List (List Bs) → Int
 | [] => 0
 | l :: r => if chk l = 0 then qb r else chk l
def encE (ls : List (List Bs)) : Int := if 1000 < ls.length then 3 else if qb ls = 0 then (if 262144 < ku ls ls.length then 3 else 0) else qb ls
theorem zdv {l : List Bs} : chk l = 0 ↔ 0 < l.length ∧ l.length ≤ 120 ∧ ∀ w ∈ l, w.length ≤ 32768 := by
 unfold chk
 split
 ·simp; omega
 ·split
  ·simp; omega
  ·split
   ·rename_i h
    simp only [List.all_eq_true, decide_eq_true_eq] at h
    exact ⟨fun _ => ⟨by omega, by omega, h⟩, fun _ => rfl⟩
   ·rename_i h
    simp only [List.all_eq_true, decide_eq_true_eq] at h
    exact ⟨fun e => by simp at e, fun e => absurd e.2.2 h⟩
theorem yq : ∀ {ls : List (List Bs)}, qb ls = 0 ↔ ∀ l ∈ ls, chk l = 0
 | [] => by simp [qb]
 | l :: r => by
  unfold qb
  split
  ·rename_i h
   rw [yq]
   simp [h]
  ·rename_i h
   simp [h]
theorem zp1 {ls : List (List Bs)} {k : Nat} (hk : k < ls.length) (h : qb ls = qb (ls.drop k)) : (chk ls[k] = 0 → qb ls = qb (ls.drop (k + 1))) ∧ (¬ chk ls[k] = 0 → qb ls = chk ls[k]) := by
 rw [List.drop_eq_getElem_cons hk, qb] at h
 refine ⟨fun e => ?_, fun e => ?_⟩
 ·rw [h, if_pos e]
 ·rw [h, if_neg e]
theorem zd9 {ls : List (List Bs)} (h : encE ls = 0) : DocOk ls := by
 unfold encE at h
 split at h
 ·cases h
 ·split at h
  ·rename_i h1 h2
   split at h
   ·cases h
   ·exact ⟨by omega, fun l hl => zdv.1 (yq.1 h2 l hl), by omega⟩
  ·rename_i h2
   exact absurd h h2
theorem zdr {x : Bs} {t : List Bs} (h : t ≠ []) : ji (x :: t) = match qz (ze 32 x) with | none => none | some l => if chk l = 0 then (ji t).map (l :: ·) else none := by
 cases t with
 | nil => exact absurd rfl h
 | cons y r => rfl
theorem zhh : ∀ rows : List Bs, ji (rows ++ [[]]) = match zkw rows with | none => none | some ls => if qb ls = 0 then some ls else none
 | [] => by simp [ji, zkw, qb]
 | x :: r => by
  rw [List.cons_append, zdr (by simp), zkw, zhh r]
  cases hw : qz (ze 32 x) with
  | none => rfl
  | some l =>
   simp only
   cases hr : zkw r with
   | none => simp
   | some ls =>
    simp only [Option.map_some]
    by_cases h1 : chk l = 0
    ·have e : qb (l :: ls) = qb ls := by rw [qb, if_pos h1]
     simp only [e, h1, if_true]
     by_cases h2 : qb ls = 0
     ·simp [h2]
     ·simp [h2]
    ·have e : qb (l :: ls) = chk l := by rw [qb, if_neg h1]
     simp [e, h1]
theorem zp4 : ∀ {r : List Bs} {l : List Bs}, qz r = some l → l.length = r.length ∧ (l.map fun w => zae w + 1).sum = (r.map fun s => s.length + 1).sum
 | [], l, h => by cases h; exact ⟨rfl, rfl⟩
 | s :: r, l, h => by
  rw [qz] at h
  cases hs : unwR s with
  | none => rw [hs] at h; cases h
  | some w =>
   rw [hs] at h
   simp only at h
   cases hr : qz r with
   | none => rw [hr] at h; cases h
   | some l' =>
    rw [hr] at h
    cases h
    have ih := zp4 hr
    have hw := zbt w
    rw [zlz hs] at hw
    simp only [List.length_cons, List.map_cons, List.sum_cons, ih.1, ih.2, hw]
    exact ⟨trivial, trivial⟩
theorem zil (c : UInt8) : ∀ s : Bs, ((ze c s).map fun x => x.length + 1).sum = s.length + 1
 | [] => by simp [ze]
 | a :: s => by
  have ih := zil c s
  rw [ze]
  split
  ·simp [ih]; omega
  ·cases hq : ze c s with
   | nil => exact absurd hq (zcu c s)
   | cons y r =>
    rw [hq] at ih
    simp only [List.map_cons, List.sum_cons, List.length_cons] at ih ⊢
    omega
theorem zq4 : decP [] = ([], 0) := by simp [decP, ze, ji]
end V
open Go.RowKit
namespace V
structure Aff where
 sch : Int
 name : Bs
 rs : Int
 its : List Itv
structure Adv where
 id : Bs
 rev : Int
 sev : Int
 aff : List Aff
def zA : Aff := ⟨0, [], 0, []⟩
def zV : Adv := ⟨[], 0, 0, []⟩
def affC (a b : Aff) : Int := orI [Lib.compareInt a.sch b.sch, Lib.compareBytes a.name b.name]
def rngOk (n : Int) (r : Int) (l : List Itv) : Bool := decide (r = n) && (decide (1 ≤ l.length) && okR r l)
def kr (a : Aff) : Bool := yn a.name && rngOk a.sch a.rs a.its
def zbx (l : List Aff) (i : Nat) (a : Aff) : Bool := (decide (i = 0) || decide (affC (l.getD (i - 1) zA) a < 0)) && kr a
def vd (l : List Aff) : Nat → Bool
 | 0 => true
 | k + 1 => vd l k && match l[k]? with | some a => zbx l k a | none => true
def zf7 (id : Bs) (rev sev : Int) (n : Nat) : Bool := zab id && (decide (1 ≤ rev) && (decide (rev ≤ 1099511627776) && (decide (1 ≤ sev) && (decide (sev ≤ 10) && decide (n ≤ 16)))))
def jk (x : Adv) : Bool := zf7 x.id x.rev x.sev x.aff.length && vd x.aff x.aff.length
theorem zct {l : List Aff} {k : Nat} (h : k < l.length) : vd l (k + 1) = (vd l k && zbx l k l[k]) := by
 show (vd l k && match l[k]? with | some a => zbx l k a | none => true) = _
 rw [List.getElem?_eq_getElem h]
theorem zg3 {l : List Aff} : ∀ {m k : Nat}, k ≤ m → vd l k = false → vd l m = false
 | 0, k, h, e => by obtain rfl : k = 0 := by omega
                    exact e
 | m + 1, k, h, e => by
  by_cases hk : k = m + 1
  ·subst hk; exact e
  ·have := zg3 (m := m) (by omega) e
   show (vd l m && _) = false
   rw [this]; rfl
theorem affTo_no {l : List Aff} {k : Nat} (h : k < l.length) (ha : zbx l k l[k] = false) : vd l l.length = false :=
 zg3 (k := k + 1) (by omega) (by rw [zct h, ha, Bool.and_false])
theorem zjs {l : List Aff} : ∀ {m : Nat}, vd l m = true → ∀ k (hk : k < l.length), k < m → zbx l k l[k] = true
 | 0, _, k, _, h => absurd h (Nat.not_lt_zero _)
 | m + 1, h, k, hk, hm => by
  by_cases hml : m < l.length
  ·rw [zct hml, Bool.and_eq_true] at h
   by_cases e : k = m
   ·subst e; exact h.2
   ·exact zjs h.1 k hk (by omega)
  ·have h2 : (vd l m && match l[m]? with | some a => zbx l m a | none => true) = true := h
   rw [Bool.and_eq_true] at h2
   exact zjs h2.1 k hk (by omega)
structure AdvP (x : Adv) : Prop where
 id : zab x.id = true
 rev0 : 1 ≤ x.rev
 rev1 : x.rev ≤ 1099511627776
 sev0 : 1 ≤ x.sev
 sev1 : x.sev ≤ 10
 len : x.aff.length ≤ 16
 all : vd x.aff x.aff.length = true
theorem xm {x : Adv} (h : jk x = true) : AdvP x := by
 unfold jk zf7 at h
 simp only [Bool.and_eq_true, decide_eq_true_eq] at h
 exact ⟨h.1.1, h.1.2.1, h.1.2.2.1, h.1.2.2.2.1, h.1.2.2.2.2.1, h.1.2.2.2.2.2, h.2⟩
theorem AdvP.sound {x : Adv} (h : AdvP x) {a : Aff} (ha : a ∈ x.aff) : kr a = true := by
 obtain ⟨k, hk, rfl⟩ := List.mem_iff_getElem.1 ha
 have := zjs h.all k hk hk
 unfold zbx at this
 rw [Bool.and_eq_true] at this
 exact this.2
theorem xw {a : Aff} (h : kr a = true) : yn a.name = true ∧ a.rs = a.sch ∧ 1 ≤ a.its.length ∧ okR a.sch a.its = true := by
 unfold kr rngOk at h
 simp only [Bool.and_eq_true, decide_eq_true_eq] at h
 exact ⟨h.1, h.2.1, h.2.2.1, by have := h.2.2.2; rwa [h.2.1] at this⟩
theorem okR_sch {n : Int} {l : List Itv} (h : okR n l = true) : n = 1 ∨ n = 2 ∨ n = 3 := by
 have := (vl h).sch
 unfold scheme at this
 simp only [Bool.or_eq_true, beq_iff_eq] at this
 omega
theorem ze4 {s : Bs} (h : yn s = true) : s.length ≤ 200 := by
 unfold yn at h
 simp only [Bool.and_eq_true, decide_eq_true_eq] at h
 exact h.1.1.2
def advW : Bs := [97, 100, 118, 105, 115, 111, 114, 121]
def affW : Bs := [97, 102, 102, 101, 99, 116, 115]
def xf (x : Adv) : List Bs := [advW, x.id, Lib.decDigits x.rev.toNat, Lib.decDigits x.sev.toNat]
def ya (a : Aff) : List Bs := [affW, qo a.sch, a.name, vg a.its]
def js (x : Adv) (k : Nat) : List (List Bs) := xf x :: (x.aff.take k).map ya
theorem zlh {x : Adv} {k : Nat} (h : k < x.aff.length) : js x (k + 1) = js x k ++ [ya x.aff[k]] := by
 unfold js
 rw [List.take_succ_eq_append_getElem h, List.map_append]
 rfl
def qk (x : Adv) : List (List Bs) := js x x.aff.length
def encV (x : Adv) : Bs × Int := if jk x = true then (if encE (qk x) = 0 then (doc (qk x), 0) else ([], encE (qk x))) else ([], 1)
end V
end Go.Proofs.YtnhfaincdabdkaaGreatDoor
namespace Go.Proofs.YtnhfaincdabdkaaGreatDoor.V
def EcOk (n : Int) (x : Ec) : Prop := x = ebot ∨ x = etop ∨ ∃ c : Cut, valid n c.1 = true ∧ x = eat c
theorem zao {n : Int} {x : Itv} (h : zk n x = true) : EcOk n (eLow x) := by
 by_cases hk : x.lk = 0
 ·exact .inl (zbi hk)
 ·exact .inr (.inr ⟨x.low, xn h hk, zav h hk⟩)
theorem za1 {n : Int} {x : Itv} (h : zk n x = true) : EcOk n (kk x) := by
 by_cases hk : x.hk = 0
 ·exact .inr (.inl (wm hk))
 ·exact .inr (.inr ⟨x.high, je h hk, um h hk⟩)
theorem zqj {n : Int} {x : Itv} (h : zk n x = true) : decide (ecmp n (eLow x) (kk x) < 0) = yd n x := by
 unfold yd
 by_cases h1 : x.lk = 0
 ·rw [zbi h1, decide_eq_true h1, Bool.true_or]
  refine decide_eq_true ?_
  by_cases h2 : x.hk = 0
  ·rw [wm h2]; unfold ecmp ebot etop; simp
  ·rw [um h h2]; unfold ecmp ebot eat; simp
 ·rw [decide_eq_false h1, Bool.false_or]
  by_cases h2 : x.hk = 0
  ·rw [decide_eq_true h2, Bool.true_or, zav h h1, wm h2]
   exact decide_eq_true (by unfold ecmp eat etop; simp)
  ·rw [decide_eq_false h2, Bool.false_or, zav h h1, um h h2, zd2]
theorem zto {n : Int} {y x : Itv} (hy : zk n y = true) (hx : zk n x = true) : decide (ecmp n (kk y) (eLow x) < 0) = ut n y x := by
 unfold ut
 by_cases h1 : y.hk = 0
 ·rw [wm h1, decide_eq_true h1]
  refine decide_eq_false ?_
  by_cases h2 : x.lk = 0
  ·rw [zbi h2]; unfold ecmp etop ebot; simp
  ·rw [zav hx h2]; unfold ecmp etop eat; simp
 ·rw [decide_eq_false h1]
  by_cases h2 : x.lk = 0
  ·rw [decide_eq_true h2, um hy h1, zbi h2]
   exact decide_eq_false (by unfold ecmp eat ebot; simp)
  ·rw [decide_eq_false h2, um hy h1, zav hx h2, zd2]
   rfl
end Go.Proofs.YtnhfaincdabdkaaGreatDoor.V
namespace Go.Proofs.YtnhfaincdabdkaaGreatDoor.V
theorem zid {n : Int} {x : Ec} (hx : EcOk n x) : ∀ {l : List Ec}, (∀ y ∈ l, EcOk n y) → ∀ y ∈ radd n x l, EcOk n y
 | [], _, y, hy => by
  rw [radd] at hy
  rw [List.mem_singleton.1 hy]; exact hx
 | z :: l, h, y, hy => by
  have ih := zid hx (l := l) (fun y hy => h y (by simp [hy]))
  unfold radd at hy
  split at hy
  ·rcases List.mem_cons.1 hy with rfl | hy
   ·exact h _ (by simp)
   ·exact ih y hy
  ·split at hy
   ·rcases List.mem_cons.1 hy with rfl | hy
    ·split
     ·exact h _ (by simp)
     ·exact hx
    ·exact h y (by simp [hy])
   ·rcases List.mem_cons.1 hy with rfl | hy
    ·exact hx
    ·exact h y hy
theorem zbz (n : Int) (x : Ec) : ∀ l : List Ec, (radd n x l).length ≤ l.length + 1 ∧ 0 < (radd n x l).length
 | [] => by simp [radd]
 | z :: l => by
  have ih := zbz n x l
  unfold radd
  split
  ·simp; omega
  ·split
   ·simp
   ·simp
theorem addI_ok {n : Int} {x : Itv} (hx : zk n x = true) {l : List Ec} (h : ∀ y ∈ l, EcOk n y) : ∀ y ∈ addI n l x, EcOk n y :=
 zid (za1 hx) (zid (zao hx) h)
theorem addI_len (n : Int) (l : List Ec) (x : Itv) : (addI n l x).length ≤ l.length + 2 := by
 have h1 := (zbz n (eLow x) l).1
 have h2 := (zbz n (kk x) (radd n (eLow x) l)).1
 unfold addI
 omega
theorem zn9 {n : Int} : ∀ {m : List Itv} {l : List Ec}, (∀ x ∈ m, zk n x = true) → (∀ y ∈ l, EcOk n y) → ∀ y ∈ m.foldl (addI n) l, EcOk n y
 | [], _, _, h => h
 | x :: m, l, hm, h => zn9 (m := m) (fun z hz => hm z (by simp [hz])) (addI_ok (hm x (by simp)) h)
theorem zkn (n : Int) : ∀ (m : List Itv) (l : List Ec), (m.foldl (addI n) l).length ≤ l.length + 2 * m.length
 | [], l => by simp
 | x :: m, l => by
  have h1 := zkn n m (addI n l x)
  have h2 := addI_len n l x
  rw [List.foldl_cons, List.length_cons]
  omega
theorem zj5 (n : Int) : ∀ (m : List Itv) (l : List Ec), 0 < l.length → 0 < (m.foldl (addI n) l).length
 | [], _l, h => h
 | x :: m, l, _h => zj5 n m (addI n l x) (zbz n _ _).2
theorem ztj {n : Int} {m : List Itv} {k : Nat} (l : List Ec) (h : k < m.length) : (m.take (k + 1)).foldl (addI n) l = radd n (kk m[k]) (radd n (eLow m[k]) ((m.take k).foldl (addI n) l)) := by
 rw [List.take_succ_eq_append_getElem h, List.foldl_append]
 rfl
theorem ends_ok (n : Int) : ∀ y ∈ [ebot, etop], EcOk n y := by
 intro y hy
 simp at hy
 rcases hy with rfl | rfl
 ·exact .inl rfl
 ·exact .inr (.inl rfl)
theorem EcOk.side {n : Int} {x : Ec} (h : EcOk n x) : 0 ≤ x.s ∧ x.s ≤ 1 := by
 rcases h with rfl | rfl | ⟨c, _, rfl⟩
 ·simp [ebot]
 ·simp [etop]
 ·unfold eat; split <;> simp
theorem _root_.Go.Proofs.YtnhfaincdabdkaaGreatDoor.zw6 {P : Prop} (h : P := by
 rw [List.drop_eq_getElem_cons (by omega : i < C.length), List.drop_eq_getElem_cons hi]
 rw [rrun]
 simp [hn]) : P := h
theorem ztg {h : Ec → Ec → Bool} {C : List Ec} {i : Nat} (hi : i + 1 < C.length) (hn : h C[i] C[i + 1] = false) : rrun h none (C.drop i) = rrun h none (C.drop (i + 1)) := by
 exact zw6
theorem zte {h : Ec → Ec → Bool} {C : List Ec} {i : Nat} (hi : i + 1 < C.length) (hn : h C[i] C[i + 1] = true) : rrun h none (C.drop i) = rrun h (some C[i]) (C.drop (i + 1)) := by
 exact zw6
theorem rrun_on {h : Ec → Ec → Bool} {C : List Ec} {i : Nat} {f : Ec} (hi : i + 1 < C.length) (hn : h C[i] C[i + 1] = true) : rrun h (some f) (C.drop i) = rrun h (some f) (C.drop (i + 1)) := by
 exact zw6
theorem rrun_end {h : Ec → Ec → Bool} {C : List Ec} {i : Nat} (hi : ¬ i + 1 < C.length) : rrun h none (C.drop i) = [] := by
 have hl : (C.drop i).length ≤ 1 := by rw [List.length_drop]; omega
 rcases hd : C.drop i with _ | ⟨e, _ | ⟨e', l⟩⟩
 ·rfl
 ·rfl
 ·rw [hd] at hl; simp at hl
theorem zqx {h : Ec → Ec → Bool} {C : List Ec} {i : Nat} {f : Ec} (hi : i < C.length) (hn : ∀ hj : i + 1 < C.length, h C[i] C[i + 1] = false) : rrun h (some f) (C.drop i) = btw f C[i] :: rrun h none (C.drop i) := by
 by_cases hj : i + 1 < C.length
 ·have := hn hj
  rw [List.drop_eq_getElem_cons hi, List.drop_eq_getElem_cons hj, rrun, rrun]
  simp [this]
 ·rw [List.drop_eq_getElem_cons hi, List.drop_eq_nil_of_le (by omega), rrun, rrun]
end Go.Proofs.YtnhfaincdabdkaaGreatDoor.V
namespace Go.Proofs.YtnhfaincdabdkaaGreatDoor
open Go.RowKit
namespace V
def pkC (p q : Int × Bs) : Int := orI [Lib.compareInt p.1 q.1, Lib.compareBytes p.2 q.2]
theorem pkC_lt {p q : Int × Bs} : pkC p q < 0 ↔ p.1 < q.1 ∨ p.1 = q.1 ∧ cb p.2 q.2 < 0 := by
 have : pkC p q = cor (Lib.compareInt p.1 q.1) (cb p.2 q.2) := by
  show cor _ (cor _ 0) = _
  rw [zb4]
 rw [this]
 unfold Lib.compareInt cor
 repeat' split
 all_goals (first | omega | (simp_all; done) | (simp at *; omega))
theorem ztp {p q r : Int × Bs} (h : pkC p q < 0) (g : pkC q r < 0) : pkC p r < 0 := by
 rw [pkC_lt] at *
 rcases h with h | ⟨h, h2⟩
 ·rcases g with g | ⟨g, g2⟩
  ·exact .inl (by omega)
  ·exact .inl (by omega)
 ·rcases g with g | ⟨g, g2⟩
  ·exact .inl (by omega)
  ·refine .inr ⟨by omega, ?_⟩
   have h3 := ww p.2 q.2 r.2 (by omega) (by omega)
   by_cases e : cb p.2 r.2 = 0
   ·have e2 := zj7 e
    rw [e2] at h2
    rw [kg r.2 q.2] at g2
    omega
   ·omega
theorem pkC_tri {p q : Int × Bs} (h : ¬ pkC p q < 0) (hne : ¬ q = p) : pkC q p < 0 := by
 rw [pkC_lt] at *
 by_cases h1 : q.1 < p.1
 ·exact .inl h1
 ·have h2 : q.1 = p.1 := by
   by_cases h3 : p.1 < q.1
   ·exact absurd (.inl h3) h
   ·omega
  refine .inr ⟨h2, ?_⟩
  have h4 := kg p.2 q.2
  have h5 : ¬ cb p.2 q.2 < 0 := fun e => h (.inr ⟨h2.symm, e⟩)
  by_cases h6 : cb p.2 q.2 = 0
  ·exact absurd (Prod.ext h2 (zj7 h6).symm) hne
  ·rw [h4]; omega
def Asc (l : List (Int × Bs)) : Prop := l.Pairwise fun a b => pkC a b < 0
def kd (p : Int × Bs) (l : List (Int × Bs)) : Nat → List (Int × Bs) × Bool
 | 0 => ([], false)
 | k + 1 => match l[k]? with
  | none => kd p l k
  | some x => ((if (kd p l k).2 = false ∧ pkC p x < 0 then (kd p l k).1 ++ [p] else (kd p l k).1) ++ [x], (kd p l k).2 || decide (pkC p x < 0) || decide (x = p))
def addP (p : Int × Bs) (l : List (Int × Bs)) : List (Int × Bs) := if (kd p l l.length).2 = true then (kd p l l.length).1 else (kd p l l.length).1 ++ [p]
theorem zcd {p : Int × Bs} {l : List (Int × Bs)} {k : Nat} (h : k < l.length) : kd p l (k + 1) = ((if (kd p l k).2 = false ∧ pkC p l[k] < 0 then (kd p l k).1 ++ [p] else (kd p l k).1) ++ [l[k]], (kd p l k).2 || decide (pkC p l[k] < 0) || decide (l[k] = p)) := by
 rw [kd, List.getElem?_eq_getElem h]
theorem zmm {p : Int × Bs} {l : List (Int × Bs)} (hl : Asc l) : ∀ k, k ≤ l.length → ((kd p l k).2 = true ∧ Asc ((kd p l k).1 ++ l.drop k)) ∨ ((kd p l k).2 = false ∧ (kd p l k).1 = l.take k ∧ ∀ x ∈ l.take k, pkC x p < 0)
 | 0, _ => .inr ⟨rfl, rfl, fun x hx => by simp at hx⟩
 | k + 1, hk => by
  have hlt : k < l.length := by omega
  have hd := List.drop_eq_getElem_cons hlt
  have ht : l.take (k + 1) = l.take k ++ [l[k]] := List.take_succ_eq_append_getElem hlt
  have hsplit : l = l.take k ++ l[k] :: l.drop (k + 1) := by rw [← hd, List.take_append_drop]
  rcases zmm hl k (by omega) with ⟨h1, h2⟩ | ⟨h1, h2, h3⟩
  ·left
   rw [zcd hlt, h1]
   refine ⟨by simp, ?_⟩
   rw [if_neg (by simp)]
   rw [hd] at h2
   simpa using h2
  ·rw [zcd hlt, h1, h2]
   by_cases hp : pkC p l[k] < 0
   ·left
    refine ⟨by simp [hp], ?_⟩
    rw [if_pos ⟨rfl, hp⟩]
    have hl2 := hl
    unfold Asc at hl2 ⊢
    rw [hsplit, List.pairwise_append, List.pairwise_cons] at hl2
    obtain ⟨a1, ⟨a2, a3⟩, a4⟩ := hl2
    have e : l.take k ++ [p] ++ [l[k]] ++ l.drop (k + 1) = l.take k ++ (p :: l[k] :: l.drop (k + 1)) := by simp
    rw [show ((l.take k ++ [p] ++ [l[k]], false || decide (pkC p l[k] < 0) || decide (l[k] = p)) : List (Int × Bs) × Bool).1 = l.take k ++ [p] ++ [l[k]] from rfl, e, List.pairwise_append, List.pairwise_cons, List.pairwise_cons]
    refine ⟨a1, ⟨fun y hy => ?_, a2, a3⟩, fun x hx y hy => ?_⟩
    ·rcases List.mem_cons.1 hy with rfl | hy
     ·exact hp
     ·exact ztp hp (a2 y hy)
    ·rcases List.mem_cons.1 hy with rfl | hy
     ·exact h3 x hx
     ·exact a4 x hx y hy
   ·rw [if_neg (fun e => hp e.2)]
    by_cases he : l[k] = p
    ·left
     refine ⟨by simp [he], ?_⟩
     show Asc (l.take k ++ [l[k]] ++ l.drop (k + 1))
     rw [List.append_assoc, List.singleton_append, ← hsplit]
     exact hl
    ·right
     refine ⟨by simp [hp, he], ht.symm, fun x hx => ?_⟩
     rw [ht] at hx
     rcases List.mem_append.1 hx with hx | hx
     ·exact h3 x hx
     ·rw [List.mem_singleton.1 hx]
      exact pkC_tri hp he
theorem addP_asc {p : Int × Bs} {l : List (Int × Bs)} (hl : Asc l) : Asc (addP p l) := by
 unfold addP
 rcases zmm (p := p) hl l.length (Nat.le_refl _) with ⟨h1, h2⟩ | ⟨h1, h2, h3⟩
 ·rw [if_pos h1]
  simpa using h2
 ·rw [if_neg (by rw [h1]; decide), h2, List.take_length]
  rw [List.take_length] at h3
  unfold Asc at hl ⊢
  rw [List.pairwise_append]
  exact ⟨hl, List.pairwise_singleton _ _, fun x hx y hy => by rw [List.mem_singleton.1 hy]; exact h3 x hx⟩
theorem zel {p : Int × Bs} {l : List (Int × Bs)} : ∀ k, k ≤ l.length → (∀ x ∈ (kd p l k).1, x ∈ l ∨ x = p) ∧ (kd p l k).1.length ≤ k + 1 ∧ ((kd p l k).2 = false → (kd p l k).1.length = k)
 | 0, _ => ⟨fun x hx => by simp [kd] at hx, by simp [kd], fun _ => rfl⟩
 | k + 1, hk => by
  have hlt : k < l.length := by omega
  obtain ⟨h1, h2, h3⟩ := zel (p := p) (l := l) k (by omega)
  rw [zcd hlt]
  by_cases hc : (kd p l k).2 = false ∧ pkC p l[k] < 0
  ·rw [if_pos hc]
   refine ⟨fun x hx => ?_, by simp; have := h3 hc.1; omega, fun e => by simp [hc.2] at e⟩
   rcases List.mem_append.1 hx with hx | hx
   ·rcases List.mem_append.1 hx with hx | hx
    ·exact h1 x hx
    ·exact .inr (List.mem_singleton.1 hx)
   ·rw [List.mem_singleton.1 hx]; exact .inl (List.getElem_mem hlt)
  ·rw [if_neg hc]
   refine ⟨fun x hx => ?_, by simp; omega, fun e => ?_⟩
   ·rcases List.mem_append.1 hx with hx | hx
    ·exact h1 x hx
    ·rw [List.mem_singleton.1 hx]; exact .inl (List.getElem_mem hlt)
   ·have h4 : (kd p l k).2 = false := by
     cases h : (kd p l k).2
     ·rfl
     ·rw [h] at e; simp at e
    simp [h3 h4]
theorem addP_mem {p : Int × Bs} {l : List (Int × Bs)} {x : Int × Bs} (h : x ∈ addP p l) : x ∈ l ∨ x = p := by
 obtain ⟨h1, _, _⟩ := zel (p := p) (l := l) l.length (Nat.le_refl _)
 unfold addP at h
 split at h
 ·exact h1 x h
 ·rcases List.mem_append.1 h with h | h
  ·exact h1 x h
  ·exact .inr (List.mem_singleton.1 h)
theorem addP_len {p : Int × Bs} {l : List (Int × Bs)} : (addP p l).length ≤ l.length + 1 := by
 obtain ⟨_, h2, h3⟩ := zel (p := p) (l := l) l.length (Nat.le_refl _)
 unfold addP
 split
 ·exact h2
 ·rename_i h
  rw [List.length_append, h3 (by simpa using h)]
  exact Nat.le_refl _
def pk (a : Aff) : Int × Bs := (a.sch, a.name)
theorem zk1 {l : List Aff} : ∀ {m : Nat}, (∀ k (hk : k < l.length), k < m → zbx l k l[k] = true) → vd l m = true
 | 0, _ => rfl
 | m + 1, h => by
  by_cases hm : m < l.length
  ·rw [zct hm, zk1 (fun k hk hkm => h k hk (by omega)), h m hm (Nat.lt_succ_self m)]
   rfl
  ·show (vd l m && match l[m]? with | some a => zbx l m a | none => true) = true
   rw [zk1 (fun k hk hkm => h k hk (by omega)), List.getElem?_eq_none (by omega)]
   rfl
theorem ztl {l : List Aff} (hs : ∀ a ∈ l, kr a = true) (ha : Asc (l.map pk)) : vd l l.length = true := by
 refine zk1 (fun k hk _ => ?_)
 unfold zbx
 rw [hs _ (List.getElem_mem hk), Bool.and_true]
 by_cases h0 : k = 0
 ·simp [h0]
 ·have h1 : k - 1 < l.length := by omega
  have h2 := (List.pairwise_iff_getElem.1 ha) (k - 1) k (by simpa using h1) (by simpa using hk) (by omega)
  rw [List.getElem_map, List.getElem_map] at h2
  have h3 : affC l[k - 1] l[k] < 0 := h2
  rw [List.getD_eq_getElem?_getD, List.getElem?_eq_getElem h1]
  simp [h3]
structure MadeV (x : Adv) : Prop where
 id : zab x.id = true
 idl : x.id.length ≤ 100
 rev0 : 1 ≤ x.rev
 rev1 : x.rev ≤ 3
 sev0 : 1 ≤ x.sev
 sev1 : x.sev ≤ 10
 len : x.aff.length ≤ 3
 snd : ∀ a ∈ x.aff, kr a = true
 asc : Asc (x.aff.map pk)
def zij : List Bs := [[119, 45, 49], [119, 45, 50], [119, 45, 51]]
theorem madeId {s : Bs} (h : s ∈ zij) : zab s = true ∧ s.length ≤ 100 := by
 simp only [zij, List.mem_cons, List.not_mem_nil, or_false] at h
 rcases h with e | e | e <;> (rw [e]; decide)
theorem MadeV.ok {x : Adv} (h : MadeV x) : jk x = true := by
 unfold jk zf7
 have h1 := h.id
 have := h.rev0; have := h.rev1; have := h.sev0; have := h.sev1; have := h.len
 rw [h1, ztl h.snd h.asc]
 simp only [Bool.true_and, Bool.and_true, Bool.and_eq_true, decide_eq_true_eq]
 omega
theorem zmg {n : Int} {l : List Itv} (h : Ok n l) (h0 : l ≠ []) : (vg l).length ≤ 10000 := by
 rcases l with _ | ⟨x, r⟩
 ·exact absurd rfl h0
 ·have hle : ∀ y ∈ qd x :: r.map qd, y.length ≤ 133 := by
   intro y hy
   rw [← List.map_cons (f := qd), List.mem_map] at hy
   obtain ⟨z, hz, rfl⟩ := hy
   exact (zgl (zoj h hz)).len
  have h1 := zny hle
  have h2 := h.len
  rw [List.length_map] at h1
  rw [List.length_cons] at h2
  show (Lib.join (qd x :: r.map qd) orT).length ≤ _
  omega
theorem zp6 {ls : List (List Bs)} {b : Nat} (h : ∀ l ∈ ls, kf l l.length ≤ b) : ku ls ls.length ≤ ls.length * b := by
 unfold ku
 rw [List.take_length]
 induction ls with
 | nil => simp
 | cons l ls ih =>
  have h2 := h l (List.mem_cons_self ..)
  have h3 := ih (fun x hx => h x (List.mem_cons_of_mem _ hx))
  simp only [List.map_cons, List.sum_cons, List.length_cons]
  rw [Nat.add_mul, Nat.one_mul]
  omega
theorem zat (n : Nat) (h : n < 11) : (Lib.decDigits n).length ≤ 2 := by
 have h : n = 0 ∨ n = 1 ∨ n = 2 ∨ n = 3 ∨ n = 4 ∨ n = 5 ∨ n = 6 ∨ n = 7 ∨ n = 8 ∨ n = 9 ∨ n = 10 := by omega
 rcases h with rfl | rfl | rfl | rfl | rfl | rfl | rfl | rfl | rfl | rfl | rfl <;> (unfold Lib.decDigits; simp [Lib.decDigits])
theorem MadeV.words {x : Adv} (h : MadeV x) : ∀ l ∈ qk x, l.length = 4 ∧ ∀ w ∈ l, w.length ≤ 10000 := by
 intro l hl
 unfold qk js at hl
 rw [List.take_length] at hl
 rcases List.mem_cons.1 hl with rfl | hl
 ·refine ⟨rfl, fun w hw => ?_⟩
  have := h.rev0; have := h.rev1; have := h.sev0; have := h.sev1
  simp only [xf, List.mem_cons, List.not_mem_nil, or_false] at hw
  rcases hw with rfl | rfl | rfl | rfl
  ·decide
  ·have := h.idl; omega
  ·have := zat x.rev.toNat (by omega); omega
  ·have := zat x.sev.toNat (by omega); omega
 ·obtain ⟨a, ha, rfl⟩ := List.mem_map.1 hl
  obtain ⟨h1, h2, h3, h4⟩ := xw (h.snd a ha)
  refine ⟨rfl, fun w hw => ?_⟩
  simp only [ya, List.mem_cons, List.not_mem_nil, or_false] at hw
  rcases hw with rfl | rfl | rfl | rfl
  ·decide
  ·have := zdu a.sch; omega
  ·have := ze4 h1; omega
  ·exact zmg (vl h4) (fun e => by rw [e] at h3; simp at h3)
theorem zs4 (a b c d : Bs) : kf [a, b, c, d] [a, b, c, d].length ≤ 3 * (a.length + b.length + c.length + d.length) + 8 := by
 have h1 := wn a; have h2 := wn b; have h3 := wn c; have h4 := wn d
 unfold kf
 simp only [List.length_cons, List.length_nil, List.take_succ_cons, List.take_zero, List.map_cons, List.map_nil, List.sum_cons, List.sum_nil]
 omega
theorem MadeV.line {x : Adv} (h : MadeV x) : ∀ l ∈ qk x, kf l l.length ≤ 31000 := by
 intro l hl
 unfold qk js at hl
 rw [List.take_length] at hl
 rcases List.mem_cons.1 hl with rfl | hl
 ·have := h.rev0; have := h.rev1; have := h.sev0; have := h.sev1
  have h1 := h.idl
  have h2 := zat x.rev.toNat (by omega)
  have h3 := zat x.sev.toNat (by omega)
  have h4 := zs4 advW x.id (Lib.decDigits x.rev.toNat) (Lib.decDigits x.sev.toNat)
  have h5 : advW.length = 8 := rfl
  unfold xf
  omega
 ·obtain ⟨a, ha, rfl⟩ := List.mem_map.1 hl
  obtain ⟨h1, h2, h3, h4⟩ := xw (h.snd a ha)
  have h5 := zs4 affW (qo a.sch) a.name (vg a.its)
  have h6 := zdu a.sch
  have h7 := ze4 h1
  have h8 := zmg (vl h4) (fun e => by rw [e] at h3; simp at h3)
  have h9 : affW.length = 7 := rfl
  unfold ya
  omega
theorem MadeV.enc {x : Adv} (h : MadeV x) : encE (qk x) = 0 := by
 have hw := h.words
 have hlen : (qk x).length ≤ 4 := by
  unfold qk js
  rw [List.take_length, List.length_cons, List.length_map]
  have := h.len
  omega
 have hb : qb (qk x) = 0 := yq.2 (fun l hl => by
   obtain ⟨h1, h2⟩ := hw l hl
   exact zdv.2 ⟨by omega, by omega, fun w hx => by have := h2 w hx; omega⟩)
 unfold encE
 rw [if_neg (by omega), if_pos hb, if_neg]
 have h1 := zp6 (ls := qk x) (b := 31000) (fun l hl => h.line l hl)
 have : (qk x).length * 31000 ≤ 4 * 31000 := Nat.mul_le_mul_right _ hlen
 omega
theorem MadeV.encV {x : Adv} (h : MadeV x) : V.encV x = (doc (qk x), 0) := by
 unfold V.encV
 rw [if_pos h.ok, if_pos h.enc]
end V
end Go.Proofs.YtnhfaincdabdkaaGreatDoor
