/-
  Lemmas for the law.
-/
import Derived.Test.YtnhfaincdabdkaaGreatDoorC37x01
import Derived.Test.YtnhfaincdabdkaaGreatDoorC37x07
import Derived.Test.YtnhfaincdabdkaaGreatDoorC37x06
import Derived.Test.YtnhfaincdabdkaaGreatDoorC37x04
import Derived.Lib.ItoaNum
set_option linter.all false
namespace Go.Proofs.YtnhfaincdabdkaaGreatDoor
open Go.RowKit
namespace V
def qz (c : UInt8) : Bool := decide (33 ≤ c.toNat) && (decide (c.toNat ≤ 125) && !decide (c.toNat = 37))
def digU : Bs := [48, 49, 50, 51, 52, 53, 54, 55, 56, 57, 65, 66, 67, 68, 69, 70]
def encB (c : UInt8) : Bs := if qz c = true then [c] else [37, digU.getD (c.toNat / 16) 0, digU.getD (c.toNat % 16) 0]
def word (w : Bs) : Bs := if w.isEmpty then [126] else w.flatMap encB
def xu (c : UInt8) : Nat := if qz c = true then 1 else 3
def uk (w : Bs) : Nat := max ((w.map xu).sum) 1
theorem encB_len (c : UInt8) : (encB c).length = xu c := by unfold encB xu; split <;> rfl
theorem zs2 (c : UInt8) : 1 ≤ xu c := by unfold xu; split <;> omega
theorem sizeC_le (c : UInt8) : xu c ≤ 3 := by unfold xu; split <;> omega
theorem zhi : ∀ w : Bs, (w.flatMap encB).length = (w.map xu).sum
 | [] => rfl
 | c :: w => by rw [List.flatMap_cons, List.length_append, encB_len, zhi w, List.map_cons, List.sum_cons]
theorem sum_le (w : Bs) : (w.map xu).sum ≤ 3 * w.length := by
 induction w with
 | nil => simp
 | cons c w ih => rw [List.map_cons, List.sum_cons, List.length_cons]; have := sizeC_le c; omega
theorem le_sum (w : Bs) : w.length ≤ (w.map xu).sum := by
 induction w with
 | nil => simp
 | cons c w ih => rw [List.map_cons, List.sum_cons, List.length_cons]; have := zs2 c; omega
theorem yz (w : Bs) : (word w).length = uk w := by
 unfold word uk
 cases w with
 | nil => rfl
 | cons c r =>
  rw [List.isEmpty_cons, if_neg (by decide), zhi]
  have := le_sum (c :: r)
  rw [List.length_cons] at this
  omega
theorem kt (w : Bs) : uk w ≤ 3 * w.length + 1 := by
 unfold uk
 have := sum_le w
 omega
def jc (l : List Bs) (k : Nat) : Bs := (List.range k).flatMap fun i => (if i = 0 then [] else [32]) ++ word (l.getD i [])
def line (l : List Bs) : Bs := jc l l.length ++ [10]
def zak (ls : List (List Bs)) (k : Nat) : Bs := (ls.take k).flatMap line
def doc (ls : List (List Bs)) : Bs := ls.flatMap line
def jk (l : List Bs) (k : Nat) : Nat := ((l.take k).map fun w => uk w + 1).sum
def jo (ls : List (List Bs)) (k : Nat) : Nat := ((ls.take k).map fun l => jk l l.length).sum
theorem vj (l : List Bs) (k : Nat) : jc l (k + 1) = jc l k ++ ((if k = 0 then [] else [32]) ++ word (l.getD k [])) := by
 unfold jc
 rw [List.range_succ, List.flatMap_append]
 simp
theorem _root_.Go.Proofs.YtnhfaincdabdkaaGreatDoor.zw1 {P : Prop} (h : P := by
 rw [List.take_succ_eq_append_getElem h, List.map_append, List.sum_append]
 simp) : P := h
theorem zat {l : List Bs} {k : Nat} (h : k < l.length) : jk l (k + 1) = jk l k + (uk l[k] + 1) := by
 unfold jk
 exact zw1
theorem zbk {ls : List (List Bs)} {k : Nat} (h : k < ls.length) : zak ls (k + 1) = zak ls k ++ line ls[k] := by
 unfold zak
 rw [List.take_succ_eq_append_getElem h, List.flatMap_append]
 simp
theorem xf {ls : List (List Bs)} {k : Nat} (h : k < ls.length) : jo ls (k + 1) = jo ls k + jk ls[k] ls[k].length := by
 unfold jo
 exact zw1
theorem zc5 (ls : List (List Bs)) : zak ls ls.length = doc ls := by unfold zak doc; rw [List.take_length]
theorem zab {l : List Bs} : ∀ k, k ≤ l.length → (jc l k).length + 1 ≤ jk l k + 1 ∧ (0 < k → (jc l k).length + 1 = jk l k)
 | 0, _ => ⟨by simp [jc, jk], fun h => by omega⟩
 | k + 1, h => by
  have ih := zab (l := l) k (by omega)
  rw [vj, zat (by omega), List.length_append, List.length_append, yz, List.getD_eq_getElem?_getD, List.getElem?_eq_getElem (by omega)]
  simp only [Option.getD_some]
  by_cases hk : k = 0
  ·subst hk
   have : (jc l 0).length = 0 := rfl
   have h2 : jk l 0 = 0 := rfl
   simp
   omega
  ·have := ih.2 (by omega)
   rw [if_neg hk, List.length_singleton]
   omega
theorem zel {l : List Bs} (h : 0 < l.length) : (line l).length = jk l l.length := by
 unfold line
 rw [List.length_append, List.length_singleton]
 exact (zab l.length (Nat.le_refl _)).2 h
theorem zaa {l : List Bs} {j k : Nat} (h : j ≤ k) (hk : k ≤ l.length) : jk l j ≤ jk l k := by
 induction k with
 | zero => obtain rfl : j = 0 := by omega
           exact Nat.le_refl _
 | succ k ih =>
  rcases Nat.lt_or_ge k j with hj | hj
  ·obtain rfl : j = k + 1 := by omega
   exact Nat.le_refl _
  ·rw [zat (by omega)]
   have := ih hj (by omega)
   omega
theorem za2 {ls : List (List Bs)} {j k : Nat} (h : j ≤ k) (hk : k ≤ ls.length) : jo ls j ≤ jo ls k := by
 induction k with
 | zero => obtain rfl : j = 0 := by omega
           exact Nat.le_refl _
 | succ k ih =>
  rcases Nat.lt_or_ge k j with hj | hj
  ·obtain rfl : j = k + 1 := by omega
   exact Nat.le_refl _
  ·rw [xf (by omega)]
   have := ih hj (by omega)
   omega
theorem zc0 {ls : List (List Bs)} (hw : ∀ l ∈ ls, 0 < l.length) : ∀ k, k ≤ ls.length → (zak ls k).length = jo ls k
 | 0, _ => rfl
 | k + 1, h => by
  rw [zbk (by omega), xf (by omega), List.length_append, zc0 hw k (by omega), zel (hw _ (List.getElem_mem (by omega)))]
structure DocOk (ls : List (List Bs)) : Prop where
 lines : ls.length ≤ 1000
 line : ∀ l ∈ ls, 0 < l.length ∧ l.length ≤ 120 ∧ ∀ w ∈ l, w.length ≤ 32768
 size : jo ls ls.length ≤ 262144
end V
open Go.RowKit
namespace V
def hexV (c : UInt8) : Option Nat := if 48 ≤ c.toNat ∧ c.toNat ≤ 57 then some (c.toNat - 48) else if 65 ≤ c.toNat ∧ c.toNat ≤ 70 then some (c.toNat - 55) else none
def qv : Bs → Option Bs
 | [] => some []
 | c :: r => if qz c = true then (qv r).map (c :: ·) else if c = 37 then
   match r with
   | a :: b :: r' => match hexV a, hexV b with
    | some x, some y => if qz (UInt8.ofNat (16 * x + y)) = true then none else (qv r').map (UInt8.ofNat (16 * x + y) :: ·)
    | _, _ => none
   | _ => none
  else none
def unwR (s : Bs) : Option Bs := if s = [126] then some [] else match qv s with | some w => if w = [] then none else some w | none => none
def escB : Bs → Option Bs
 | a :: b :: r' => match hexV a, hexV b with
  | some x, some y => if qz (UInt8.ofNat (16 * x + y)) = true then none else (qv r').map (UInt8.ofNat (16 * x + y) :: ·)
  | _, _ => none
 | _ => none
theorem zdu (c : UInt8) (r : Bs) : qv (c :: r) = if qz c = true then (qv r).map (c :: ·) else if c = 37 then escB r else none := by
 match r with
 | [] => rfl
 | [_] => rfl
 | _ :: _ :: _ => rfl
theorem zb7 {c : UInt8} {r : Bs} (h : qz c = true) : qv (c :: r) = (qv r).map (c :: ·) := by rw [zdu, if_pos h]
theorem zjm {c : UInt8} {r : Bs} (h : qz c = false) (hc : c ≠ 37) : qv (c :: r) = none := by
 rw [zdu, if_neg (by rw [h]; decide), if_neg hc]
theorem zk5 (r : Bs) : qv (37 :: r) = escB r := by rw [zdu, if_neg (by decide), if_pos rfl]
theorem zca {r : Bs} (h : r.length < 2) : qv (37 :: r) = none := by
 rw [zk5]
 match r, h with
 | [], _ => rfl
 | [_], _ => rfl
theorem ze2 {a b : UInt8} {r : Bs} (h : hexV a = none ∨ hexV b = none) : qv (37 :: a :: b :: r) = none := by
 rw [zk5, escB]
 rcases h with h | h
 ·simp [h]
 ·cases ha : hexV a <;> simp [h]
theorem zfc {a b : UInt8} {r : Bs} {x y : Nat} (ha : hexV a = some x) (hb : hexV b = some y) : qv (37 :: a :: b :: r) = if qz (UInt8.ofNat (16 * x + y)) = true then none else (qv r).map (UInt8.ofNat (16 * x + y) :: ·) := by
 rw [zk5, escB]
 simp [ha, hb]
theorem zgj {c : UInt8} {x : Nat} (h : hexV c = some x) : x < 16 := by
 unfold hexV at h
 split at h
 ·cases h; omega
 ·split at h
  ·cases h; omega
  ·cases h
theorem hexV_dig : ∀ n : Fin 256, (match hexV (UInt8.ofNat n.val) with | some x => decide (digU.getD x 0 = UInt8.ofNat n.val) | none => true) = true := by decide +kernel
theorem zjy {c : UInt8} {x : Nat} (h : hexV c = some x) : digU.getD x 0 = c := by
 have := hexV_dig ⟨c.toNat, c.toNat_lt⟩
 simp only [UInt8.ofNat_toNat, h, decide_eq_true_eq] at this
 exact this
theorem enc_esc {a b : UInt8} {x y : Nat} (ha : hexV a = some x) (hb : hexV b = some y) (hp : qz (UInt8.ofNat (16 * x + y)) = false) : encB (UInt8.ofNat (16 * x + y)) = [37, a, b] := by
 have hx := zgj ha
 have hy := zgj hb
 unfold encB
 have e : (UInt8.ofNat (16 * x + y)).toNat = 16 * x + y := by simp; omega
 rw [hp, if_neg (by decide), e, show (16 * x + y) / 16 = x by omega, show (16 * x + y) % 16 = y by omega, zjy ha, zjy hb]
theorem zfa : ∀ (k : Nat) (s w : Bs), s.length ≤ k → qv s = some w → w.flatMap encB = s
 | _, [], w, _, h => by rw [qv] at h; cases h; rfl
 | 0, c :: r, w, hk, _ => by simp at hk
 | k + 1, c :: r, w, hk, h => by
  rw [List.length_cons] at hk
  rcases hp : qz c with _ | _
  ·by_cases hc : c = 37
   ·subst hc
    match r, h with
    | [], h => rw [zca (by simp)] at h; cases h
    | [_], h => rw [zca (by simp)] at h; cases h
    | a :: b :: r', h =>
     cases ha : hexV a with
     | none => rw [ze2 (.inl ha)] at h; cases h
     | some x =>
      cases hb : hexV b with
      | none => rw [ze2 (.inr hb)] at h; cases h
      | some y =>
       rw [zfc ha hb] at h
       split at h
       ·cases h
       ·rename_i hq
        have hq : qz (UInt8.ofNat (16 * x + y)) = false := by simpa using hq
        cases hr : qv r' with
        | none => rw [hr] at h; cases h
        | some w' =>
         rw [hr] at h
         simp only [Option.map_some, Option.some.injEq] at h
         subst h
         simp only [List.length_cons] at hk
         rw [List.flatMap_cons, zfa k r' w' (by omega) hr, enc_esc ha hb hq]
         rfl
   ·rw [zjm hp hc] at h; cases h
  ·rw [zb7 hp] at h
   cases hr : qv r with
   | none => rw [hr] at h; cases h
   | some w' =>
    rw [hr] at h
    simp only [Option.map_some, Option.some.injEq] at h
    subst h
    rw [List.flatMap_cons, zfa k r w' (by omega) hr]
    unfold encB
    rw [if_pos hp]
    rfl
theorem zjt {s w : Bs} (h : unwR s = some w) : word w = s := by
 unfold unwR at h
 split at h
 ·rename_i e
  cases h
  rw [e]; rfl
 ·cases hq : qv s with
  | none => rw [hq] at h; cases h
  | some v =>
   rw [hq] at h
   simp only at h
   split at h
   ·cases h
   ·rename_i hv
    cases h
    unfold word
    rw [if_neg (by simpa using hv)]
    exact zfa _ s _ (Nat.le_refl _) hq
theorem unw_at {s : Bs} {k : Nat} {out : Bs} (h : qv s = (qv (s.drop k)).map (out ++ ·)) (hk : k < s.length) :
  (qz s[k] = true → qv s = (qv (s.drop (k + 1))).map ((out ++ [s[k]]) ++ ·)) ∧
  (qz s[k] = false → s[k] ≠ 37 → qv s = none) ∧
  (s[k] = 37 → s.length < k + 3 → qv s = none) ∧
  (∀ h3 : k + 2 < s.length, s[k] = 37 → (hexV s[k + 1] = none ∨ hexV s[k + 2] = none) → qv s = none) ∧
  (∀ (h3 : k + 2 < s.length) x y, s[k] = 37 → hexV s[k + 1] = some x → hexV s[k + 2] = some y → (qz (UInt8.ofNat (16 * x + y)) = true → qv s = none) ∧ (qz (UInt8.ofNat (16 * x + y)) = false → qv s = (qv (s.drop (k + 3))).map ((out ++ [UInt8.ofNat (16 * x + y)]) ++ ·))) := by
 have hd := List.drop_eq_getElem_cons hk
 refine ⟨fun hp => ?_, fun hp hc => ?_, fun hc hl => ?_, fun h3 hc hb => ?_, fun h3 x y hc hx hy => ?_⟩
 ·rw [h, hd, zb7 hp]
  cases qv (s.drop (k + 1)) <;> simp
 ·rw [h, hd, zjm hp hc]; rfl
 ·rw [h, hd, hc, zca (by simp; omega)]; rfl
 ·have h1 := List.drop_eq_getElem_cons (show k + 1 < s.length by omega)
  have h2 := List.drop_eq_getElem_cons h3
  rw [h, hd, hc, h1, h2, ze2 hb]; rfl
 ·have h1 := List.drop_eq_getElem_cons (show k + 1 < s.length by omega)
  have h2 := List.drop_eq_getElem_cons h3
  rw [hd, hc, h1, h2, zfc hx hy] at h
  refine ⟨fun hp => ?_, fun hp => ?_⟩
  ·rw [h, if_pos hp]; rfl
  ·rw [h, if_neg (by rw [hp]; decide)]
   cases qv (s.drop (k + 3)) <;> simp
end V
open Go.RowKit
namespace V
def qy : List Bs → Option (List Bs)
 | [] => some []
 | s :: r => match unwR s with | none => none | some w => (qy r).map (w :: ·)
def chk (l : List Bs) : Int := if l.length = 0 then 1 else if 120 < l.length then 3 else if (l.all fun w => decide (w.length ≤ 32768)) = true then 0 else 3
def jj : List Bs → Option (List (List Bs))
 | [] => none
 | [x] => if x = [] then some [] else none
 | x :: y :: r => match qy (ze 32 x) with | none => none | some l => if chk l = 0 then (jj (y :: r)).map (l :: ·) else none
def decP (b : Bs) : List (List Bs) × Int := if 262144 < b.length then ([], 3) else match jj (ze 10 b) with | some ls => if ls.length ≤ 1000 then (ls, 0) else ([], 2) | none => ([], 2)
def zim : List Bs → Option (List (List Bs))
 | [] => some []
 | x :: r => match qy (ze 32 x) with | none => none | some l => (zim r).map (l :: ·)
def zu : List (List Bs) → Int
 | [] => 0
 | l :: r => if chk l = 0 then zu r else chk l
def encE (ls : List (List Bs)) : Int := if 1000 < ls.length then 3 else if zu ls = 0 then (if 262144 < jo ls ls.length then 3 else 0) else zu ls
theorem za9 {l : List Bs} : chk l = 0 ↔ 0 < l.length ∧ l.length ≤ 120 ∧ ∀ w ∈ l, w.length ≤ 32768 := by
 unfold chk
 split
 ·simp; omega
 ·split
  ·simp; omega
  ·split
   ·rename_i h
    simp only [List.all_eq_true, decide_eq_true_eq] at h
    exact ⟨fun _ => ⟨by omega, by omega, h⟩, fun _ => rfl⟩
   ·rename_i h
    simp only [List.all_eq_true, decide_eq_true_eq] at h
    exact ⟨fun e => by simp at e, fun e => absurd e.2.2 h⟩
theorem ya : ∀ {ls : List (List Bs)}, zu ls = 0 ↔ ∀ l ∈ ls, chk l = 0
 | [] => by simp [zu]
 | l :: r => by
  unfold zu
  split
  ·rename_i h
   rw [ya]
   simp [h]
  ·rename_i h
   simp [h]
theorem zf3 {ls : List (List Bs)} {k : Nat} (hk : k < ls.length) (h : zu ls = zu (ls.drop k)) : (chk ls[k] = 0 → zu ls = zu (ls.drop (k + 1))) ∧ (¬ chk ls[k] = 0 → zu ls = chk ls[k]) := by
 rw [List.drop_eq_getElem_cons hk, zu] at h
 refine ⟨fun e => ?_, fun e => ?_⟩
 ·rw [h, if_pos e]
 ·rw [h, if_neg e]
theorem ze6 {ls : List (List Bs)} (h : encE ls = 0) : DocOk ls := by
 unfold encE at h
 split at h
 ·cases h
 ·split at h
  ·rename_i h1 h2
   split at h
   ·cases h
   ·exact ⟨by omega, fun l hl => za9.1 (ya.1 h2 l hl), by omega⟩
  ·rename_i h2
   exact absurd h h2
theorem zcg {x : Bs} {t : List Bs} (h : t ≠ []) : jj (x :: t) = match qy (ze 32 x) with | none => none | some l => if chk l = 0 then (jj t).map (l :: ·) else none := by
 cases t with
 | nil => exact absurd rfl h
 | cons y r => rfl
theorem zfv : ∀ rows : List Bs, jj (rows ++ [[]]) = match zim rows with | none => none | some ls => if zu ls = 0 then some ls else none
 | [] => by simp [jj, zim, zu]
 | x :: r => by
  rw [List.cons_append, zcg (by simp), zim, zfv r]
  cases hw : qy (ze 32 x) with
  | none => rfl
  | some l =>
   simp only
   cases hr : zim r with
   | none => simp
   | some ls =>
    simp only [Option.map_some]
    by_cases h1 : chk l = 0
    ·have e : zu (l :: ls) = zu ls := by rw [zu, if_pos h1]
     simp only [e, h1, if_true]
     by_cases h2 : zu ls = 0
     ·simp [h2]
     ·simp [h2]
    ·have e : zu (l :: ls) = chk l := by rw [zu, if_neg h1]
     simp [e, h1]
theorem zoa : ∀ {r : List Bs} {l : List Bs}, qy r = some l → l.length = r.length ∧ (l.map fun w => uk w + 1).sum = (r.map fun s => s.length + 1).sum
 | [], l, h => by cases h; exact ⟨rfl, rfl⟩
 | s :: r, l, h => by
  rw [qy] at h
  cases hs : unwR s with
  | none => rw [hs] at h; cases h
  | some w =>
   rw [hs] at h
   simp only at h
   cases hr : qy r with
   | none => rw [hr] at h; cases h
   | some l' =>
    rw [hr] at h
    cases h
    have ih := zoa hr
    have hw := yz w
    rw [zjt hs] at hw
    simp only [List.length_cons, List.map_cons, List.sum_cons, ih.1, ih.2, hw]
    exact ⟨trivial, trivial⟩
theorem zgv (c : UInt8) : ∀ s : Bs, ((ze c s).map fun x => x.length + 1).sum = s.length + 1
 | [] => by simp [ze]
 | a :: s => by
  have ih := zgv c s
  rw [ze]
  split
  ·simp [ih]; omega
  ·cases hq : ze c s with
   | nil => exact absurd hq (zbo c s)
   | cons y r =>
    rw [hq] at ih
    simp only [List.map_cons, List.sum_cons, List.length_cons] at ih ⊢
    omega
theorem zpg : decP [] = ([], 0) := by simp [decP, ze, jj]
end V
open Go.RowKit
namespace V
structure Aff where
 sch : Int
 name : Bs
 rs : Int
 its : List Itv
structure Adv where
 id : Bs
 rev : Int
 sev : Int
 aff : List Aff
def zA : Aff := ⟨0, [], 0, []⟩
def zV : Adv := ⟨[], 0, 0, []⟩
def affC (a b : Aff) : Int := orI [Lib.compareInt a.sch b.sch, Lib.compareBytes a.name b.name]
def zb0 (n : Int) (r : Int) (l : List Itv) : Bool := decide (r = n) && (decide (1 ≤ l.length) && okR r l)
def kc (a : Aff) : Bool := kl a.name && zb0 a.sch a.rs a.its
def zap (l : List Aff) (i : Nat) (a : Aff) : Bool := (decide (i = 0) || decide (affC (l.getD (i - 1) zA) a < 0)) && kc a
def xg (l : List Aff) : Nat → Bool
 | 0 => true
 | k + 1 => xg l k && match l[k]? with | some a => zap l k a | none => true
def zew (id : Bs) (rev sev : Int) (n : Nat) : Bool := kw id && (decide (1 ≤ rev) && (decide (rev ≤ 1099511627776) && (decide (1 ≤ sev) && (decide (sev ≤ 10) && decide (n ≤ 16)))))
def qa (x : Adv) : Bool := zew x.id x.rev x.sev x.aff.length && xg x.aff x.aff.length
theorem zaj {l : List Aff} {k : Nat} (h : k < l.length) : xg l (k + 1) = (xg l k && zap l k l[k]) := by
 show (xg l k && match l[k]? with | some a => zap l k a | none => true) = _
 rw [List.getElem?_eq_getElem h]
theorem zfj {l : List Aff} : ∀ {m k : Nat}, k ≤ m → xg l k = false → xg l m = false
 | 0, k, h, e => by obtain rfl : k = 0 := by omega
                    exact e
 | m + 1, k, h, e => by
  by_cases hk : k = m + 1
  ·subst hk; exact e
  ·have := zfj (m := m) (by omega) e
   show (xg l m && _) = false
   rw [this]; rfl
theorem zn3 {l : List Aff} {k : Nat} (h : k < l.length) (ha : zap l k l[k] = false) : xg l l.length = false :=
 zfj (k := k + 1) (by omega) (by rw [zaj h, ha, Bool.and_false])
theorem zhr {l : List Aff} : ∀ {m : Nat}, xg l m = true → ∀ k (hk : k < l.length), k < m → zap l k l[k] = true
 | 0, _, k, _, h => absurd h (Nat.not_lt_zero _)
 | m + 1, h, k, hk, hm => by
  by_cases hml : m < l.length
  ·rw [zaj hml, Bool.and_eq_true] at h
   by_cases e : k = m
   ·subst e; exact h.2
   ·exact zhr h.1 k hk (by omega)
  ·have h2 : (xg l m && match l[m]? with | some a => zap l m a | none => true) = true := h
   rw [Bool.and_eq_true] at h2
   exact zhr h2.1 k hk (by omega)
structure AdvP (x : Adv) : Prop where
 id : kw x.id = true
 rev0 : 1 ≤ x.rev
 rev1 : x.rev ≤ 1099511627776
 sev0 : 1 ≤ x.sev
 sev1 : x.sev ≤ 10
 len : x.aff.length ≤ 16
 all : xg x.aff x.aff.length = true
theorem ql {x : Adv} (h : qa x = true) : AdvP x := by
 unfold qa zew at h
 simp only [Bool.and_eq_true, decide_eq_true_eq] at h
 exact ⟨h.1.1, h.1.2.1, h.1.2.2.1, h.1.2.2.2.1, h.1.2.2.2.2.1, h.1.2.2.2.2.2, h.2⟩
theorem AdvP.sound {x : Adv} (h : AdvP x) {a : Aff} (ha : a ∈ x.aff) : kc a = true := by
 obtain ⟨k, hk, rfl⟩ := List.mem_iff_getElem.1 ha
 have := zhr h.all k hk hk
 unfold zap at this
 rw [Bool.and_eq_true] at this
 exact this.2
theorem xd {a : Aff} (h : kc a = true) : kl a.name = true ∧ a.rs = a.sch ∧ 1 ≤ a.its.length ∧ okR a.sch a.its = true := by
 unfold kc zb0 at h
 simp only [Bool.and_eq_true, decide_eq_true_eq] at h
 exact ⟨h.1, h.2.1, h.2.2.1, by have := h.2.2.2; rwa [h.2.1] at this⟩
theorem okR_sch {n : Int} {l : List Itv} (h : okR n l = true) : n = 1 ∨ n = 2 ∨ n = 3 := by
 have := (zbx h).sch
 unfold scheme at this
 simp only [Bool.or_eq_true, beq_iff_eq] at this
 omega
theorem zdk {s : Bs} (h : kl s = true) : s.length ≤ 200 := by
 unfold kl at h
 simp only [Bool.and_eq_true, decide_eq_true_eq] at h
 exact h.1.1.2
def advW : Bs := [97, 100, 118, 105, 115, 111, 114, 121]
def affW : Bs := [97, 102, 102, 101, 99, 116, 115]
def kq (x : Adv) : List Bs := [advW, x.id, Lib.decDigits x.rev.toNat, Lib.decDigits x.sev.toNat]
def yd (a : Aff) : List Bs := [affW, qb a.sch, a.name, kn a.its]
def je (x : Adv) (k : Nat) : List (List Bs) := kq x :: (x.aff.take k).map yd
theorem zdf {x : Adv} {k : Nat} (h : k < x.aff.length) : je x (k + 1) = je x k ++ [yd x.aff[k]] := by
 unfold je
 rw [List.take_succ_eq_append_getElem h, List.map_append]
 rfl
def zx (x : Adv) : List (List Bs) := je x x.aff.length
def encV (x : Adv) : Bs × Int := if qa x = true then (if encE (zx x) = 0 then (doc (zx x), 0) else ([], encE (zx x))) else ([], 1)
end V
end Go.Proofs.YtnhfaincdabdkaaGreatDoor
namespace Go.Proofs.YtnhfaincdabdkaaGreatDoor.V
def EcOk (n : Int) (x : Ec) : Prop := x = ebot ∨ x = etop ∨ ∃ c : Cut, valid n c.1 = true ∧ x = eat c
theorem zgo {n : Int} {x : Itv} (h : zl n x = true) : EcOk n (eLow x) := by
 by_cases hk : x.lk = 0
 ·exact .inl (zgt hk)
 ·exact .inr (.inr ⟨x.low, xn h hk, zez h hk⟩)
theorem zdx {n : Int} {x : Itv} (h : zl n x = true) : EcOk n (vu x) := by
 by_cases hk : x.hk = 0
 ·exact .inr (.inl (zem hk))
 ·exact .inr (.inr ⟨x.high, jz h hk, zby h hk⟩)
theorem zop {n : Int} {x : Itv} (h : zl n x = true) : decide (ecmp n (eLow x) (vu x) < 0) = xm n x := by
 unfold xm
 by_cases h1 : x.lk = 0
 ·rw [zgt h1, decide_eq_true h1, Bool.true_or]
  refine decide_eq_true ?_
  by_cases h2 : x.hk = 0
  ·rw [zem h2]; unfold ecmp ebot etop; simp
  ·rw [zby h h2]; unfold ecmp ebot eat; simp
 ·rw [decide_eq_false h1, Bool.false_or]
  by_cases h2 : x.hk = 0
  ·rw [decide_eq_true h2, Bool.true_or, zez h h1, zem h2]
   exact decide_eq_true (by unfold ecmp eat etop; simp)
  ·rw [decide_eq_false h2, Bool.false_or, zez h h1, zby h h2, zqx]
theorem zr5 {n : Int} {y x : Itv} (hy : zl n y = true) (hx : zl n x = true) : decide (ecmp n (vu y) (eLow x) < 0) = ub n y x := by
 unfold ub
 by_cases h1 : y.hk = 0
 ·rw [zem h1, decide_eq_true h1]
  refine decide_eq_false ?_
  by_cases h2 : x.lk = 0
  ·rw [zgt h2]; unfold ecmp etop ebot; simp
  ·rw [zez hx h2]; unfold ecmp etop eat; simp
 ·rw [decide_eq_false h1]
  by_cases h2 : x.lk = 0
  ·rw [decide_eq_true h2, zby hy h1, zgt h2]
   exact decide_eq_false (by unfold ecmp eat ebot; simp)
  ·rw [decide_eq_false h2, zby hy h1, zez hx h2, zqx]
   rfl
end Go.Proofs.YtnhfaincdabdkaaGreatDoor.V
namespace Go.Proofs.YtnhfaincdabdkaaGreatDoor.V
theorem _root_.Go.Proofs.YtnhfaincdabdkaaGreatDoor.zxi {P : Prop} (h : P := by
 rw [List.drop_eq_getElem_cons (by omega : i < C.length), List.drop_eq_getElem_cons hi]
 rw [rrun]
 simp [hn]) : P := h
theorem zrw {h : Ec → Ec → Bool} {C : List Ec} {i : Nat} (hi : i + 1 < C.length) (hn : h C[i] C[i + 1] = true) : rrun h none (C.drop i) = rrun h (some C[i]) (C.drop (i + 1)) := by
 exact zxi
theorem rrun_on {h : Ec → Ec → Bool} {C : List Ec} {i : Nat} {f : Ec} (hi : i + 1 < C.length) (hn : h C[i] C[i + 1] = true) : rrun h (some f) (C.drop i) = rrun h (some f) (C.drop (i + 1)) := by
 exact zxi
end Go.Proofs.YtnhfaincdabdkaaGreatDoor.V
namespace Go.Proofs.YtnhfaincdabdkaaGreatDoor
open Go.RowKit
namespace V
def pkC (p q : Int × Bs) : Int := orI [Lib.compareInt p.1 q.1, Lib.compareBytes p.2 q.2]
def Asc (l : List (Int × Bs)) : Prop := l.Pairwise fun a b => pkC a b < 0
def pk (a : Aff) : Int × Bs := (a.sch, a.name)
theorem zis {l : List Aff} : ∀ {m : Nat}, (∀ k (hk : k < l.length), k < m → zap l k l[k] = true) → xg l m = true
 | 0, _ => rfl
 | m + 1, h => by
  by_cases hm : m < l.length
  ·rw [zaj hm, zis (fun k hk hkm => h k hk (by omega)), h m hm (Nat.lt_succ_self m)]
   rfl
  ·show (xg l m && match l[m]? with | some a => zap l m a | none => true) = true
   rw [zis (fun k hk hkm => h k hk (by omega)), List.getElem?_eq_none (by omega)]
   rfl
theorem zr1 {l : List Aff} (hs : ∀ a ∈ l, kc a = true) (ha : Asc (l.map pk)) : xg l l.length = true := by
 refine zis (fun k hk _ => ?_)
 unfold zap
 rw [hs _ (List.getElem_mem hk), Bool.and_true]
 by_cases h0 : k = 0
 ·simp [h0]
 ·have h1 : k - 1 < l.length := by omega
  have h2 := (List.pairwise_iff_getElem.1 ha) (k - 1) k (by simpa using h1) (by simpa using hk) (by omega)
  rw [List.getElem_map, List.getElem_map] at h2
  have h3 : affC l[k - 1] l[k] < 0 := h2
  rw [List.getD_eq_getElem?_getD, List.getElem?_eq_getElem h1]
  simp [h3]
structure MadeV (x : Adv) : Prop where
 id : kw x.id = true
 idl : x.id.length ≤ 100
 rev0 : 1 ≤ x.rev
 rev1 : x.rev ≤ 3
 sev0 : 1 ≤ x.sev
 sev1 : x.sev ≤ 10
 len : x.aff.length ≤ 3
 snd : ∀ a ∈ x.aff, kc a = true
 asc : Asc (x.aff.map pk)
theorem MadeV.ok {x : Adv} (h : MadeV x) : qa x = true := by
 unfold qa zew
 have h1 := h.id
 have := h.rev0; have := h.rev1; have := h.sev0; have := h.sev1; have := h.len
 rw [h1, zr1 h.snd h.asc]
 simp only [Bool.true_and, Bool.and_true, Bool.and_eq_true, decide_eq_true_eq]
 omega
theorem zkb {n : Int} {l : List Itv} (h : Ok n l) (h0 : l ≠ []) : (kn l).length ≤ 10000 := by
 rcases l with _ | ⟨x, r⟩
 ·exact absurd rfl h0
 ·have hle : ∀ y ∈ zr x :: r.map zr, y.length ≤ 133 := by
   intro y hy
   rw [← List.map_cons (f := zr), List.mem_map] at hy
   obtain ⟨z, hz, rfl⟩ := hy
   exact (ze3 (zmk h hz)).len
  have h1 := zl0 hle
  have h2 := h.len
  rw [List.length_map] at h1
  rw [List.length_cons] at h2
  show (Lib.join (zr x :: r.map zr) orT).length ≤ _
  omega
theorem zoe {ls : List (List Bs)} {b : Nat} (h : ∀ l ∈ ls, jk l l.length ≤ b) : jo ls ls.length ≤ ls.length * b := by
 unfold jo
 rw [List.take_length]
 induction ls with
 | nil => simp
 | cons l ls ih =>
  have h2 := h l (List.mem_cons_self ..)
  have h3 := ih (fun x hx => h x (List.mem_cons_of_mem _ hx))
  simp only [List.map_cons, List.sum_cons, List.length_cons]
  rw [Nat.add_mul, Nat.one_mul]
  omega
theorem wn (n : Nat) (h : n < 11) : (Lib.decDigits n).length ≤ 2 := by
 have h : n = 0 ∨ n = 1 ∨ n = 2 ∨ n = 3 ∨ n = 4 ∨ n = 5 ∨ n = 6 ∨ n = 7 ∨ n = 8 ∨ n = 9 ∨ n = 10 := by omega
 rcases h with rfl | rfl | rfl | rfl | rfl | rfl | rfl | rfl | rfl | rfl | rfl <;> (unfold Lib.decDigits; simp [Lib.decDigits])
theorem MadeV.words {x : Adv} (h : MadeV x) : ∀ l ∈ zx x, l.length = 4 ∧ ∀ w ∈ l, w.length ≤ 10000 := by
 intro l hl
 unfold zx je at hl
 rw [List.take_length] at hl
 rcases List.mem_cons.1 hl with rfl | hl
 ·refine ⟨rfl, fun w hw => ?_⟩
  have := h.rev0; have := h.rev1; have := h.sev0; have := h.sev1
  simp only [kq, List.mem_cons, List.not_mem_nil, or_false] at hw
  rcases hw with rfl | rfl | rfl | rfl
  ·decide
  ·have := h.idl; omega
  ·have := wn x.rev.toNat (by omega); omega
  ·have := wn x.sev.toNat (by omega); omega
 ·obtain ⟨a, ha, rfl⟩ := List.mem_map.1 hl
  obtain ⟨h1, h2, h3, h4⟩ := xd (h.snd a ha)
  refine ⟨rfl, fun w hw => ?_⟩
  simp only [yd, List.mem_cons, List.not_mem_nil, or_false] at hw
  rcases hw with rfl | rfl | rfl | rfl
  ·decide
  ·have := zci a.sch; omega
  ·have := zdk h1; omega
  ·exact zkb (zbx h4) (fun e => by rw [e] at h3; simp at h3)
theorem zrl (a b c d : Bs) : jk [a, b, c, d] [a, b, c, d].length ≤ 3 * (a.length + b.length + c.length + d.length) + 8 := by
 have h1 := kt a; have h2 := kt b; have h3 := kt c; have h4 := kt d
 unfold jk
 simp only [List.length_cons, List.length_nil, List.take_succ_cons, List.take_zero, List.map_cons, List.map_nil, List.sum_cons, List.sum_nil]
 omega
theorem MadeV.line {x : Adv} (h : MadeV x) : ∀ l ∈ zx x, jk l l.length ≤ 31000 := by
 intro l hl
 unfold zx je at hl
 rw [List.take_length] at hl
 rcases List.mem_cons.1 hl with rfl | hl
 ·have := h.rev0; have := h.rev1; have := h.sev0; have := h.sev1
  have h1 := h.idl
  have h2 := wn x.rev.toNat (by omega)
  have h3 := wn x.sev.toNat (by omega)
  have h4 := zrl advW x.id (Lib.decDigits x.rev.toNat) (Lib.decDigits x.sev.toNat)
  have h5 : advW.length = 8 := rfl
  unfold kq
  omega
 ·obtain ⟨a, ha, rfl⟩ := List.mem_map.1 hl
  obtain ⟨h1, h2, h3, h4⟩ := xd (h.snd a ha)
  have h5 := zrl affW (qb a.sch) a.name (kn a.its)
  have h6 := zci a.sch
  have h7 := zdk h1
  have h8 := zkb (zbx h4) (fun e => by rw [e] at h3; simp at h3)
  have h9 : affW.length = 7 := rfl
  unfold yd
  omega
theorem MadeV.enc {x : Adv} (h : MadeV x) : encE (zx x) = 0 := by
 have hw := h.words
 have hlen : (zx x).length ≤ 4 := by
  unfold zx je
  rw [List.take_length, List.length_cons, List.length_map]
  have := h.len
  omega
 have hb : zu (zx x) = 0 := ya.2 (fun l hl => by
   obtain ⟨h1, h2⟩ := hw l hl
   exact za9.2 ⟨by omega, by omega, fun w hx => by have := h2 w hx; omega⟩)
 unfold encE
 rw [if_neg (by omega), if_pos hb, if_neg]
 have h1 := zoe (ls := zx x) (b := 31000) (fun l hl => h.line l hl)
 have : (zx x).length * 31000 ≤ 4 * 31000 := Nat.mul_le_mul_right _ hlen
 omega
theorem MadeV.encV {x : Adv} (h : MadeV x) : V.encV x = (doc (zx x), 0) := by
 unfold V.encV
 rw [if_pos h.ok, if_pos h.enc]
end V
end Go.Proofs.YtnhfaincdabdkaaGreatDoor
