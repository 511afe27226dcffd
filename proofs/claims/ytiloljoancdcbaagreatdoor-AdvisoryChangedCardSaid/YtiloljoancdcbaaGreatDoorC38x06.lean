/-
  Lemmas for the law.
-/
import Derived.Test.YtiloljoancdcbaaGreatDoorC38x01
import Derived.Test.YtiloljoancdcbaaGreatDoorC38x05
import Derived.Test.YtiloljoancdcbaaGreatDoorC38x04
import Derived.Lib.ItoaNum
set_option linter.all false
namespace Go.Proofs.YtiloljoancdcbaaGreatDoor
open Go.RowKit
namespace V
def jg (c : UInt8) : Bool := decide (33 ≤ c.toNat) && (decide (c.toNat ≤ 125) && !decide (c.toNat = 37))
def digU : Bs := [48, 49, 50, 51, 52, 53, 54, 55, 56, 57, 65, 66, 67, 68, 69, 70]
def encB (c : UInt8) : Bs := if jg c = true then [c] else [37, digU.getD (c.toNat / 16) 0, digU.getD (c.toNat % 16) 0]
def word (w : Bs) : Bs := if w.isEmpty then [126] else w.flatMap encB
def ud (c : UInt8) : Nat := if jg c = true then 1 else 3
def ws (w : Bs) : Nat := max ((w.map ud).sum) 1
theorem encB_len (c : UInt8) : (encB c).length = ud c := by unfold encB ud; split <;> rfl
theorem zvl (c : UInt8) : 1 ≤ ud c := by unfold ud; split <;> omega
theorem sizeC_le (c : UInt8) : ud c ≤ 3 := by unfold ud; split <;> omega
theorem zjx : ∀ w : Bs, (w.flatMap encB).length = (w.map ud).sum
 | [] => rfl
 | c :: w => by rw [List.flatMap_cons, List.length_append, encB_len, zjx w, List.map_cons, List.sum_cons]
theorem sum_le (w : Bs) : (w.map ud).sum ≤ 3 * w.length := by
 induction w with
 | nil => simp
 | cons c w ih => rw [List.map_cons, List.sum_cons, List.length_cons]; have := sizeC_le c; omega
theorem le_sum (w : Bs) : w.length ≤ (w.map ud).sum := by
 induction w with
 | nil => simp
 | cons c w ih => rw [List.map_cons, List.sum_cons, List.length_cons]; have := zvl c; omega
theorem vv (w : Bs) : (word w).length = ws w := by
 unfold word ws
 cases w with
 | nil => rfl
 | cons c r =>
  rw [List.isEmpty_cons, if_neg (by decide), zjx]
  have := le_sum (c :: r)
  rw [List.length_cons] at this
  omega
theorem xu (w : Bs) : ws w ≤ 3 * w.length + 1 := by
 unfold ws
 have := sum_le w
 omega
def jm (l : List Bs) (k : Nat) : Bs := (List.range k).flatMap fun i => (if i = 0 then [] else [32]) ++ word (l.getD i [])
def line (l : List Bs) : Bs := jm l l.length ++ [10]
def zbv (ls : List (List Bs)) (k : Nat) : Bs := (ls.take k).flatMap line
def doc (ls : List (List Bs)) : Bs := ls.flatMap line
def jt (l : List Bs) (k : Nat) : Nat := ((l.take k).map fun w => ws w + 1).sum
def kb (ls : List (List Bs)) (k : Nat) : Nat := ((ls.take k).map fun l => jt l l.length).sum
theorem zap (l : List Bs) (k : Nat) : jm l (k + 1) = jm l k ++ ((if k = 0 then [] else [32]) ++ word (l.getD k [])) := by
 unfold jm
 rw [List.range_succ, List.flatMap_append]
 simp
theorem _root_.Go.Proofs.YtiloljoancdcbaaGreatDoor.zz0 {P : Prop} (h : P := by
 rw [List.take_succ_eq_append_getElem h, List.map_append, List.sum_append]
 simp) : P := h
theorem zb4 {l : List Bs} {k : Nat} (h : k < l.length) : jt l (k + 1) = jt l k + (ws l[k] + 1) := by
 unfold jt
 exact zz0
theorem zc6 {ls : List (List Bs)} {k : Nat} (h : k < ls.length) : zbv ls (k + 1) = zbv ls k ++ line ls[k] := by
 unfold zbv
 rw [List.take_succ_eq_append_getElem h, List.flatMap_append]
 simp
theorem ym {ls : List (List Bs)} {k : Nat} (h : k < ls.length) : kb ls (k + 1) = kb ls k + jt ls[k] ls[k].length := by
 unfold kb
 exact zz0
theorem zeu (ls : List (List Bs)) : zbv ls ls.length = doc ls := by unfold zbv doc; rw [List.take_length]
theorem zbl {l : List Bs} : ∀ k, k ≤ l.length → (jm l k).length + 1 ≤ jt l k + 1 ∧ (0 < k → (jm l k).length + 1 = jt l k)
 | 0, _ => ⟨by simp [jm, jt], fun h => by omega⟩
 | k + 1, h => by
  have ih := zbl (l := l) k (by omega)
  rw [zap, zb4 (by omega), List.length_append, List.length_append, vv, List.getD_eq_getElem?_getD, List.getElem?_eq_getElem (by omega)]
  simp only [Option.getD_some]
  by_cases hk : k = 0
  ·subst hk
   have : (jm l 0).length = 0 := rfl
   have h2 : jt l 0 = 0 := rfl
   simp
   omega
  ·have := ih.2 (by omega)
   rw [if_neg hk, List.length_singleton]
   omega
theorem zf9 {l : List Bs} (h : 0 < l.length) : (line l).length = jt l l.length := by
 unfold line
 rw [List.length_append, List.length_singleton]
 exact (zbl l.length (Nat.le_refl _)).2 h
theorem zbj {l : List Bs} {j k : Nat} (h : j ≤ k) (hk : k ≤ l.length) : jt l j ≤ jt l k := by
 induction k with
 | zero => obtain rfl : j = 0 := by omega
           exact Nat.le_refl _
 | succ k ih =>
  rcases Nat.lt_or_ge k j with hj | hj
  ·obtain rfl : j = k + 1 := by omega
   exact Nat.le_refl _
  ·rw [zb4 (by omega)]
   have := ih hj (by omega)
   omega
theorem zcl {ls : List (List Bs)} {j k : Nat} (h : j ≤ k) (hk : k ≤ ls.length) : kb ls j ≤ kb ls k := by
 induction k with
 | zero => obtain rfl : j = 0 := by omega
           exact Nat.le_refl _
 | succ k ih =>
  rcases Nat.lt_or_ge k j with hj | hj
  ·obtain rfl : j = k + 1 := by omega
   exact Nat.le_refl _
  ·rw [ym (by omega)]
   have := ih hj (by omega)
   omega
theorem zem {ls : List (List Bs)} (hw : ∀ l ∈ ls, 0 < l.length) : ∀ k, k ≤ ls.length → (zbv ls k).length = kb ls k
 | 0, _ => rfl
 | k + 1, h => by
  rw [zc6 (by omega), ym (by omega), List.length_append, zem hw k (by omega), zf9 (hw _ (List.getElem_mem (by omega)))]
structure DocOk (ls : List (List Bs)) : Prop where
 lines : ls.length ≤ 1000
 line : ∀ l ∈ ls, 0 < l.length ∧ l.length ≤ 120 ∧ ∀ w ∈ l, w.length ≤ 32768
 size : kb ls ls.length ≤ 262144
end V
open Go.RowKit
namespace V
def hexV (c : UInt8) : Option Nat := if 48 ≤ c.toNat ∧ c.toNat ≤ 57 then some (c.toNat - 48) else if 65 ≤ c.toNat ∧ c.toNat ≤ 70 then some (c.toNat - 55) else none
def jd : Bs → Option Bs
 | [] => some []
 | c :: r => if jg c = true then (jd r).map (c :: ·) else if c = 37 then
   match r with
   | a :: b :: r' => match hexV a, hexV b with
    | some x, some y => if jg (UInt8.ofNat (16 * x + y)) = true then none else (jd r').map (UInt8.ofNat (16 * x + y) :: ·)
    | _, _ => none
   | _ => none
  else none
def unwR (s : Bs) : Option Bs := if s = [126] then some [] else match jd s with | some w => if w = [] then none else some w | none => none
def escB : Bs → Option Bs
 | a :: b :: r' => match hexV a, hexV b with
  | some x, some y => if jg (UInt8.ofNat (16 * x + y)) = true then none else (jd r').map (UInt8.ofNat (16 * x + y) :: ·)
  | _, _ => none
 | _ => none
theorem zfn (c : UInt8) (r : Bs) : jd (c :: r) = if jg c = true then (jd r).map (c :: ·) else if c = 37 then escB r else none := by
 match r with
 | [] => rfl
 | [_] => rfl
 | _ :: _ :: _ => rfl
theorem zdu {c : UInt8} {r : Bs} (h : jg c = true) : jd (c :: r) = (jd r).map (c :: ·) := by rw [zfn, if_pos h]
theorem zl8 {c : UInt8} {r : Bs} (h : jg c = false) (hc : c ≠ 37) : jd (c :: r) = none := by
 rw [zfn, if_neg (by rw [h]; decide), if_neg hc]
theorem znu (r : Bs) : jd (37 :: r) = escB r := by rw [zfn, if_neg (by decide), if_pos rfl]
theorem zdx {r : Bs} (h : r.length < 2) : jd (37 :: r) = none := by
 rw [znu]
 match r, h with
 | [], _ => rfl
 | [_], _ => rfl
theorem zgq {a b : UInt8} {r : Bs} (h : hexV a = none ∨ hexV b = none) : jd (37 :: a :: b :: r) = none := by
 rw [znu, escB]
 rcases h with h | h
 ·simp [h]
 ·cases ha : hexV a <;> simp [h]
theorem zg3 {a b : UInt8} {r : Bs} {x y : Nat} (ha : hexV a = some x) (hb : hexV b = some y) : jd (37 :: a :: b :: r) = if jg (UInt8.ofNat (16 * x + y)) = true then none else (jd r).map (UInt8.ofNat (16 * x + y) :: ·) := by
 rw [znu, escB]
 simp [ha, hb]
theorem zil {c : UInt8} {x : Nat} (h : hexV c = some x) : x < 16 := by
 unfold hexV at h
 split at h
 ·cases h; omega
 ·split at h
  ·cases h; omega
  ·cases h
theorem hexV_dig : ∀ n : Fin 256, (match hexV (UInt8.ofNat n.val) with | some x => decide (digU.getD x 0 = UInt8.ofNat n.val) | none => true) = true := by decide +kernel
theorem zml {c : UInt8} {x : Nat} (h : hexV c = some x) : digU.getD x 0 = c := by
 have := hexV_dig ⟨c.toNat, c.toNat_lt⟩
 simp only [UInt8.ofNat_toNat, h, decide_eq_true_eq] at this
 exact this
theorem enc_esc {a b : UInt8} {x y : Nat} (ha : hexV a = some x) (hb : hexV b = some y) (hp : jg (UInt8.ofNat (16 * x + y)) = false) : encB (UInt8.ofNat (16 * x + y)) = [37, a, b] := by
 have hx := zil ha
 have hy := zil hb
 unfold encB
 have e : (UInt8.ofNat (16 * x + y)).toNat = 16 * x + y := by simp; omega
 rw [hp, if_neg (by decide), e, show (16 * x + y) / 16 = x by omega, show (16 * x + y) % 16 = y by omega, zml ha, zml hb]
theorem zgz : ∀ (k : Nat) (s w : Bs), s.length ≤ k → jd s = some w → w.flatMap encB = s
 | _, [], w, _, h => by rw [jd] at h; cases h; rfl
 | 0, c :: r, w, hk, _ => by simp at hk
 | k + 1, c :: r, w, hk, h => by
  rw [List.length_cons] at hk
  rcases hp : jg c with _ | _
  ·by_cases hc : c = 37
   ·subst hc
    match r, h with
    | [], h => rw [zdx (by simp)] at h; cases h
    | [_], h => rw [zdx (by simp)] at h; cases h
    | a :: b :: r', h =>
     cases ha : hexV a with
     | none => rw [zgq (.inl ha)] at h; cases h
     | some x =>
      cases hb : hexV b with
      | none => rw [zgq (.inr hb)] at h; cases h
      | some y =>
       rw [zg3 ha hb] at h
       split at h
       ·cases h
       ·rename_i hq
        have hq : jg (UInt8.ofNat (16 * x + y)) = false := by simpa using hq
        cases hr : jd r' with
        | none => rw [hr] at h; cases h
        | some w' =>
         rw [hr] at h
         simp only [Option.map_some, Option.some.injEq] at h
         subst h
         simp only [List.length_cons] at hk
         rw [List.flatMap_cons, zgz k r' w' (by omega) hr, enc_esc ha hb hq]
         rfl
   ·rw [zl8 hp hc] at h; cases h
  ·rw [zdu hp] at h
   cases hr : jd r with
   | none => rw [hr] at h; cases h
   | some w' =>
    rw [hr] at h
    simp only [Option.map_some, Option.some.injEq] at h
    subst h
    rw [List.flatMap_cons, zgz k r w' (by omega) hr]
    unfold encB
    rw [if_pos hp]
    rfl
theorem zmh {s w : Bs} (h : unwR s = some w) : word w = s := by
 unfold unwR at h
 split at h
 ·rename_i e
  cases h
  rw [e]; rfl
 ·cases hq : jd s with
  | none => rw [hq] at h; cases h
  | some v =>
   rw [hq] at h
   simp only at h
   split at h
   ·cases h
   ·rename_i hv
    cases h
    unfold word
    rw [if_neg (by simpa using hv)]
    exact zgz _ s _ (Nat.le_refl _) hq
theorem unw_at {s : Bs} {k : Nat} {out : Bs} (h : jd s = (jd (s.drop k)).map (out ++ ·)) (hk : k < s.length) :
  (jg s[k] = true → jd s = (jd (s.drop (k + 1))).map ((out ++ [s[k]]) ++ ·)) ∧
  (jg s[k] = false → s[k] ≠ 37 → jd s = none) ∧
  (s[k] = 37 → s.length < k + 3 → jd s = none) ∧
  (∀ h3 : k + 2 < s.length, s[k] = 37 → (hexV s[k + 1] = none ∨ hexV s[k + 2] = none) → jd s = none) ∧
  (∀ (h3 : k + 2 < s.length) x y, s[k] = 37 → hexV s[k + 1] = some x → hexV s[k + 2] = some y → (jg (UInt8.ofNat (16 * x + y)) = true → jd s = none) ∧ (jg (UInt8.ofNat (16 * x + y)) = false → jd s = (jd (s.drop (k + 3))).map ((out ++ [UInt8.ofNat (16 * x + y)]) ++ ·))) := by
 have hd := List.drop_eq_getElem_cons hk
 refine ⟨fun hp => ?_, fun hp hc => ?_, fun hc hl => ?_, fun h3 hc hb => ?_, fun h3 x y hc hx hy => ?_⟩
 ·rw [h, hd, zdu hp]
  cases jd (s.drop (k + 1)) <;> simp
 ·rw [h, hd, zl8 hp hc]; rfl
 ·rw [h, hd, hc, zdx (by simp; omega)]; rfl
 ·have h1 := List.drop_eq_getElem_cons (show k + 1 < s.length by omega)
  have h2 := List.drop_eq_getElem_cons h3
  rw [h, hd, hc, h1, h2, zgq hb]; rfl
 ·have h1 := List.drop_eq_getElem_cons (show k + 1 < s.length by omega)
  have h2 := List.drop_eq_getElem_cons h3
  rw [hd, hc, h1, h2, zg3 hx hy] at h
  refine ⟨fun hp => ?_, fun hp => ?_⟩
  ·rw [h, if_pos hp]; rfl
  ·rw [h, if_neg (by rw [hp]; decide)]
   cases jd (s.drop (k + 3)) <;> simp
end V
open Go.RowKit
namespace V
def jf : List Bs → Option (List Bs)
 | [] => some []
 | s :: r => match unwR s with | none => none | some w => (jf r).map (w :: ·)
def chk (l : List Bs) : Int := if l.length = 0 then 1 else if 120 < l.length then 3 else if (l.all fun w => decide (w.length ≤ 32768)) = true then 0 else 3
def js : List Bs → Option (List (List Bs))
 | [] => none
 | [x] => if x = [] then some [] else none
 | x :: y :: r => match jf (ze 32 x) with | none => none | some l => if chk l = 0 then (js (y :: r)).map (l :: ·) else none
def decP (b : Bs) : List (List Bs) × Int := if 262144 < b.length then ([], 3) else match js (ze 10 b) with | some ls => if ls.length ≤ 1000 then (ls, 0) else ([], 2) | none => ([], 2)
def zk8 : List Bs → Option (List (List Bs))
 | [] => some []
 | x :: r => match jf (ze 32 x) with | none => none | some l => (zk8 r).map (l :: ·)
def zx : List (List Bs) → Int
 | [] => 0
 | l :: r => if chk l = 0 then zx r else chk l
def encE (ls : List (List Bs)) : Int := if 1000 < ls.length then 3 else if zx ls = 0 then (if 262144 < kb ls ls.length then 3 else 0) else zx ls
theorem zct {l : List Bs} : chk l = 0 ↔ 0 < l.length ∧ l.length ≤ 120 ∧ ∀ w ∈ l, w.length ≤ 32768 := by
 unfold chk
 split
 ·simp; omega
 ·split
  ·simp; omega
  ·split
   ·rename_i h
    simp only [List.all_eq_true, decide_eq_true_eq] at h
    exact ⟨fun _ => ⟨by omega, by omega, h⟩, fun _ => rfl⟩
   ·rename_i h
    simp only [List.all_eq_true, decide_eq_true_eq] at h
    exact ⟨fun e => by simp at e, fun e => absurd e.2.2 h⟩
theorem uh : ∀ {ls : List (List Bs)}, zx ls = 0 ↔ ∀ l ∈ ls, chk l = 0
 | [] => by simp [zx]
 | l :: r => by
  unfold zx
  split
  ·rename_i h
   rw [uh]
   simp [h]
  ·rename_i h
   simp [h]
theorem zh2 {ls : List (List Bs)} {k : Nat} (hk : k < ls.length) (h : zx ls = zx (ls.drop k)) : (chk ls[k] = 0 → zx ls = zx (ls.drop (k + 1))) ∧ (¬ chk ls[k] = 0 → zx ls = chk ls[k]) := by
 rw [List.drop_eq_getElem_cons hk, zx] at h
 refine ⟨fun e => ?_, fun e => ?_⟩
 ·rw [h, if_pos e]
 ·rw [h, if_neg e]
theorem zgw {ls : List (List Bs)} (h : encE ls = 0) : DocOk ls := by
 unfold encE at h
 split at h
 ·cases h
 ·split at h
  ·rename_i h1 h2
   split at h
   ·cases h
   ·exact ⟨by omega, fun l hl => zct.1 (uh.1 h2 l hl), by omega⟩
  ·rename_i h2
   exact absurd h h2
theorem zd2 {x : Bs} {t : List Bs} (h : t ≠ []) : js (x :: t) = match jf (ze 32 x) with | none => none | some l => if chk l = 0 then (js t).map (l :: ·) else none := by
 cases t with
 | nil => exact absurd rfl h
 | cons y r => rfl
theorem zhp : ∀ rows : List Bs, js (rows ++ [[]]) = match zk8 rows with | none => none | some ls => if zx ls = 0 then some ls else none
 | [] => by simp [js, zk8, zx]
 | x :: r => by
  rw [List.cons_append, zd2 (by simp), zk8, zhp r]
  cases hw : jf (ze 32 x) with
  | none => rfl
  | some l =>
   simp only
   cases hr : zk8 r with
   | none => simp
   | some ls =>
    simp only [Option.map_some]
    by_cases h1 : chk l = 0
    ·have e : zx (l :: ls) = zx ls := by rw [zx, if_pos h1]
     simp only [e, h1, if_true]
     by_cases h2 : zx ls = 0
     ·simp [h2]
     ·simp [h2]
    ·have e : zx (l :: ls) = chk l := by rw [zx, if_neg h1]
     simp [e, h1]
theorem zqx : ∀ {r : List Bs} {l : List Bs}, jf r = some l → l.length = r.length ∧ (l.map fun w => ws w + 1).sum = (r.map fun s => s.length + 1).sum
 | [], l, h => by cases h; exact ⟨rfl, rfl⟩
 | s :: r, l, h => by
  rw [jf] at h
  cases hs : unwR s with
  | none => rw [hs] at h; cases h
  | some w =>
   rw [hs] at h
   simp only at h
   cases hr : jf r with
   | none => rw [hr] at h; cases h
   | some l' =>
    rw [hr] at h
    cases h
    have ih := zqx hr
    have hw := vv w
    rw [zmh hs] at hw
    simp only [List.length_cons, List.map_cons, List.sum_cons, ih.1, ih.2, hw]
    exact ⟨trivial, trivial⟩
theorem zi0 (c : UInt8) : ∀ s : Bs, ((ze c s).map fun x => x.length + 1).sum = s.length + 1
 | [] => by simp [ze]
 | a :: s => by
  have ih := zi0 c s
  rw [ze]
  split
  ·simp [ih]; omega
  ·cases hq : ze c s with
   | nil => exact absurd hq (zda c s)
   | cons y r =>
    rw [hq] at ih
    simp only [List.map_cons, List.sum_cons, List.length_cons] at ih ⊢
    omega
theorem zry : decP [] = ([], 0) := by simp [decP, ze, js]
end V
open Go.RowKit
namespace V
structure Aff where
 sch : Int
 name : Bs
 rs : Int
 its : List Itv
structure Adv where
 id : Bs
 rev : Int
 sev : Int
 aff : List Aff
def zA : Aff := ⟨0, [], 0, []⟩
def zV : Adv := ⟨[], 0, 0, []⟩
def affC (a b : Aff) : Int := orI [Lib.compareInt a.sch b.sch, Lib.compareBytes a.name b.name]
def zdd (n : Int) (r : Int) (l : List Itv) : Bool := decide (r = n) && (decide (1 ≤ l.length) && okR r l)
def kd (a : Aff) : Bool := xc a.name && zdd a.sch a.rs a.its
def zb0 (l : List Aff) (i : Nat) (a : Aff) : Bool := (decide (i = 0) || decide (affC (l.getD (i - 1) zA) a < 0)) && kd a
def yn (l : List Aff) : Nat → Bool
 | 0 => true
 | k + 1 => yn l k && match l[k]? with | some a => zb0 l k a | none => true
def zgl (id : Bs) (rev sev : Int) (n : Nat) : Bool := xq id && (decide (1 ≤ rev) && (decide (rev ≤ 1099511627776) && (decide (1 ≤ sev) && (decide (sev ≤ 10) && decide (n ≤ 16)))))
def ql (x : Adv) : Bool := zgl x.id x.rev x.sev x.aff.length && yn x.aff x.aff.length
theorem zbu {l : List Aff} {k : Nat} (h : k < l.length) : yn l (k + 1) = (yn l k && zb0 l k l[k]) := by
 show (yn l k && match l[k]? with | some a => zb0 l k a | none => true) = _
 rw [List.getElem?_eq_getElem h]
theorem zg9 {l : List Aff} : ∀ {m k : Nat}, k ≤ m → yn l k = false → yn l m = false
 | 0, k, h, e => by obtain rfl : k = 0 := by omega
                    exact e
 | m + 1, k, h, e => by
  by_cases hk : k = m + 1
  ·subst hk; exact e
  ·have := zg9 (m := m) (by omega) e
   show (yn l m && _) = false
   rw [this]; rfl
theorem zqq {l : List Aff} {k : Nat} (h : k < l.length) (ha : zb0 l k l[k] = false) : yn l l.length = false :=
 zg9 (k := k + 1) (by omega) (by rw [zbu h, ha, Bool.and_false])
theorem zj5 {l : List Aff} : ∀ {m : Nat}, yn l m = true → ∀ k (hk : k < l.length), k < m → zb0 l k l[k] = true
 | 0, _, k, _, h => absurd h (Nat.not_lt_zero _)
 | m + 1, h, k, hk, hm => by
  by_cases hml : m < l.length
  ·rw [zbu hml, Bool.and_eq_true] at h
   by_cases e : k = m
   ·subst e; exact h.2
   ·exact zj5 h.1 k hk (by omega)
  ·have h2 : (yn l m && match l[m]? with | some a => zb0 l m a | none => true) = true := h
   rw [Bool.and_eq_true] at h2
   exact zj5 h2.1 k hk (by omega)
structure AdvP (x : Adv) : Prop where
 id : xq x.id = true
 rev0 : 1 ≤ x.rev
 rev1 : x.rev ≤ 1099511627776
 sev0 : 1 ≤ x.sev
 sev1 : x.sev ≤ 10
 len : x.aff.length ≤ 16
 all : yn x.aff x.aff.length = true
theorem ja {x : Adv} (h : ql x = true) : AdvP x := by
 unfold ql zgl at h
 simp only [Bool.and_eq_true, decide_eq_true_eq] at h
 exact ⟨h.1.1, h.1.2.1, h.1.2.2.1, h.1.2.2.2.1, h.1.2.2.2.2.1, h.1.2.2.2.2.2, h.2⟩
theorem AdvP.sound {x : Adv} (h : AdvP x) {a : Aff} (ha : a ∈ x.aff) : kd a = true := by
 obtain ⟨k, hk, rfl⟩ := List.mem_iff_getElem.1 ha
 have := zj5 h.all k hk hk
 unfold zb0 at this
 rw [Bool.and_eq_true] at this
 exact this.2
theorem yk {a : Aff} (h : kd a = true) : xc a.name = true ∧ a.rs = a.sch ∧ 1 ≤ a.its.length ∧ okR a.sch a.its = true := by
 unfold kd zdd at h
 simp only [Bool.and_eq_true, decide_eq_true_eq] at h
 exact ⟨h.1, h.2.1, h.2.2.1, by have := h.2.2.2; rwa [h.2.1] at this⟩
theorem okR_sch {n : Int} {l : List Itv} (h : okR n l = true) : n = 1 ∨ n = 2 ∨ n = 3 := by
 have := (wu h).sch
 unfold scheme at this
 simp only [Bool.or_eq_true, beq_iff_eq] at this
 omega
theorem zfd {s : Bs} (h : xc s = true) : s.length ≤ 200 := by
 unfold xc at h
 simp only [Bool.and_eq_true, decide_eq_true_eq] at h
 exact h.1.1.2
def advW : Bs := [97, 100, 118, 105, 115, 111, 114, 121]
def affW : Bs := [97, 102, 102, 101, 99, 116, 115]
def xm (x : Adv) : List Bs := [advW, x.id, Lib.decDigits x.rev.toNat, Lib.decDigits x.sev.toNat]
def uk (a : Aff) : List Bs := [affW, qe a.sch, a.name, xj a.its]
def jo (x : Adv) (k : Nat) : List (List Bs) := xm x :: (x.aff.take k).map uk
theorem ze7 {x : Adv} {k : Nat} (h : k < x.aff.length) : jo x (k + 1) = jo x k ++ [uk x.aff[k]] := by
 unfold jo
 rw [List.take_succ_eq_append_getElem h, List.map_append]
 rfl
def qc (x : Adv) : List (List Bs) := jo x x.aff.length
def encV (x : Adv) : Bs × Int := if ql x = true then (if encE (qc x) = 0 then (doc (qc x), 0) else ([], encE (qc x))) else ([], 1)
end V
end Go.Proofs.YtiloljoancdcbaaGreatDoor
namespace Go.Proofs.YtiloljoancdcbaaGreatDoor.V
def EcOk (n : Int) (x : Ec) : Prop := x = ebot ∨ x = etop ∨ ∃ c : Cut, valid n c.1 = true ∧ x = eat c
theorem za6 {n : Int} {x : Itv} (h : zj n x = true) : EcOk n (eLow x) := by
 by_cases hk : x.lk = 0
 ·exact .inl (zb3 hk)
 ·exact .inr (.inr ⟨x.low, xy h hk, zbe h hk⟩)
theorem zbk {n : Int} {x : Itv} (h : zj n x = true) : EcOk n (ks x) := by
 by_cases hk : x.hk = 0
 ·exact .inr (.inl (zaq hk))
 ·exact .inr (.inr ⟨x.high, jp h hk, vu h hk⟩)
theorem zrb {n : Int} {x : Itv} (h : zj n x = true) : decide (ecmp n (eLow x) (ks x) < 0) = yw n x := by
 unfold yw
 by_cases h1 : x.lk = 0
 ·rw [zb3 h1, decide_eq_true h1, Bool.true_or]
  refine decide_eq_true ?_
  by_cases h2 : x.hk = 0
  ·rw [zaq h2]; unfold ecmp ebot etop; simp
  ·rw [vu h h2]; unfold ecmp ebot eat; simp
 ·rw [decide_eq_false h1, Bool.false_or]
  by_cases h2 : x.hk = 0
  ·rw [decide_eq_true h2, Bool.true_or, zbe h h1, zaq h2]
   exact decide_eq_true (by unfold ecmp eat etop; simp)
  ·rw [decide_eq_false h2, Bool.false_or, zbe h h1, vu h h2, zee]
theorem zuo {n : Int} {y x : Itv} (hy : zj n y = true) (hx : zj n x = true) : decide (ecmp n (ks y) (eLow x) < 0) = vw n y x := by
 unfold vw
 by_cases h1 : y.hk = 0
 ·rw [zaq h1, decide_eq_true h1]
  refine decide_eq_false ?_
  by_cases h2 : x.lk = 0
  ·rw [zb3 h2]; unfold ecmp etop ebot; simp
  ·rw [zbe hx h2]; unfold ecmp etop eat; simp
 ·rw [decide_eq_false h1]
  by_cases h2 : x.lk = 0
  ·rw [decide_eq_true h2, vu hy h1, zb3 h2]
   exact decide_eq_false (by unfold ecmp eat ebot; simp)
  ·rw [decide_eq_false h2, vu hy h1, zbe hx h2, zee]
   rfl
end Go.Proofs.YtiloljoancdcbaaGreatDoor.V
namespace Go.Proofs.YtiloljoancdcbaaGreatDoor.V
theorem zis {n : Int} {x : Ec} (hx : EcOk n x) : ∀ {l : List Ec}, (∀ y ∈ l, EcOk n y) → ∀ y ∈ radd n x l, EcOk n y
 | [], _, y, hy => by
  rw [radd] at hy
  rw [List.mem_singleton.1 hy]; exact hx
 | z :: l, h, y, hy => by
  have ih := zis hx (l := l) (fun y hy => h y (by simp [hy]))
  unfold radd at hy
  split at hy
  ·rcases List.mem_cons.1 hy with rfl | hy
   ·exact h _ (by simp)
   ·exact ih y hy
  ·split at hy
   ·rcases List.mem_cons.1 hy with rfl | hy
    ·split
     ·exact h _ (by simp)
     ·exact hx
    ·exact h y (by simp [hy])
   ·rcases List.mem_cons.1 hy with rfl | hy
    ·exact hx
    ·exact h y hy
theorem zch (n : Int) (x : Ec) : ∀ l : List Ec, (radd n x l).length ≤ l.length + 1 ∧ 0 < (radd n x l).length
 | [] => by simp [radd]
 | z :: l => by
  have ih := zch n x l
  unfold radd
  split
  ·simp; omega
  ·split
   ·simp
   ·simp
theorem addI_ok {n : Int} {x : Itv} (hx : zj n x = true) {l : List Ec} (h : ∀ y ∈ l, EcOk n y) : ∀ y ∈ addI n l x, EcOk n y :=
 zis (zbk hx) (zis (za6 hx) h)
theorem addI_len (n : Int) (l : List Ec) (x : Itv) : (addI n l x).length ≤ l.length + 2 := by
 have h1 := (zch n (eLow x) l).1
 have h2 := (zch n (ks x) (radd n (eLow x) l)).1
 unfold addI
 omega
theorem zoz {n : Int} : ∀ {m : List Itv} {l : List Ec}, (∀ x ∈ m, zj n x = true) → (∀ y ∈ l, EcOk n y) → ∀ y ∈ m.foldl (addI n) l, EcOk n y
 | [], _, _, h => h
 | x :: m, l, hm, h => zoz (m := m) (fun z hz => hm z (by simp [hz])) (addI_ok (hm x (by simp)) h)
theorem zk0 (n : Int) : ∀ (m : List Itv) (l : List Ec), (m.foldl (addI n) l).length ≤ l.length + 2 * m.length
 | [], l => by simp
 | x :: m, l => by
  have h1 := zk0 n m (addI n l x)
  have h2 := addI_len n l x
  rw [List.foldl_cons, List.length_cons]
  omega
theorem zki (n : Int) : ∀ (m : List Itv) (l : List Ec), 0 < l.length → 0 < (m.foldl (addI n) l).length
 | [], _l, h => h
 | x :: m, l, _h => zki n m (addI n l x) (zch n _ _).2
theorem zuj {n : Int} {m : List Itv} {k : Nat} (l : List Ec) (h : k < m.length) : (m.take (k + 1)).foldl (addI n) l = radd n (ks m[k]) (radd n (eLow m[k]) ((m.take k).foldl (addI n) l)) := by
 rw [List.take_succ_eq_append_getElem h, List.foldl_append]
 rfl
theorem ends_ok (n : Int) : ∀ y ∈ [ebot, etop], EcOk n y := by
 intro y hy
 simp at hy
 rcases hy with rfl | rfl
 ·exact .inl rfl
 ·exact .inr (.inl rfl)
theorem EcOk.side {n : Int} {x : Ec} (h : EcOk n x) : 0 ≤ x.s ∧ x.s ≤ 1 := by
 rcases h with rfl | rfl | ⟨c, _, rfl⟩
 ·simp [ebot]
 ·simp [etop]
 ·unfold eat; split <;> simp
theorem _root_.Go.Proofs.YtiloljoancdcbaaGreatDoor.zys {P : Prop} (h : P := by
 rw [List.drop_eq_getElem_cons (by omega : i < C.length), List.drop_eq_getElem_cons hi]
 rw [rrun]
 simp [hn]) : P := h
theorem zug {h : Ec → Ec → Bool} {C : List Ec} {i : Nat} (hi : i + 1 < C.length) (hn : h C[i] C[i + 1] = false) : rrun h none (C.drop i) = rrun h none (C.drop (i + 1)) := by
 exact zys
theorem zue {h : Ec → Ec → Bool} {C : List Ec} {i : Nat} (hi : i + 1 < C.length) (hn : h C[i] C[i + 1] = true) : rrun h none (C.drop i) = rrun h (some C[i]) (C.drop (i + 1)) := by
 exact zys
theorem rrun_on {h : Ec → Ec → Bool} {C : List Ec} {i : Nat} {f : Ec} (hi : i + 1 < C.length) (hn : h C[i] C[i + 1] = true) : rrun h (some f) (C.drop i) = rrun h (some f) (C.drop (i + 1)) := by
 exact zys
theorem rrun_end {h : Ec → Ec → Bool} {C : List Ec} {i : Nat} (hi : ¬ i + 1 < C.length) : rrun h none (C.drop i) = [] := by
 have hl : (C.drop i).length ≤ 1 := by rw [List.length_drop]; omega
 rcases hd : C.drop i with _ | ⟨e, _ | ⟨e', l⟩⟩
 ·rfl
 ·rfl
 ·rw [hd] at hl; simp at hl
theorem zrq {h : Ec → Ec → Bool} {C : List Ec} {i : Nat} {f : Ec} (hi : i < C.length) (hn : ∀ hj : i + 1 < C.length, h C[i] C[i + 1] = false) : rrun h (some f) (C.drop i) = btw f C[i] :: rrun h none (C.drop i) := by
 by_cases hj : i + 1 < C.length
 ·have := hn hj
  rw [List.drop_eq_getElem_cons hi, List.drop_eq_getElem_cons hj, rrun, rrun]
  simp [this]
 ·rw [List.drop_eq_getElem_cons hi, List.drop_eq_nil_of_le (by omega), rrun, rrun]
end Go.Proofs.YtiloljoancdcbaaGreatDoor.V
namespace Go.Proofs.YtiloljoancdcbaaGreatDoor
open Go.RowKit
namespace V
def pkC (p q : Int × Bs) : Int := orI [Lib.compareInt p.1 q.1, Lib.compareBytes p.2 q.2]
theorem pkC_lt {p q : Int × Bs} : pkC p q < 0 ↔ p.1 < q.1 ∨ p.1 = q.1 ∧ cb p.2 q.2 < 0 := by
 have : pkC p q = cor (Lib.compareInt p.1 q.1) (cb p.2 q.2) := by
  show cor _ (cor _ 0) = _
  rw [zcm]
 rw [this]
 unfold Lib.compareInt cor
 repeat' split
 all_goals (first | omega | (simp_all; done) | (simp at *; omega))
theorem zup {p q r : Int × Bs} (h : pkC p q < 0) (g : pkC q r < 0) : pkC p r < 0 := by
 rw [pkC_lt] at *
 rcases h with h | ⟨h, h2⟩
 ·rcases g with g | ⟨g, g2⟩
  ·exact .inl (by omega)
  ·exact .inl (by omega)
 ·rcases g with g | ⟨g, g2⟩
  ·exact .inl (by omega)
  ·refine .inr ⟨by omega, ?_⟩
   have h3 := zau p.2 q.2 r.2 (by omega) (by omega)
   by_cases e : cb p.2 r.2 = 0
   ·have e2 := zkl e
    rw [e2] at h2
    rw [ko r.2 q.2] at g2
    omega
   ·omega
theorem pkC_tri {p q : Int × Bs} (h : ¬ pkC p q < 0) (hne : ¬ q = p) : pkC q p < 0 := by
 rw [pkC_lt] at *
 by_cases h1 : q.1 < p.1
 ·exact .inl h1
 ·have h2 : q.1 = p.1 := by
   by_cases h3 : p.1 < q.1
   ·exact absurd (.inl h3) h
   ·omega
  refine .inr ⟨h2, ?_⟩
  have h4 := ko p.2 q.2
  have h5 : ¬ cb p.2 q.2 < 0 := fun e => h (.inr ⟨h2.symm, e⟩)
  by_cases h6 : cb p.2 q.2 = 0
  ·exact absurd (Prod.ext h2 (zkl h6).symm) hne
  ·rw [h4]; omega
def Asc (l : List (Int × Bs)) : Prop := l.Pairwise fun a b => pkC a b < 0
def km (p : Int × Bs) (l : List (Int × Bs)) : Nat → List (Int × Bs) × Bool
 | 0 => ([], false)
 | k + 1 => match l[k]? with
  | none => km p l k
  | some x => ((if (km p l k).2 = false ∧ pkC p x < 0 then (km p l k).1 ++ [p] else (km p l k).1) ++ [x], (km p l k).2 || decide (pkC p x < 0) || decide (x = p))
def addP (p : Int × Bs) (l : List (Int × Bs)) : List (Int × Bs) := if (km p l l.length).2 = true then (km p l l.length).1 else (km p l l.length).1 ++ [p]
theorem zcw {p : Int × Bs} {l : List (Int × Bs)} {k : Nat} (h : k < l.length) : km p l (k + 1) = ((if (km p l k).2 = false ∧ pkC p l[k] < 0 then (km p l k).1 ++ [p] else (km p l k).1) ++ [l[k]], (km p l k).2 || decide (pkC p l[k] < 0) || decide (l[k] = p)) := by
 rw [km, List.getElem?_eq_getElem h]
theorem zm7 {p : Int × Bs} {l : List (Int × Bs)} (hl : Asc l) : ∀ k, k ≤ l.length → ((km p l k).2 = true ∧ Asc ((km p l k).1 ++ l.drop k)) ∨ ((km p l k).2 = false ∧ (km p l k).1 = l.take k ∧ ∀ x ∈ l.take k, pkC x p < 0)
 | 0, _ => .inr ⟨rfl, rfl, fun x hx => by simp at hx⟩
 | k + 1, hk => by
  have hlt : k < l.length := by omega
  have hd := List.drop_eq_getElem_cons hlt
  have ht : l.take (k + 1) = l.take k ++ [l[k]] := List.take_succ_eq_append_getElem hlt
  have hsplit : l = l.take k ++ l[k] :: l.drop (k + 1) := by rw [← hd, List.take_append_drop]
  rcases zm7 hl k (by omega) with ⟨h1, h2⟩ | ⟨h1, h2, h3⟩
  ·left
   rw [zcw hlt, h1]
   refine ⟨by simp, ?_⟩
   rw [if_neg (by simp)]
   rw [hd] at h2
   simpa using h2
  ·rw [zcw hlt, h1, h2]
   by_cases hp : pkC p l[k] < 0
   ·left
    refine ⟨by simp [hp], ?_⟩
    rw [if_pos ⟨rfl, hp⟩]
    have hl2 := hl
    unfold Asc at hl2 ⊢
    rw [hsplit, List.pairwise_append, List.pairwise_cons] at hl2
    obtain ⟨a1, ⟨a2, a3⟩, a4⟩ := hl2
    have e : l.take k ++ [p] ++ [l[k]] ++ l.drop (k + 1) = l.take k ++ (p :: l[k] :: l.drop (k + 1)) := by simp
    rw [show ((l.take k ++ [p] ++ [l[k]], false || decide (pkC p l[k] < 0) || decide (l[k] = p)) : List (Int × Bs) × Bool).1 = l.take k ++ [p] ++ [l[k]] from rfl, e, List.pairwise_append, List.pairwise_cons, List.pairwise_cons]
    refine ⟨a1, ⟨fun y hy => ?_, a2, a3⟩, fun x hx y hy => ?_⟩
    ·rcases List.mem_cons.1 hy with rfl | hy
     ·exact hp
     ·exact zup hp (a2 y hy)
    ·rcases List.mem_cons.1 hy with rfl | hy
     ·exact h3 x hx
     ·exact a4 x hx y hy
   ·rw [if_neg (fun e => hp e.2)]
    by_cases he : l[k] = p
    ·left
     refine ⟨by simp [he], ?_⟩
     show Asc (l.take k ++ [l[k]] ++ l.drop (k + 1))
     rw [List.append_assoc, List.singleton_append, ← hsplit]
     exact hl
    ·right
     refine ⟨by simp [hp, he], ht.symm, fun x hx => ?_⟩
     rw [ht] at hx
     rcases List.mem_append.1 hx with hx | hx
     ·exact h3 x hx
     ·rw [List.mem_singleton.1 hx]
      exact pkC_tri hp he
theorem addP_asc {p : Int × Bs} {l : List (Int × Bs)} (hl : Asc l) : Asc (addP p l) := by
 unfold addP
 rcases zm7 (p := p) hl l.length (Nat.le_refl _) with ⟨h1, h2⟩ | ⟨h1, h2, h3⟩
 ·rw [if_pos h1]
  simpa using h2
 ·rw [if_neg (by rw [h1]; decide), h2, List.take_length]
  rw [List.take_length] at h3
  unfold Asc at hl ⊢
  rw [List.pairwise_append]
  exact ⟨hl, List.pairwise_singleton _ _, fun x hx y hy => by rw [List.mem_singleton.1 hy]; exact h3 x hx⟩
theorem zev {p : Int × Bs} {l : List (Int × Bs)} : ∀ k, k ≤ l.length → (∀ x ∈ (km p l k).1, x ∈ l ∨ x = p) ∧ (km p l k).1.length ≤ k + 1 ∧ ((km p l k).2 = false → (km p l k).1.length = k)
 | 0, _ => ⟨fun x hx => by simp [km] at hx, by simp [km], fun _ => rfl⟩
 | k + 1, hk => by
  have hlt : k < l.length := by omega
  obtain ⟨h1, h2, h3⟩ := zev (p := p) (l := l) k (by omega)
  rw [zcw hlt]
  by_cases hc : (km p l k).2 = false ∧ pkC p l[k] < 0
  ·rw [if_pos hc]
   refine ⟨fun x hx => ?_, by simp; have := h3 hc.1; omega, fun e => by simp [hc.2] at e⟩
   rcases List.mem_append.1 hx with hx | hx
   ·rcases List.mem_append.1 hx with hx | hx
    ·exact h1 x hx
    ·exact .inr (List.mem_singleton.1 hx)
   ·rw [List.mem_singleton.1 hx]; exact .inl (List.getElem_mem hlt)
  ·rw [if_neg hc]
   refine ⟨fun x hx => ?_, by simp; omega, fun e => ?_⟩
   ·rcases List.mem_append.1 hx with hx | hx
    ·exact h1 x hx
    ·rw [List.mem_singleton.1 hx]; exact .inl (List.getElem_mem hlt)
   ·have h4 : (km p l k).2 = false := by
     cases h : (km p l k).2
     ·rfl
     ·rw [h] at e; simp at e
    simp [h3 h4]
theorem addP_mem {p : Int × Bs} {l : List (Int × Bs)} {x : Int × Bs} (h : x ∈ addP p l) : x ∈ l ∨ x = p := by
 obtain ⟨h1, _, _⟩ := zev (p := p) (l := l) l.length (Nat.le_refl _)
 unfold addP at h
 split at h
 ·exact h1 x h
 ·rcases List.mem_append.1 h with h | h
  ·exact h1 x h
  ·exact .inr (List.mem_singleton.1 h)
theorem addP_len {p : Int × Bs} {l : List (Int × Bs)} : (addP p l).length ≤ l.length + 1 := by
 obtain ⟨_, h2, h3⟩ := zev (p := p) (l := l) l.length (Nat.le_refl _)
 unfold addP
 split
 ·exact h2
 ·rename_i h
  rw [List.length_append, h3 (by simpa using h)]
  exact Nat.le_refl _
def pk (a : Aff) : Int × Bs := (a.sch, a.name)
theorem zld {l : List Aff} : ∀ {m : Nat}, (∀ k (hk : k < l.length), k < m → zb0 l k l[k] = true) → yn l m = true
 | 0, _ => rfl
 | m + 1, h => by
  by_cases hm : m < l.length
  ·rw [zbu hm, zld (fun k hk hkm => h k hk (by omega)), h m hm (Nat.lt_succ_self m)]
   rfl
  ·show (yn l m && match l[m]? with | some a => zb0 l m a | none => true) = true
   rw [zld (fun k hk hkm => h k hk (by omega)), List.getElem?_eq_none (by omega)]
   rfl
theorem zul {l : List Aff} (hs : ∀ a ∈ l, kd a = true) (ha : Asc (l.map pk)) : yn l l.length = true := by
 refine zld (fun k hk _ => ?_)
 unfold zb0
 rw [hs _ (List.getElem_mem hk), Bool.and_true]
 by_cases h0 : k = 0
 ·simp [h0]
 ·have h1 : k - 1 < l.length := by omega
  have h2 := (List.pairwise_iff_getElem.1 ha) (k - 1) k (by simpa using h1) (by simpa using hk) (by omega)
  rw [List.getElem_map, List.getElem_map] at h2
  have h3 : affC l[k - 1] l[k] < 0 := h2
  rw [List.getD_eq_getElem?_getD, List.getElem?_eq_getElem h1]
  simp [h3]
structure MadeV (x : Adv) : Prop where
 id : xq x.id = true
 idl : x.id.length ≤ 100
 rev0 : 1 ≤ x.rev
 rev1 : x.rev ≤ 3
 sev0 : 1 ≤ x.sev
 sev1 : x.sev ≤ 10
 len : x.aff.length ≤ 3
 snd : ∀ a ∈ x.aff, kd a = true
 asc : Asc (x.aff.map pk)
def ziy : List Bs := [[119, 45, 49], [119, 45, 50], [119, 45, 51]]
theorem madeId {s : Bs} (h : s ∈ ziy) : xq s = true ∧ s.length ≤ 100 := by
 simp only [ziy, List.mem_cons, List.not_mem_nil, or_false] at h
 rcases h with e | e | e <;> (rw [e]; decide)
theorem MadeV.ok {x : Adv} (h : MadeV x) : ql x = true := by
 unfold ql zgl
 have h1 := h.id
 have := h.rev0; have := h.rev1; have := h.sev0; have := h.sev1; have := h.len
 rw [h1, zul h.snd h.asc]
 simp only [Bool.true_and, Bool.and_true, Bool.and_eq_true, decide_eq_true_eq]
 omega
theorem zm1 {n : Int} {l : List Itv} (h : Ok n l) (h0 : l ≠ []) : (xj l).length ≤ 10000 := by
 rcases l with _ | ⟨x, r⟩
 ·exact absurd rfl h0
 ·have hle : ∀ y ∈ zv x :: r.map zv, y.length ≤ 133 := by
   intro y hy
   rw [← List.map_cons (f := zv), List.mem_map] at hy
   obtain ⟨z, hz, rfl⟩ := hy
   exact (zgt (zpa h hz)).len
  have h1 := zoq hle
  have h2 := h.len
  rw [List.length_map] at h1
  rw [List.length_cons] at h2
  show (Lib.join (zv x :: r.map zv) orT).length ≤ _
  omega
theorem zq0 {ls : List (List Bs)} {b : Nat} (h : ∀ l ∈ ls, jt l l.length ≤ b) : kb ls ls.length ≤ ls.length * b := by
 unfold kb
 rw [List.take_length]
 induction ls with
 | nil => simp
 | cons l ls ih =>
  have h2 := h l (List.mem_cons_self ..)
  have h3 := ih (fun x hx => h x (List.mem_cons_of_mem _ hx))
  simp only [List.map_cons, List.sum_cons, List.length_cons]
  rw [Nat.add_mul, Nat.one_mul]
  omega
theorem zbc (n : Nat) (h : n < 11) : (Lib.decDigits n).length ≤ 2 := by
 have h : n = 0 ∨ n = 1 ∨ n = 2 ∨ n = 3 ∨ n = 4 ∨ n = 5 ∨ n = 6 ∨ n = 7 ∨ n = 8 ∨ n = 9 ∨ n = 10 := by omega
 rcases h with rfl | rfl | rfl | rfl | rfl | rfl | rfl | rfl | rfl | rfl | rfl <;> (unfold Lib.decDigits; simp [Lib.decDigits])
theorem MadeV.words {x : Adv} (h : MadeV x) : ∀ l ∈ qc x, l.length = 4 ∧ ∀ w ∈ l, w.length ≤ 10000 := by
 intro l hl
 unfold qc jo at hl
 rw [List.take_length] at hl
 rcases List.mem_cons.1 hl with rfl | hl
 ·refine ⟨rfl, fun w hw => ?_⟩
  have := h.rev0; have := h.rev1; have := h.sev0; have := h.sev1
  simp only [xm, List.mem_cons, List.not_mem_nil, or_false] at hw
  rcases hw with rfl | rfl | rfl | rfl
  ·decide
  ·have := h.idl; omega
  ·have := zbc x.rev.toNat (by omega); omega
  ·have := zbc x.sev.toNat (by omega); omega
 ·obtain ⟨a, ha, rfl⟩ := List.mem_map.1 hl
  obtain ⟨h1, h2, h3, h4⟩ := yk (h.snd a ha)
  refine ⟨rfl, fun w hw => ?_⟩
  simp only [uk, List.mem_cons, List.not_mem_nil, or_false] at hw
  rcases hw with rfl | rfl | rfl | rfl
  ·decide
  ·have := zd6 a.sch; omega
  ·have := zfd h1; omega
  ·exact zm1 (wu h4) (fun e => by rw [e] at h3; simp at h3)
theorem zt2 (a b c d : Bs) : jt [a, b, c, d] [a, b, c, d].length ≤ 3 * (a.length + b.length + c.length + d.length) + 8 := by
 have h1 := xu a; have h2 := xu b; have h3 := xu c; have h4 := xu d
 unfold jt
 simp only [List.length_cons, List.length_nil, List.take_succ_cons, List.take_zero, List.map_cons, List.map_nil, List.sum_cons, List.sum_nil]
 omega
theorem MadeV.line {x : Adv} (h : MadeV x) : ∀ l ∈ qc x, jt l l.length ≤ 31000 := by
 intro l hl
 unfold qc jo at hl
 rw [List.take_length] at hl
 rcases List.mem_cons.1 hl with rfl | hl
 ·have := h.rev0; have := h.rev1; have := h.sev0; have := h.sev1
  have h1 := h.idl
  have h2 := zbc x.rev.toNat (by omega)
  have h3 := zbc x.sev.toNat (by omega)
  have h4 := zt2 advW x.id (Lib.decDigits x.rev.toNat) (Lib.decDigits x.sev.toNat)
  have h5 : advW.length = 8 := rfl
  unfold xm
  omega
 ·obtain ⟨a, ha, rfl⟩ := List.mem_map.1 hl
  obtain ⟨h1, h2, h3, h4⟩ := yk (h.snd a ha)
  have h5 := zt2 affW (qe a.sch) a.name (xj a.its)
  have h6 := zd6 a.sch
  have h7 := zfd h1
  have h8 := zm1 (wu h4) (fun e => by rw [e] at h3; simp at h3)
  have h9 : affW.length = 7 := rfl
  unfold uk
  omega
theorem MadeV.enc {x : Adv} (h : MadeV x) : encE (qc x) = 0 := by
 have hw := h.words
 have hlen : (qc x).length ≤ 4 := by
  unfold qc jo
  rw [List.take_length, List.length_cons, List.length_map]
  have := h.len
  omega
 have hb : zx (qc x) = 0 := uh.2 (fun l hl => by
   obtain ⟨h1, h2⟩ := hw l hl
   exact zct.2 ⟨by omega, by omega, fun w hx => by have := h2 w hx; omega⟩)
 unfold encE
 rw [if_neg (by omega), if_pos hb, if_neg]
 have h1 := zq0 (ls := qc x) (b := 31000) (fun l hl => h.line l hl)
 have : (qc x).length * 31000 ≤ 4 * 31000 := Nat.mul_le_mul_right _ hlen
 omega
theorem MadeV.encV {x : Adv} (h : MadeV x) : V.encV x = (doc (qc x), 0) := by
 unfold V.encV
 rw [if_pos h.ok, if_pos h.enc]
end V
end Go.Proofs.YtiloljoancdcbaaGreatDoor
