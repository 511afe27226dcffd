/-
  Lemmas for the law.
-/
import Derived.Test.YtiloljoancdcbaaGreatDoorC40x01
import Derived.Test.YtiloljoancdcbaaGreatDoorC40x15
import Derived.Test.YtiloljoancdcbaaGreatDoorC40x14
import Derived.Lib.ItoaNum
set_option linter.all false
namespace Go.Proofs.YtiloljoancdcbaaGreatDoor
open Go.RowKit
namespace V
def jd (c : UInt8) : Bool := decide (33 ≤ c.toNat) && (decide (c.toNat ≤ 125) && !decide (c.toNat = 37))
def digU : Bs := [48, 49, 50, 51, 52, 53, 54, 55, 56, 57, 65, 66, 67, 68, 69, 70]
def encB (c : UInt8) : Bs := if jd c = true then [c] else [37, digU.getD (c.toNat / 16) 0, digU.getD (c.toNat % 16) 0]
def word (w : Bs) : Bs := if w.isEmpty then [126] else w.flatMap encB
def ue (c : UInt8) : Nat := if jd c = true then 1 else 3
def wj (w : Bs) : Nat := max ((w.map ue).sum) 1
theorem encB_len (c : UInt8) : (encB c).length = ue c := by unfold encB ue; split <;> rfl
theorem zvk (c : UInt8) : 1 ≤ ue c := by unfold ue; split <;> omega
theorem sizeC_le (c : UInt8) : ue c ≤ 3 := by unfold ue; split <;> omega
theorem zkg : ∀ w : Bs, (w.flatMap encB).length = (w.map ue).sum
 | [] => rfl
 | c :: w => by rw [List.flatMap_cons, List.length_append, encB_len, zkg w, List.map_cons, List.sum_cons]
theorem sum_le (w : Bs) : (w.map ue).sum ≤ 3 * w.length := by
 induction w with
 | nil => simp
 | cons c w ih => rw [List.map_cons, List.sum_cons, List.length_cons]; have := sizeC_le c; omega
theorem le_sum (w : Bs) : w.length ≤ (w.map ue).sum := by
 induction w with
 | nil => simp
 | cons c w ih => rw [List.map_cons, List.sum_cons, List.length_cons]; have := zvk c; omega
theorem vm (w : Bs) : (word w).length = wj w := by
 unfold word wj
 cases w with
 | nil => rfl
 | cons c r =>
  rw [List.isEmpty_cons, if_neg (by decide), zkg]
  have := le_sum (c :: r)
  rw [List.length_cons] at this
  omega
theorem xk (w : Bs) : wj w ≤ 3 * w.length + 1 := by
 unfold wj
 have := sum_le w
 omega
def jr (l : List Bs) (k : Nat) : Bs := (List.range k).flatMap fun i => (if i = 0 then [] else [32]) ++ word (l.getD i [])
def line (l : List Bs) : Bs := jr l l.length ++ [10]
def zbx (ls : List (List Bs)) (k : Nat) : Bs := (ls.take k).flatMap line
def doc (ls : List (List Bs)) : Bs := ls.flatMap line
def jc (l : List Bs) (k : Nat) : Nat := ((l.take k).map fun w => wj w + 1).sum
def jl (ls : List (List Bs)) (k : Nat) : Nat := ((ls.take k).map fun l => jc l l.length).sum
theorem zan (l : List Bs) (k : Nat) : jr l (k + 1) = jr l k ++ ((if k = 0 then [] else [32]) ++ word (l.getD k [])) := by
 unfold jr
 rw [List.range_succ, List.flatMap_append]
 simp
theorem _root_.Go.Proofs.YtiloljoancdcbaaGreatDoor.z0w {P : Prop} (h : P := by
 rw [List.take_succ_eq_append_getElem h, List.map_append, List.sum_append]
 simp) : P := h
theorem zb8 {l : List Bs} {k : Nat} (h : k < l.length) : jc l (k + 1) = jc l k + (wj l[k] + 1) := by
 unfold jc
 exact z0w
theorem zc8 {ls : List (List Bs)} {k : Nat} (h : k < ls.length) : zbx ls (k + 1) = zbx ls k ++ line ls[k] := by
 unfold zbx
 rw [List.take_succ_eq_append_getElem h, List.flatMap_append]
 simp
theorem ym {ls : List (List Bs)} {k : Nat} (h : k < ls.length) : jl ls (k + 1) = jl ls k + jc ls[k] ls[k].length := by
 unfold jl
 exact z0w
theorem ze0 (ls : List (List Bs)) : zbx ls ls.length = doc ls := by unfold zbx doc; rw [List.take_length]
theorem zbk {l : List Bs} : ∀ k, k ≤ l.length → (jr l k).length + 1 ≤ jc l k + 1 ∧ (0 < k → (jr l k).length + 1 = jc l k)
 | 0, _ => ⟨by simp [jr, jc], fun h => by omega⟩
 | k + 1, h => by
  have ih := zbk (l := l) k (by omega)
  rw [zan, zb8 (by omega), List.length_append, List.length_append, vm, List.getD_eq_getElem?_getD, List.getElem?_eq_getElem (by omega)]
  simp only [Option.getD_some]
  by_cases hk : k = 0
  ·subst hk
   have : (jr l 0).length = 0 := rfl
   have h2 : jc l 0 = 0 := rfl
   simp
   omega
  ·have := ih.2 (by omega)
   rw [if_neg hk, List.length_singleton]
   omega
theorem zgj {l : List Bs} (h : 0 < l.length) : (line l).length = jc l l.length := by
 unfold line
 rw [List.length_append, List.length_singleton]
 exact (zbk l.length (Nat.le_refl _)).2 h
theorem zbh {l : List Bs} {j k : Nat} (h : j ≤ k) (hk : k ≤ l.length) : jc l j ≤ jc l k := by
 induction k with
 | zero => obtain rfl : j = 0 := by omega
           exact Nat.le_refl _
 | succ k ih =>
  rcases Nat.lt_or_ge k j with hj | hj
  ·obtain rfl : j = k + 1 := by omega
   exact Nat.le_refl _
  ·rw [zb8 (by omega)]
   have := ih hj (by omega)
   omega
theorem zcq {ls : List (List Bs)} {j k : Nat} (h : j ≤ k) (hk : k ≤ ls.length) : jl ls j ≤ jl ls k := by
 induction k with
 | zero => obtain rfl : j = 0 := by omega
           exact Nat.le_refl _
 | succ k ih =>
  rcases Nat.lt_or_ge k j with hj | hj
  ·obtain rfl : j = k + 1 := by omega
   exact Nat.le_refl _
  ·rw [ym (by omega)]
   have := ih hj (by omega)
   omega
theorem zeq {ls : List (List Bs)} (hw : ∀ l ∈ ls, 0 < l.length) : ∀ k, k ≤ ls.length → (zbx ls k).length = jl ls k
 | 0, _ => rfl
 | k + 1, h => by
  rw [zc8 (by omega), ym (by omega), List.length_append, zeq hw k (by omega), zgj (hw _ (List.getElem_mem (by omega)))]
structure DocOk (ls : List (List Bs)) : Prop where
 lines : ls.length ≤ 1000
 line : ∀ l ∈ ls, 0 < l.length ∧ l.length ≤ 120 ∧ ∀ w ∈ l, w.length ≤ 32768
 size : jl ls ls.length ≤ 262144
end V
open Go.RowKit
namespace V
def hexV (c : UInt8) : Option Nat := if 48 ≤ c.toNat ∧ c.toNat ≤ 57 then some (c.toNat - 48) else if 65 ≤ c.toNat ∧ c.toNat ≤ 70 then some (c.toNat - 55) else none
def qv : Bs → Option Bs
 | [] => some []
 | c :: r => if jd c = true then (qv r).map (c :: ·) else if c = 37 then
   match r with
   | a :: b :: r' => match hexV a, hexV b with
    | some x, some y => if jd (UInt8.ofNat (16 * x + y)) = true then none else (qv r').map (UInt8.ofNat (16 * x + y) :: ·)
    | _, _ => none
   | _ => none
  else none
def unwR (s : Bs) : Option Bs := if s = [126] then some [] else match qv s with | some w => if w = [] then none else some w | none => none
def escB : Bs → Option Bs
 | a :: b :: r' => match hexV a, hexV b with
  | some x, some y => if jd (UInt8.ofNat (16 * x + y)) = true then none else (qv r').map (UInt8.ofNat (16 * x + y) :: ·)
  | _, _ => none
 | _ => none
theorem zfv (c : UInt8) (r : Bs) : qv (c :: r) = if jd c = true then (qv r).map (c :: ·) else if c = 37 then escB r else none := by
 match r with
 | [] => rfl
 | [_] => rfl
 | _ :: _ :: _ => rfl
theorem zdx {c : UInt8} {r : Bs} (h : jd c = true) : qv (c :: r) = (qv r).map (c :: ·) := by rw [zfv, if_pos h]
theorem zmr {c : UInt8} {r : Bs} (h : jd c = false) (hc : c ≠ 37) : qv (c :: r) = none := by
 rw [zfv, if_neg (by rw [h]; decide), if_neg hc]
theorem zoc (r : Bs) : qv (37 :: r) = escB r := by rw [zfv, if_neg (by decide), if_pos rfl]
theorem zdz {r : Bs} (h : r.length < 2) : qv (37 :: r) = none := by
 rw [zoc]
 match r, h with
 | [], _ => rfl
 | [_], _ => rfl
theorem zg2 {a b : UInt8} {r : Bs} (h : hexV a = none ∨ hexV b = none) : qv (37 :: a :: b :: r) = none := by
 rw [zoc, escB]
 rcases h with h | h
 ·simp [h]
 ·cases ha : hexV a <;> simp [h]
theorem zhh {a b : UInt8} {r : Bs} {x y : Nat} (ha : hexV a = some x) (hb : hexV b = some y) : qv (37 :: a :: b :: r) = if jd (UInt8.ofNat (16 * x + y)) = true then none else (qv r).map (UInt8.ofNat (16 * x + y) :: ·) := by
 rw [zoc, escB]
 simp [ha, hb]
theorem zeg {c : UInt8} {x : Nat} (h : hexV c = some x) : x < 16 := by
 unfold hexV at h
 split at h
 ·cases h; omega
 ·split at h
  ·cases h; omega
  ·cases h
theorem hexV_dig : ∀ n : Fin 256, (match hexV (UInt8.ofNat n.val) with | some x => decide (digU.getD x 0 = UInt8.ofNat n.val) | none => true) = true := by decide +kernel
theorem zm5 {c : UInt8} {x : Nat} (h : hexV c = some x) : digU.getD x 0 = c := by
 have := hexV_dig ⟨c.toNat, c.toNat_lt⟩
 simp only [UInt8.ofNat_toNat, h, decide_eq_true_eq] at this
 exact this
theorem enc_esc {a b : UInt8} {x y : Nat} (ha : hexV a = some x) (hb : hexV b = some y) (hp : jd (UInt8.ofNat (16 * x + y)) = false) : encB (UInt8.ofNat (16 * x + y)) = [37, a, b] := by
 have hx := zeg ha
 have hy := zeg hb
 unfold encB
 have e : (UInt8.ofNat (16 * x + y)).toNat = 16 * x + y := by simp; omega
 rw [hp, if_neg (by decide), e, show (16 * x + y) / 16 = x by omega, show (16 * x + y) % 16 = y by omega, zm5 ha, zm5 hb]
theorem zhd : ∀ (k : Nat) (s w : Bs), s.length ≤ k → qv s = some w → w.flatMap encB = s
 | _, [], w, _, h => by rw [qv] at h; cases h; rfl
 | 0, c :: r, w, hk, _ => by simp at hk
 | k + 1, c :: r, w, hk, h => by
  rw [List.length_cons] at hk
  rcases hp : jd c with _ | _
  ·by_cases hc : c = 37
   ·subst hc
    match r, h with
    | [], h => rw [zdz (by simp)] at h; cases h
    | [_], h => rw [zdz (by simp)] at h; cases h
    | a :: b :: r', h =>
     cases ha : hexV a with
     | none => rw [zg2 (.inl ha)] at h; cases h
     | some x =>
      cases hb : hexV b with
      | none => rw [zg2 (.inr hb)] at h; cases h
      | some y =>
       rw [zhh ha hb] at h
       split at h
       ·cases h
       ·rename_i hq
        have hq : jd (UInt8.ofNat (16 * x + y)) = false := by simpa using hq
        cases hr : qv r' with
        | none => rw [hr] at h; cases h
        | some w' =>
         rw [hr] at h
         simp only [Option.map_some, Option.some.injEq] at h
         subst h
         simp only [List.length_cons] at hk
         rw [List.flatMap_cons, zhd k r' w' (by omega) hr, enc_esc ha hb hq]
         rfl
   ·rw [zmr hp hc] at h; cases h
  ·rw [zdx hp] at h
   cases hr : qv r with
   | none => rw [hr] at h; cases h
   | some w' =>
    rw [hr] at h
    simp only [Option.map_some, Option.some.injEq] at h
    subst h
    rw [List.flatMap_cons, zhd k r w' (by omega) hr]
    unfold encB
    rw [if_pos hp]
    rfl
theorem zm1 {s w : Bs} (h : unwR s = some w) : word w = s := by
 unfold unwR at h
 split at h
 ·rename_i e
  cases h
  rw [e]; rfl
 ·cases hq : qv s with
  | none => rw [hq] at h; cases h
  | some v =>
   rw [hq] at h
   simp only at h
   split at h
   ·cases h
   ·rename_i hv
    cases h
    unfold word
    rw [if_neg (by simpa using hv)]
    exact zhd _ s _ (Nat.le_refl _) hq
theorem unw_at {s : Bs} {k : Nat} {out : Bs} (h : qv s = (qv (s.drop k)).map (out ++ ·)) (hk : k < s.length) :
  (jd s[k] = true → qv s = (qv (s.drop (k + 1))).map ((out ++ [s[k]]) ++ ·)) ∧
  (jd s[k] = false → s[k] ≠ 37 → qv s = none) ∧
  (s[k] = 37 → s.length < k + 3 → qv s = none) ∧
  (∀ h3 : k + 2 < s.length, s[k] = 37 → (hexV s[k + 1] = none ∨ hexV s[k + 2] = none) → qv s = none) ∧
  (∀ (h3 : k + 2 < s.length) x y, s[k] = 37 → hexV s[k + 1] = some x → hexV s[k + 2] = some y → (jd (UInt8.ofNat (16 * x + y)) = true → qv s = none) ∧ (jd (UInt8.ofNat (16 * x + y)) = false → qv s = (qv (s.drop (k + 3))).map ((out ++ [UInt8.ofNat (16 * x + y)]) ++ ·))) := by
 have hd := List.drop_eq_getElem_cons hk
 refine ⟨fun hp => ?_, fun hp hc => ?_, fun hc hl => ?_, fun h3 hc hb => ?_, fun h3 x y hc hx hy => ?_⟩
 ·rw [h, hd, zdx hp]
  cases qv (s.drop (k + 1)) <;> simp
 ·rw [h, hd, zmr hp hc]; rfl
 ·rw [h, hd, hc, zdz (by simp; omega)]; rfl
 ·have h1 := List.drop_eq_getElem_cons (show k + 1 < s.length by omega)
  have h2 := List.drop_eq_getElem_cons h3
  rw [h, hd, hc, h1, h2, zg2 hb]; rfl
 ·have h1 := List.drop_eq_getElem_cons (show k + 1 < s.length by omega)
  have h2 := List.drop_eq_getElem_cons h3
  rw [hd, hc, h1, h2, zhh hx hy] at h
  refine ⟨fun hp => ?_, fun hp => ?_⟩
  ·rw [h, if_pos hp]; rfl
  ·rw [h, if_neg (by rw [hp]; decide)]
   cases qv (s.drop (k + 3)) <;> simp
end V
open Go.RowKit
namespace V
def qg : List Bs → Option (List Bs)
 | [] => some []
 | s :: r => match unwR s with | none => none | some w => (qg r).map (w :: ·)
def chk (l : List Bs) : Int := if l.length = 0 then 1 else if 120 < l.length then 3 else if (l.all fun w => decide (w.length ≤ 32768)) = true then 0 else 3
def jn : List Bs → Option (List (List Bs))
 | [] => none
 | [x] => if x = [] then some [] else none
 | x :: y :: r => match qg (zd 32 x) with | none => none | some l => if chk l = 0 then (jn (y :: r)).map (l :: ·) else none
def decP (b : Bs) : List (List Bs) × Int := if 262144 < b.length then ([], 3) else match jn (zd 10 b) with | some ls => if ls.length ≤ 1000 then (ls, 0) else ([], 2) | none => ([], 2)
def kz : List Bs → Option (List (List Bs))
 | [] => some []
 | x :: r => match qg (zd 32 x) with | none => none | some l => (kz r).map (l :: ·)
def zw : List (List Bs) → Int
 | [] => 0
 | l :: r => if chk l = 0 then zw r else chk l
def encE (ls : List (List Bs)) : Int := if 1000 < ls.length then 3 else if zw ls = 0 then (if 262144 < jl ls ls.length then 3 else 0) else zw ls
theorem zcw {l : List Bs} : chk l = 0 ↔ 0 < l.length ∧ l.length ≤ 120 ∧ ∀ w ∈ l, w.length ≤ 32768 := by
 unfold chk
 split
 ·simp; omega
 ·split
  ·simp; omega
  ·split
   ·rename_i h
    simp only [List.all_eq_true, decide_eq_true_eq] at h
    exact ⟨fun _ => ⟨by omega, by omega, h⟩, fun _ => rfl⟩
   ·rename_i h
    simp only [List.all_eq_true, decide_eq_true_eq] at h
    exact ⟨fun e => by simp at e, fun e => absurd e.2.2 h⟩
theorem ui : ∀ {ls : List (List Bs)}, zw ls = 0 ↔ ∀ l ∈ ls, chk l = 0
 | [] => by simp [zw]
 | l :: r => by
  unfold zw
  split
  ·rename_i h
   rw [ui]
   simp [h]
  ·rename_i h
   simp [h]
theorem zim {ls : List (List Bs)} {k : Nat} (hk : k < ls.length) (h : zw ls = zw (ls.drop k)) : (chk ls[k] = 0 → zw ls = zw (ls.drop (k + 1))) ∧ (¬ chk ls[k] = 0 → zw ls = chk ls[k]) := by
 rw [List.drop_eq_getElem_cons hk, zw] at h
 refine ⟨fun e => ?_, fun e => ?_⟩
 ·rw [h, if_pos e]
 ·rw [h, if_neg e]
theorem zen {ls : List (List Bs)} (h : encE ls = 0) : DocOk ls := by
 unfold encE at h
 split at h
 ·cases h
 ·split at h
  ·rename_i h1 h2
   split at h
   ·cases h
   ·exact ⟨by omega, fun l hl => zcw.1 (ui.1 h2 l hl), by omega⟩
  ·rename_i h2
   exact absurd h h2
theorem zb6 {x : Bs} {t : List Bs} (h : t ≠ []) : jn (x :: t) = match qg (zd 32 x) with | none => none | some l => if chk l = 0 then (jn t).map (l :: ·) else none := by
 cases t with
 | nil => exact absurd rfl h
 | cons y r => rfl
theorem zdu : ∀ rows : List Bs, jn (rows ++ [[]]) = match kz rows with | none => none | some ls => if zw ls = 0 then some ls else none
 | [] => by simp [jn, kz, zw]
 | x :: r => by
  rw [List.cons_append, zb6 (by simp), kz, zdu r]
  cases hw : qg (zd 32 x) with
  | none => rfl
  | some l =>
   simp only
   cases hr : kz r with
   | none => simp
   | some ls =>
    simp only [Option.map_some]
    by_cases h1 : chk l = 0
    ·have e : zw (l :: ls) = zw ls := by rw [zw, if_pos h1]
     simp only [e, h1, if_true]
     by_cases h2 : zw ls = 0
     ·simp [h2]
     ·simp [h2]
    ·have e : zw (l :: ls) = chk l := by rw [zw, if_neg h1]
     simp [e, h1]
theorem zis (c : UInt8) : ∀ b : Bs, zd c (b ++ [c]) = zd c b ++ [[]]
 | [] => by simp [zd]
 | a :: b => by
  rw [List.cons_append, zd, zd, zis c b]
  split
  ·rfl
  ·cases hq : zd c b with
   | nil => exact absurd hq (zby c b)
   | cons y r => rfl
theorem zgp (c : UInt8) : ∀ {b : Bs}, b ≠ [] → b.getLast? ≠ some c → ∃ t x, zd c b = t ++ [x] ∧ x ≠ []
 | [], h, _ => absurd rfl h
 | [a], _, h => by
  have : (a == c) = false := by rw [beq_eq_false_iff_ne]; intro e; subst e; simp at h
  exact ⟨[], [a], by simp [zd, this], by simp⟩
 | a :: a2 :: b, _, h => by
  obtain ⟨t, x, he, hx⟩ := zgp c (b := a2 :: b) (by simp) (by simpa using h)
  rw [zd, he]
  split
  ·exact ⟨[] :: t, x, rfl, hx⟩
  ·cases t with
   | nil => exact ⟨[], a :: x, rfl, by simp⟩
   | cons y r => exact ⟨(a :: y) :: r, x, rfl, hx⟩
theorem zjq : ∀ (t : List Bs) {x : Bs}, x ≠ [] → jn (t ++ [x]) = none
 | [], x, h => by simp [jn, h]
 | y :: t, x, h => by
  rw [List.cons_append, zb6 (by simp), zjq t h]
  cases qg (zd 32 y) with
  | none => rfl
  | some l => simp
theorem zlc : ∀ {r : List Bs} {l : List Bs}, qg r = some l → l.length = r.length ∧ (l.map fun w => wj w + 1).sum = (r.map fun s => s.length + 1).sum
 | [], l, h => by cases h; exact ⟨rfl, rfl⟩
 | s :: r, l, h => by
  rw [qg] at h
  cases hs : unwR s with
  | none => rw [hs] at h; cases h
  | some w =>
   rw [hs] at h
   simp only at h
   cases hr : qg r with
   | none => rw [hr] at h; cases h
   | some l' =>
    rw [hr] at h
    cases h
    have ih := zlc hr
    have hw := vm w
    rw [zm1 hs] at hw
    simp only [List.length_cons, List.map_cons, List.sum_cons, ih.1, ih.2, hw]
    exact ⟨trivial, trivial⟩
theorem zdl (c : UInt8) : ∀ s : Bs, ((zd c s).map fun x => x.length + 1).sum = s.length + 1
 | [] => by simp [zd]
 | a :: s => by
  have ih := zdl c s
  rw [zd]
  split
  ·simp [ih]; omega
  ·cases hq : zd c s with
   | nil => exact absurd hq (zby c s)
   | cons y r =>
    rw [hq] at ih
    simp only [List.map_cons, List.sum_cons, List.length_cons] at ih ⊢
    omega
theorem line_sz {x : Bs} {l : List Bs} (h : qg (zd 32 x) = some l) : jc l l.length = x.length + 1 := by
 unfold jc
 rw [List.take_length, (zlc h).2, zdl]
theorem zto : ∀ {r : List Bs} {ls : List (List Bs)}, kz r = some ls → (ls.map fun l => jc l l.length).sum = (r.map fun s => s.length + 1).sum
 | [], ls, h => by cases h; rfl
 | x :: r, ls, h => by
  rw [kz] at h
  cases hs : qg (zd 32 x) with
  | none => rw [hs] at h; cases h
  | some l =>
   rw [hs] at h
   simp only at h
   cases hr : kz r with
   | none => rw [hr] at h; cases h
   | some ls' =>
    rw [hr] at h
    cases h
    simp only [List.map_cons, List.sum_cons, zto hr, line_sz hs]
theorem doc_sz {b : Bs} {ls : List (List Bs)} (h : kz (zd 10 b) = some ls) : jl ls ls.length = b.length + 1 := by
 unfold jl
 rw [List.take_length, zto h, zdl]
theorem decP_ref {b : Bs} (hl : (b ++ [10]).length ≤ 262144) : decP (b ++ [10]) = match kz (zd 10 b) with | none => ([], 2) | some ls => if encE ls = 0 then (ls, 0) else ([], 2) := by
 unfold decP
 rw [if_neg (by omega), zis, zdu]
 cases hr : kz (zd 10 b) with
 | none => rfl
 | some ls =>
  simp only
  have hz := doc_sz hr
  have hlen : (b ++ [(10 : UInt8)]).length = b.length + 1 := by simp
  unfold encE
  by_cases h1 : zw ls = 0
  ·rw [if_pos h1, if_pos h1, if_neg (show ¬ 262144 < jl ls ls.length by omega)]
   simp only
   by_cases h2 : ls.length ≤ 1000
   ·rw [if_pos h2, if_neg (show ¬ 1000 < ls.length by omega), if_pos rfl]
   ·rw [if_neg h2, if_pos (show 1000 < ls.length by omega), if_neg (by decide)]
  ·rw [if_neg h1, if_neg h1]
   simp only
   by_cases h2 : 1000 < ls.length
   ·rw [if_pos h2, if_neg (by decide)]
   ·rw [if_neg h2, if_neg h1]
theorem zfm : decP [] = ([], 0) := by simp [decP, zd, jn]
theorem zuj {b : Bs} (h0 : b ≠ []) (h : b.getLast? ≠ some 10) (hl : b.length ≤ 262144) : decP b = ([], 2) := by
 obtain ⟨t, x, he, hx⟩ := zgp 10 h0 h
 unfold decP
 rw [if_neg (by omega), he, zjq t hx]
end V
open Go.RowKit
namespace V
structure Aff where
 sch : Int
 name : Bs
 rs : Int
 its : List Itv
structure Adv where
 id : Bs
 rev : Int
 sev : Int
 aff : List Aff
def zA : Aff := ⟨0, [], 0, []⟩
def zV : Adv := ⟨[], 0, 0, []⟩
def affC (a b : Aff) : Int := orI [Lib.compareInt a.sch b.sch, Lib.compareBytes a.name b.name]
def zdp (n : Int) (r : Int) (l : List Itv) : Bool := decide (r = n) && (decide (1 ≤ l.length) && okR r l)
def kt (a : Aff) : Bool := xi a.name && zdp a.sch a.rs a.its
def zb4 (l : List Aff) (i : Nat) (a : Aff) : Bool := (decide (i = 0) || decide (affC (l.getD (i - 1) zA) a < 0)) && kt a
def yn (l : List Aff) : Nat → Bool
 | 0 => true
 | k + 1 => yn l k && match l[k]? with | some a => zb4 l k a | none => true
def zgw (id : Bs) (rev sev : Int) (n : Nat) : Bool := xz id && (decide (1 ≤ rev) && (decide (rev ≤ 1099511627776) && (decide (1 ≤ sev) && (decide (sev ≤ 10) && decide (n ≤ 16)))))
def qp (x : Adv) : Bool := zgw x.id x.rev x.sev x.aff.length && yn x.aff x.aff.length
theorem zbw {l : List Aff} {k : Nat} (h : k < l.length) : yn l (k + 1) = (yn l k && zb4 l k l[k]) := by
 show (yn l k && match l[k]? with | some a => zb4 l k a | none => true) = _
 rw [List.getElem?_eq_getElem h]
theorem zhs {l : List Aff} : ∀ {m k : Nat}, k ≤ m → yn l k = false → yn l m = false
 | 0, k, h, e => by obtain rfl : k = 0 := by omega
                    exact e
 | m + 1, k, h, e => by
  by_cases hk : k = m + 1
  ·subst hk; exact e
  ·have := zhs (m := m) (by omega) e
   show (yn l m && _) = false
   rw [this]; rfl
theorem zq1 {l : List Aff} {k : Nat} (h : k < l.length) (ha : zb4 l k l[k] = false) : yn l l.length = false :=
 zhs (k := k + 1) (by omega) (by rw [zbw h, ha, Bool.and_false])
theorem zkq {l : List Aff} : ∀ {m : Nat}, yn l m = true → ∀ k (hk : k < l.length), k < m → zb4 l k l[k] = true
 | 0, _, k, _, h => absurd h (Nat.not_lt_zero _)
 | m + 1, h, k, hk, hm => by
  by_cases hml : m < l.length
  ·rw [zbw hml, Bool.and_eq_true] at h
   by_cases e : k = m
   ·subst e; exact h.2
   ·exact zkq h.1 k hk (by omega)
  ·have h2 : (yn l m && match l[m]? with | some a => zb4 l m a | none => true) = true := h
   rw [Bool.and_eq_true] at h2
   exact zkq h2.1 k hk (by omega)
structure AdvP (x : Adv) : Prop where
 id : xz x.id = true
 rev0 : 1 ≤ x.rev
 rev1 : x.rev ≤ 1099511627776
 sev0 : 1 ≤ x.sev
 sev1 : x.sev ≤ 10
 len : x.aff.length ≤ 16
 all : yn x.aff x.aff.length = true
theorem jh {x : Adv} (h : qp x = true) : AdvP x := by
 unfold qp zgw at h
 simp only [Bool.and_eq_true, decide_eq_true_eq] at h
 exact ⟨h.1.1, h.1.2.1, h.1.2.2.1, h.1.2.2.2.1, h.1.2.2.2.2.1, h.1.2.2.2.2.2, h.2⟩
theorem AdvP.sound {x : Adv} (h : AdvP x) {a : Aff} (ha : a ∈ x.aff) : kt a = true := by
 obtain ⟨k, hk, rfl⟩ := List.mem_iff_getElem.1 ha
 have := zkq h.all k hk hk
 unfold zb4 at this
 rw [Bool.and_eq_true] at this
 exact this.2
theorem yk {a : Aff} (h : kt a = true) : xi a.name = true ∧ a.rs = a.sch ∧ 1 ≤ a.its.length ∧ okR a.sch a.its = true := by
 unfold kt zdp at h
 simp only [Bool.and_eq_true, decide_eq_true_eq] at h
 exact ⟨h.1, h.2.1, h.2.2.1, by have := h.2.2.2; rwa [h.2.1] at this⟩
theorem okR_sch {n : Int} {l : List Itv} (h : okR n l = true) : n = 1 ∨ n = 2 ∨ n = 3 := by
 have := (zca h).sch
 unfold scheme at this
 simp only [Bool.or_eq_true, beq_iff_eq] at this
 omega
theorem zfj {s : Bs} (h : xi s = true) : s.length ≤ 200 := by
 unfold xi at h
 simp only [Bool.and_eq_true, decide_eq_true_eq] at h
 exact h.1.1.2
def advW : Bs := [97, 100, 118, 105, 115, 111, 114, 121]
def affW : Bs := [97, 102, 102, 101, 99, 116, 115]
def xo (x : Adv) : List Bs := [advW, x.id, Lib.decDigits x.rev.toNat, Lib.decDigits x.sev.toNat]
def uk (a : Aff) : List Bs := [affW, qb a.sch, a.name, xl a.its]
def jt (x : Adv) (k : Nat) : List (List Bs) := xo x :: (x.aff.take k).map uk
theorem zfd {x : Adv} {k : Nat} (h : k < x.aff.length) : jt x (k + 1) = jt x k ++ [uk x.aff[k]] := by
 unfold jt
 rw [List.take_succ_eq_append_getElem h, List.map_append]
 rfl
def qi (x : Adv) : List (List Bs) := jt x x.aff.length
def encV (x : Adv) : Bs × Int := if qp x = true then (if encE (qi x) = 0 then (doc (qi x), 0) else ([], encE (qi x))) else ([], 1)
end V
end Go.Proofs.YtiloljoancdcbaaGreatDoor
namespace Go.Proofs.YtiloljoancdcbaaGreatDoor.V
def EcOk (n : Int) (x : Ec) : Prop := x = ebot ∨ x = etop ∨ ∃ c : Cut, valid n c.1 = true ∧ x = eat c
theorem za4 {n : Int} {x : Itv} (h : zj n x = true) : EcOk n (eLow x) := by
 by_cases hk : x.lk = 0
 ·exact .inl (zb7 hk)
 ·exact .inr (.inr ⟨x.low, xw h hk, zbc h hk⟩)
theorem zbi {n : Int} {x : Itv} (h : zj n x = true) : EcOk n (kw x) := by
 by_cases hk : x.hk = 0
 ·exact .inr (.inl (zao hk))
 ·exact .inr (.inr ⟨x.high, ju h hk, vl h hk⟩)
theorem zrm {n : Int} {x : Itv} (h : zj n x = true) : decide (ecmp n (eLow x) (kw x) < 0) = yw n x := by
 unfold yw
 by_cases h1 : x.lk = 0
 ·rw [zb7 h1, decide_eq_true h1, Bool.true_or]
  refine decide_eq_true ?_
  by_cases h2 : x.hk = 0
  ·rw [zao h2]; unfold ecmp ebot etop; simp
  ·rw [vl h h2]; unfold ecmp ebot eat; simp
 ·rw [decide_eq_false h1, Bool.false_or]
  by_cases h2 : x.hk = 0
  ·rw [decide_eq_true h2, Bool.true_or, zbc h h1, zao h2]
   exact decide_eq_true (by unfold ecmp eat etop; simp)
  ·rw [decide_eq_false h2, Bool.false_or, zbc h h1, vl h h2, zeh]
theorem zus {n : Int} {y x : Itv} (hy : zj n y = true) (hx : zj n x = true) : decide (ecmp n (kw y) (eLow x) < 0) = vp n y x := by
 unfold vp
 by_cases h1 : y.hk = 0
 ·rw [zao h1, decide_eq_true h1]
  refine decide_eq_false ?_
  by_cases h2 : x.lk = 0
  ·rw [zb7 h2]; unfold ecmp etop ebot; simp
  ·rw [zbc hx h2]; unfold ecmp etop eat; simp
 ·rw [decide_eq_false h1]
  by_cases h2 : x.lk = 0
  ·rw [decide_eq_true h2, vl hy h1, zb7 h2]
   exact decide_eq_false (by unfold ecmp eat ebot; simp)
  ·rw [decide_eq_false h2, vl hy h1, zbc hx h2, zeh]
   rfl
end Go.Proofs.YtiloljoancdcbaaGreatDoor.V
namespace Go.Proofs.YtiloljoancdcbaaGreatDoor.V
theorem zjc {n : Int} {x : Ec} (hx : EcOk n x) : ∀ {l : List Ec}, (∀ y ∈ l, EcOk n y) → ∀ y ∈ radd n x l, EcOk n y
 | [], _, y, hy => by
  rw [radd] at hy
  rw [List.mem_singleton.1 hy]; exact hx
 | z :: l, h, y, hy => by
  have ih := zjc hx (l := l) (fun y hy => h y (by simp [hy]))
  unfold radd at hy
  split at hy
  ·rcases List.mem_cons.1 hy with rfl | hy
   ·exact h _ (by simp)
   ·exact ih y hy
  ·split at hy
   ·rcases List.mem_cons.1 hy with rfl | hy
    ·split
     ·exact h _ (by simp)
     ·exact hx
    ·exact h y (by simp [hy])
   ·rcases List.mem_cons.1 hy with rfl | hy
    ·exact hx
    ·exact h y hy
theorem zcm (n : Int) (x : Ec) : ∀ l : List Ec, (radd n x l).length ≤ l.length + 1 ∧ 0 < (radd n x l).length
 | [] => by simp [radd]
 | z :: l => by
  have ih := zcm n x l
  unfold radd
  split
  ·simp; omega
  ·split
   ·simp
   ·simp
theorem addI_ok {n : Int} {x : Itv} (hx : zj n x = true) {l : List Ec} (h : ∀ y ∈ l, EcOk n y) : ∀ y ∈ addI n l x, EcOk n y :=
 zjc (zbi hx) (zjc (za4 hx) h)
theorem addI_len (n : Int) (l : List Ec) (x : Itv) : (addI n l x).length ≤ l.length + 2 := by
 have h1 := (zcm n (eLow x) l).1
 have h2 := (zcm n (kw x) (radd n (eLow x) l)).1
 unfold addI
 omega
theorem zpg {n : Int} : ∀ {m : List Itv} {l : List Ec}, (∀ x ∈ m, zj n x = true) → (∀ y ∈ l, EcOk n y) → ∀ y ∈ m.foldl (addI n) l, EcOk n y
 | [], _, _, h => h
 | x :: m, l, hm, h => zpg (m := m) (fun z hz => hm z (by simp [hz])) (addI_ok (hm x (by simp)) h)
theorem zlm (n : Int) : ∀ (m : List Itv) (l : List Ec), (m.foldl (addI n) l).length ≤ l.length + 2 * m.length
 | [], l => by simp
 | x :: m, l => by
  have h1 := zlm n m (addI n l x)
  have h2 := addI_len n l x
  rw [List.foldl_cons, List.length_cons]
  omega
theorem zk7 (n : Int) : ∀ (m : List Itv) (l : List Ec), 0 < l.length → 0 < (m.foldl (addI n) l).length
 | [], _l, h => h
 | x :: m, l, _h => zk7 n m (addI n l x) (zcm n _ _).2
theorem zun {n : Int} {m : List Itv} {k : Nat} (l : List Ec) (h : k < m.length) : (m.take (k + 1)).foldl (addI n) l = radd n (kw m[k]) (radd n (eLow m[k]) ((m.take k).foldl (addI n) l)) := by
 rw [List.take_succ_eq_append_getElem h, List.foldl_append]
 rfl
theorem ends_ok (n : Int) : ∀ y ∈ [ebot, etop], EcOk n y := by
 intro y hy
 simp at hy
 rcases hy with rfl | rfl
 ·exact .inl rfl
 ·exact .inr (.inl rfl)
theorem EcOk.side {n : Int} {x : Ec} (h : EcOk n x) : 0 ≤ x.s ∧ x.s ≤ 1 := by
 rcases h with rfl | rfl | ⟨c, _, rfl⟩
 ·simp [ebot]
 ·simp [etop]
 ·unfold eat; split <;> simp
theorem _root_.Go.Proofs.YtiloljoancdcbaaGreatDoor.zzo {P : Prop} (h : P := by
 rw [List.drop_eq_getElem_cons (by omega : i < C.length), List.drop_eq_getElem_cons hi]
 rw [rrun]
 simp [hn]) : P := h
theorem zul {h : Ec → Ec → Bool} {C : List Ec} {i : Nat} (hi : i + 1 < C.length) (hn : h C[i] C[i + 1] = false) : rrun h none (C.drop i) = rrun h none (C.drop (i + 1)) := by
 exact zzo
theorem zui {h : Ec → Ec → Bool} {C : List Ec} {i : Nat} (hi : i + 1 < C.length) (hn : h C[i] C[i + 1] = true) : rrun h none (C.drop i) = rrun h (some C[i]) (C.drop (i + 1)) := by
 exact zzo
theorem rrun_on {h : Ec → Ec → Bool} {C : List Ec} {i : Nat} {f : Ec} (hi : i + 1 < C.length) (hn : h C[i] C[i + 1] = true) : rrun h (some f) (C.drop i) = rrun h (some f) (C.drop (i + 1)) := by
 exact zzo
theorem rrun_end {h : Ec → Ec → Bool} {C : List Ec} {i : Nat} (hi : ¬ i + 1 < C.length) : rrun h none (C.drop i) = [] := by
 have hl : (C.drop i).length ≤ 1 := by rw [List.length_drop]; omega
 rcases hd : C.drop i with _ | ⟨e, _ | ⟨e', l⟩⟩
 ·rfl
 ·rfl
 ·rw [hd] at hl; simp at hl
theorem zry {h : Ec → Ec → Bool} {C : List Ec} {i : Nat} {f : Ec} (hi : i < C.length) (hn : ∀ hj : i + 1 < C.length, h C[i] C[i + 1] = false) : rrun h (some f) (C.drop i) = btw f C[i] :: rrun h none (C.drop i) := by
 by_cases hj : i + 1 < C.length
 ·have := hn hj
  rw [List.drop_eq_getElem_cons hi, List.drop_eq_getElem_cons hj, rrun, rrun]
  simp [this]
 ·rw [List.drop_eq_getElem_cons hi, List.drop_eq_nil_of_le (by omega), rrun, rrun]
end Go.Proofs.YtiloljoancdcbaaGreatDoor.V
namespace Go.Proofs.YtiloljoancdcbaaGreatDoor
open Go.RowKit
namespace V
def pkC (p q : Int × Bs) : Int := orI [Lib.compareInt p.1 q.1, Lib.compareBytes p.2 q.2]
def Asc (l : List (Int × Bs)) : Prop := l.Pairwise fun a b => pkC a b < 0
def pk (a : Aff) : Int × Bs := (a.sch, a.name)
theorem zlw {l : List Aff} : ∀ {m : Nat}, (∀ k (hk : k < l.length), k < m → zb4 l k l[k] = true) → yn l m = true
 | 0, _ => rfl
 | m + 1, h => by
  by_cases hm : m < l.length
  ·rw [zbw hm, zlw (fun k hk hkm => h k hk (by omega)), h m hm (Nat.lt_succ_self m)]
   rfl
  ·show (yn l m && match l[m]? with | some a => zb4 l m a | none => true) = true
   rw [zlw (fun k hk hkm => h k hk (by omega)), List.getElem?_eq_none (by omega)]
   rfl
theorem zup {l : List Aff} (hs : ∀ a ∈ l, kt a = true) (ha : Asc (l.map pk)) : yn l l.length = true := by
 refine zlw (fun k hk _ => ?_)
 unfold zb4
 rw [hs _ (List.getElem_mem hk), Bool.and_true]
 by_cases h0 : k = 0
 ·simp [h0]
 ·have h1 : k - 1 < l.length := by omega
  have h2 := (List.pairwise_iff_getElem.1 ha) (k - 1) k (by simpa using h1) (by simpa using hk) (by omega)
  rw [List.getElem_map, List.getElem_map] at h2
  have h3 : affC l[k - 1] l[k] < 0 := h2
  rw [List.getD_eq_getElem?_getD, List.getElem?_eq_getElem h1]
  simp [h3]
structure MadeV (x : Adv) : Prop where
 id : xz x.id = true
 idl : x.id.length ≤ 100
 rev0 : 1 ≤ x.rev
 rev1 : x.rev ≤ 3
 sev0 : 1 ≤ x.sev
 sev1 : x.sev ≤ 10
 len : x.aff.length ≤ 3
 snd : ∀ a ∈ x.aff, kt a = true
 asc : Asc (x.aff.map pk)
def madeIds : List Bs := [[119, 45, 49], [119, 45, 50], [119, 45, 51]]
theorem MadeV.ok {x : Adv} (h : MadeV x) : qp x = true := by
 unfold qp zgw
 have h1 := h.id
 have := h.rev0; have := h.rev1; have := h.sev0; have := h.sev1; have := h.len
 rw [h1, zup h.snd h.asc]
 simp only [Bool.true_and, Bool.and_true, Bool.and_eq_true, decide_eq_true_eq]
 omega
theorem znm {n : Int} {l : List Itv} (h : Ok n l) (h0 : l ≠ []) : (xl l).length ≤ 10000 := by
 rcases l with _ | ⟨x, r⟩
 ·exact absurd rfl h0
 ·have hle : ∀ y ∈ zv x :: r.map zv, y.length ≤ 133 := by
   intro y hy
   rw [← List.map_cons (f := zv), List.mem_map] at hy
   obtain ⟨z, hz, rfl⟩ := hy
   exact (zg7 (zpq h hz)).len
  have h1 := zo6 hle
  have h2 := h.len
  rw [List.length_map] at h1
  rw [List.length_cons] at h2
  show (Lib.join (zv x :: r.map zv) orT).length ≤ _
  omega
theorem _root_.Go.Proofs.YtiloljoancdcbaaGreatDoor.zz3 {P : Prop} (h : P := by
 have h3 := ih (fun x hx => h x (List.mem_cons_of_mem _ hx))
 simp only [List.map_cons, List.sum_cons, List.length_cons]
 rw [Nat.add_mul, Nat.one_mul]
 omega) : P := h
theorem zox {l : List Bs} {b : Nat} (h : ∀ w ∈ l, w.length ≤ b) : jc l l.length ≤ l.length * (3 * b + 2) := by
 unfold jc
 rw [List.take_length]
 induction l with
 | nil => simp
 | cons w l ih =>
  have h1 := xk w
  have h2 := h w (List.mem_cons_self ..)
  exact zz3
theorem zq8 {ls : List (List Bs)} {b : Nat} (h : ∀ l ∈ ls, jc l l.length ≤ b) : jl ls ls.length ≤ ls.length * b := by
 unfold jl
 rw [List.take_length]
 induction ls with
 | nil => simp
 | cons l ls ih =>
  have h2 := h l (List.mem_cons_self ..)
  exact zz3
theorem za9 (n : Nat) (h : n < 11) : (Lib.decDigits n).length ≤ 2 := by
 have h : n = 0 ∨ n = 1 ∨ n = 2 ∨ n = 3 ∨ n = 4 ∨ n = 5 ∨ n = 6 ∨ n = 7 ∨ n = 8 ∨ n = 9 ∨ n = 10 := by omega
 rcases h with rfl | rfl | rfl | rfl | rfl | rfl | rfl | rfl | rfl | rfl | rfl <;> (unfold Lib.decDigits; simp [Lib.decDigits])
theorem MadeV.words {x : Adv} (h : MadeV x) : ∀ l ∈ qi x, l.length = 4 ∧ ∀ w ∈ l, w.length ≤ 10000 := by
 intro l hl
 unfold qi jt at hl
 rw [List.take_length] at hl
 rcases List.mem_cons.1 hl with rfl | hl
 ·refine ⟨rfl, fun w hw => ?_⟩
  have := h.rev0; have := h.rev1; have := h.sev0; have := h.sev1
  simp only [xo, List.mem_cons, List.not_mem_nil, or_false] at hw
  rcases hw with rfl | rfl | rfl | rfl
  ·decide
  ·have := h.idl; omega
  ·have := za9 x.rev.toNat (by omega); omega
  ·have := za9 x.sev.toNat (by omega); omega
 ·obtain ⟨a, ha, rfl⟩ := List.mem_map.1 hl
  obtain ⟨h1, h2, h3, h4⟩ := yk (h.snd a ha)
  refine ⟨rfl, fun w hw => ?_⟩
  simp only [uk, List.mem_cons, List.not_mem_nil, or_false] at hw
  rcases hw with rfl | rfl | rfl | rfl
  ·decide
  ·have := zd8 a.sch; omega
  ·have := zfj h1; omega
  ·exact znm (zca h4) (fun e => by rw [e] at h3; simp at h3)
theorem zt7 (a b c d : Bs) : jc [a, b, c, d] [a, b, c, d].length ≤ 3 * (a.length + b.length + c.length + d.length) + 8 := by
 have h1 := xk a; have h2 := xk b; have h3 := xk c; have h4 := xk d
 unfold jc
 simp only [List.length_cons, List.length_nil, List.take_succ_cons, List.take_zero, List.map_cons, List.map_nil, List.sum_cons, List.sum_nil]
 omega
theorem MadeV.line {x : Adv} (h : MadeV x) : ∀ l ∈ qi x, jc l l.length ≤ 31000 := by
 intro l hl
 unfold qi jt at hl
 rw [List.take_length] at hl
 rcases List.mem_cons.1 hl with rfl | hl
 ·have := h.rev0; have := h.rev1; have := h.sev0; have := h.sev1
  have h1 := h.idl
  have h2 := za9 x.rev.toNat (by omega)
  have h3 := za9 x.sev.toNat (by omega)
  have h4 := zt7 advW x.id (Lib.decDigits x.rev.toNat) (Lib.decDigits x.sev.toNat)
  have h5 : advW.length = 8 := rfl
  unfold xo
  omega
 ·obtain ⟨a, ha, rfl⟩ := List.mem_map.1 hl
  obtain ⟨h1, h2, h3, h4⟩ := yk (h.snd a ha)
  have h5 := zt7 affW (qb a.sch) a.name (xl a.its)
  have h6 := zd8 a.sch
  have h7 := zfj h1
  have h8 := znm (zca h4) (fun e => by rw [e] at h3; simp at h3)
  have h9 : affW.length = 7 := rfl
  unfold uk
  omega
theorem MadeV.enc {x : Adv} (h : MadeV x) : encE (qi x) = 0 := by
 have hw := h.words
 have hlen : (qi x).length ≤ 4 := by
  unfold qi jt
  rw [List.take_length, List.length_cons, List.length_map]
  have := h.len
  omega
 have hb : zw (qi x) = 0 := ui.2 (fun l hl => by
   obtain ⟨h1, h2⟩ := hw l hl
   exact zcw.2 ⟨by omega, by omega, fun w hx => by have := h2 w hx; omega⟩)
 unfold encE
 rw [if_neg (by omega), if_pos hb, if_neg]
 have h1 := zq8 (ls := qi x) (b := 31000) (fun l hl => h.line l hl)
 have : (qi x).length * 31000 ≤ 4 * 31000 := Nat.mul_le_mul_right _ hlen
 omega
theorem MadeV.encV {x : Adv} (h : MadeV x) : V.encV x = (doc (qi x), 0) := by
 unfold V.encV
 rw [if_pos h.ok, if_pos h.enc]
end V
end Go.Proofs.YtiloljoancdcbaaGreatDoor
