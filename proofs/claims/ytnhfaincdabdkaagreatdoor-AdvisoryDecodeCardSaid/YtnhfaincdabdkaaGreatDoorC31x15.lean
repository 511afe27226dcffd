/-
  Lemmas for the law.
-/
import Derived.Test.YtnhfaincdabdkaaGreatDoorC31x01
import Derived.Test.YtnhfaincdabdkaaGreatDoorC31x14
import Derived.Test.YtnhfaincdabdkaaGreatDoorC31x13
import Derived.Lib.ItoaNum
set_option linter.all false
namespace Go.Proofs.YtnhfaincdabdkaaGreatDoor
open Go.RowKit
namespace V
def jc (c : UInt8) : Bool := decide (33 ≤ c.toNat) && (decide (c.toNat ≤ 125) && !decide (c.toNat = 37))
def digU : Bs := [48, 49, 50, 51, 52, 53, 54, 55, 56, 57, 65, 66, 67, 68, 69, 70]
def encB (c : UInt8) : Bs := if jc c = true then [c] else [37, digU.getD (c.toNat / 16) 0, digU.getD (c.toNat % 16) 0]
def word (w : Bs) : Bs := if w.isEmpty then [126] else w.flatMap encB
def ue (c : UInt8) : Nat := if jc c = true then 1 else 3
def wf (w : Bs) : Nat := max ((w.map ue).sum) 1
theorem encB_len (c : UInt8) : (encB c).length = ue c := by unfold encB ue; split <;> rfl
theorem zus (c : UInt8) : 1 ≤ ue c := by unfold ue; split <;> omega
theorem sizeC_le (c : UInt8) : ue c ≤ 3 := by unfold ue; split <;> omega
theorem zj1 : ∀ w : Bs, (w.flatMap encB).length = (w.map ue).sum
 | [] => rfl
 | c :: w => by rw [List.flatMap_cons, List.length_append, encB_len, zj1 w, List.map_cons, List.sum_cons]
theorem sum_le (w : Bs) : (w.map ue).sum ≤ 3 * w.length := by
 induction w with
 | nil => simp
 | cons c w ih => rw [List.map_cons, List.sum_cons, List.length_cons]; have := sizeC_le c; omega
theorem le_sum (w : Bs) : w.length ≤ (w.map ue).sum := by
 induction w with
 | nil => simp
 | cons c w ih => rw [List.map_cons, List.sum_cons, List.length_cons]; have := zus c; omega
theorem vm (w : Bs) : (word w).length = wf w := by
 unfold word wf
 cases w with
 | nil => rfl
 | cons c r =>
  rw [List.isEmpty_cons, if_neg (by decide), zj1]
  have := le_sum (c :: r)
  rw [List.length_cons] at this
  omega
theorem xp (w : Bs) : wf w ≤ 3 * w.length + 1 := by
 unfold wf
 have := sum_le w
 omega
def jr (l : List Bs) (k : Nat) : Bs := (List.range k).flatMap fun i => (if i = 0 then [] else [32]) ++ word (l.getD i [])
def line (l : List Bs) : Bs := jr l l.length ++ [10]
def zbk (ls : List (List Bs)) (k : Nat) : Bs := (ls.take k).flatMap line
def doc (ls : List (List Bs)) : Bs := ls.flatMap line
def jj (l : List Bs) (k : Nat) : Nat := ((l.take k).map fun w => wf w + 1).sum
def jo (ls : List (List Bs)) (k : Nat) : Nat := ((ls.take k).map fun l => jj l l.length).sum
theorem zae (l : List Bs) (k : Nat) : jr l (k + 1) = jr l k ++ ((if k = 0 then [] else [32]) ++ word (l.getD k [])) := by
 unfold jr
 rw [List.range_succ, List.flatMap_append]
 simp
theorem _root_.Go.Proofs.YtnhfaincdabdkaaGreatDoor.zzs {P : Prop} (h : P := by
 rw [List.take_succ_eq_append_getElem h, List.map_append, List.sum_append]
 simp) : P := h
theorem zbv {l : List Bs} {k : Nat} (h : k < l.length) : jj l (k + 1) = jj l k + (wf l[k] + 1) := by
 unfold jj
 exact zzs
theorem zcw {ls : List (List Bs)} {k : Nat} (h : k < ls.length) : zbk ls (k + 1) = zbk ls k ++ line ls[k] := by
 unfold zbk
 rw [List.take_succ_eq_append_getElem h, List.flatMap_append]
 simp
theorem yl {ls : List (List Bs)} {k : Nat} (h : k < ls.length) : jo ls (k + 1) = jo ls k + jj ls[k] ls[k].length := by
 unfold jo
 exact zzs
theorem zeq (ls : List (List Bs)) : zbk ls ls.length = doc ls := by unfold zbk doc; rw [List.take_length]
theorem za9 {l : List Bs} : ∀ k, k ≤ l.length → (jr l k).length + 1 ≤ jj l k + 1 ∧ (0 < k → (jr l k).length + 1 = jj l k)
 | 0, _ => ⟨by simp [jr, jj], fun h => by omega⟩
 | k + 1, h => by
  have ih := za9 (l := l) k (by omega)
  rw [zae, zbv (by omega), List.length_append, List.length_append, vm, List.getD_eq_getElem?_getD, List.getElem?_eq_getElem (by omega)]
  simp only [Option.getD_some]
  by_cases hk : k = 0
  ·subst hk
   have : (jr l 0).length = 0 := rfl
   have h2 : jj l 0 = 0 := rfl
   simp
   omega
  ·have := ih.2 (by omega)
   rw [if_neg hk, List.length_singleton]
   omega
theorem zf6 {l : List Bs} (h : 0 < l.length) : (line l).length = jj l l.length := by
 unfold line
 rw [List.length_append, List.length_singleton]
 exact (za9 l.length (Nat.le_refl _)).2 h
theorem za7 {l : List Bs} {j k : Nat} (h : j ≤ k) (hk : k ≤ l.length) : jj l j ≤ jj l k := by
 induction k with
 | zero => obtain rfl : j = 0 := by omega
           exact Nat.le_refl _
 | succ k ih =>
  rcases Nat.lt_or_ge k j with hj | hj
  ·obtain rfl : j = k + 1 := by omega
   exact Nat.le_refl _
  ·rw [zbv (by omega)]
   have := ih hj (by omega)
   omega
theorem zcd {ls : List (List Bs)} {j k : Nat} (h : j ≤ k) (hk : k ≤ ls.length) : jo ls j ≤ jo ls k := by
 induction k with
 | zero => obtain rfl : j = 0 := by omega
           exact Nat.le_refl _
 | succ k ih =>
  rcases Nat.lt_or_ge k j with hj | hj
  ·obtain rfl : j = k + 1 := by omega
   exact Nat.le_refl _
  ·rw [yl (by omega)]
   have := ih hj (by omega)
   omega
theorem zeh {ls : List (List Bs)} (hw : ∀ l ∈ ls, 0 < l.length) : ∀ k, k ≤ ls.length → (zbk ls k).length = jo ls k
 | 0, _ => rfl
 | k + 1, h => by
  rw [zcw (by omega), yl (by omega), List.length_append, zeh hw k (by omega), zf6 (hw _ (List.getElem_mem (by omega)))]
structure DocOk (ls : List (List Bs)) : Prop where
 lines : ls.length ≤ 1000
 line : ∀ l ∈ ls, 0 < l.length ∧ l.length ≤ 120 ∧ ∀ w ∈ l, w.length ≤ 32768
 size : jo ls ls.length ≤ 262144
end V
open Go.RowKit
namespace V
def hexV (c : UInt8) : Option Nat := if 48 ≤ c.toNat ∧ c.toNat ≤ 57 then some (c.toNat - 48) else if 65 ≤ c.toNat ∧ c.toNat ≤ 70 then some (c.toNat - 55) else none
def qv : Bs → Option Bs
 | [] => some []
 | c :: r => if jc c = true then (qv r).map (c :: ·) else if c = 37 then
   match r with
   | a :: b :: r' => match hexV a, hexV b with
    | some x, some y => if jc (UInt8.ofNat (16 * x + y)) = true then none else (qv r').map (UInt8.ofNat (16 * x + y) :: ·)
    | _, _ => none
   | _ => none
  else none
def unwR (s : Bs) : Option Bs := if s = [126] then some [] else match qv s with | some w => if w = [] then none else some w | none => none
def escB : Bs → Option Bs
 | a :: b :: r' => match hexV a, hexV b with
  | some x, some y => if jc (UInt8.ofNat (16 * x + y)) = true then none else (qv r').map (UInt8.ofNat (16 * x + y) :: ·)
  | _, _ => none
 | _ => none
theorem zfl (c : UInt8) (r : Bs) : qv (c :: r) = if jc c = true then (qv r).map (c :: ·) else if c = 37 then escB r else none := by
 match r with
 | [] => rfl
 | [_] => rfl
 | _ :: _ :: _ => rfl
theorem zdm {c : UInt8} {r : Bs} (h : jc c = true) : qv (c :: r) = (qv r).map (c :: ·) := by rw [zfl, if_pos h]
theorem zmb {c : UInt8} {r : Bs} (h : jc c = false) (hc : c ≠ 37) : qv (c :: r) = none := by
 rw [zfl, if_neg (by rw [h]; decide), if_neg hc]
theorem znx (r : Bs) : qv (37 :: r) = escB r := by rw [zfl, if_neg (by decide), if_pos rfl]
theorem zdp {r : Bs} (h : r.length < 2) : qv (37 :: r) = none := by
 rw [znx]
 match r, h with
 | [], _ => rfl
 | [_], _ => rfl
theorem zgq {a b : UInt8} {r : Bs} (h : hexV a = none ∨ hexV b = none) : qv (37 :: a :: b :: r) = none := by
 rw [znx, escB]
 rcases h with h | h
 ·simp [h]
 ·cases ha : hexV a <;> simp [h]
theorem zg5 {a b : UInt8} {r : Bs} {x y : Nat} (ha : hexV a = some x) (hb : hexV b = some y) : qv (37 :: a :: b :: r) = if jc (UInt8.ofNat (16 * x + y)) = true then none else (qv r).map (UInt8.ofNat (16 * x + y) :: ·) := by
 rw [znx, escB]
 simp [ha, hb]
theorem zd7 {c : UInt8} {x : Nat} (h : hexV c = some x) : x < 16 := by
 unfold hexV at h
 split at h
 ·cases h; omega
 ·split at h
  ·cases h; omega
  ·cases h
theorem hexV_dig : ∀ n : Fin 256, (match hexV (UInt8.ofNat n.val) with | some x => decide (digU.getD x 0 = UInt8.ofNat n.val) | none => true) = true := by decide +kernel
theorem zmq {c : UInt8} {x : Nat} (h : hexV c = some x) : digU.getD x 0 = c := by
 have := hexV_dig ⟨c.toNat, c.toNat_lt⟩
 simp only [UInt8.ofNat_toNat, h, decide_eq_true_eq] at this
 exact this
theorem enc_esc {a b : UInt8} {x y : Nat} (ha : hexV a = some x) (hb : hexV b = some y) (hp : jc (UInt8.ofNat (16 * x + y)) = false) : encB (UInt8.ofNat (16 * x + y)) = [37, a, b] := by
 have hx := zd7 ha
 have hy := zd7 hb
 unfold encB
 have e : (UInt8.ofNat (16 * x + y)).toNat = 16 * x + y := by simp; omega
 rw [hp, if_neg (by decide), e, show (16 * x + y) / 16 = x by omega, show (16 * x + y) % 16 = y by omega, zmq ha, zmq hb]
theorem zg1 : ∀ (k : Nat) (s w : Bs), s.length ≤ k → qv s = some w → w.flatMap encB = s
 | _, [], w, _, h => by rw [qv] at h; cases h; rfl
 | 0, c :: r, w, hk, _ => by simp at hk
 | k + 1, c :: r, w, hk, h => by
  rw [List.length_cons] at hk
  rcases hp : jc c with _ | _
  ·by_cases hc : c = 37
   ·subst hc
    match r, h with
    | [], h => rw [zdp (by simp)] at h; cases h
    | [_], h => rw [zdp (by simp)] at h; cases h
    | a :: b :: r', h =>
     cases ha : hexV a with
     | none => rw [zgq (.inl ha)] at h; cases h
     | some x =>
      cases hb : hexV b with
      | none => rw [zgq (.inr hb)] at h; cases h
      | some y =>
       rw [zg5 ha hb] at h
       split at h
       ·cases h
       ·rename_i hq
        have hq : jc (UInt8.ofNat (16 * x + y)) = false := by simpa using hq
        cases hr : qv r' with
        | none => rw [hr] at h; cases h
        | some w' =>
         rw [hr] at h
         simp only [Option.map_some, Option.some.injEq] at h
         subst h
         simp only [List.length_cons] at hk
         rw [List.flatMap_cons, zg1 k r' w' (by omega) hr, enc_esc ha hb hq]
         rfl
   ·rw [zmb hp hc] at h; cases h
  ·rw [zdm hp] at h
   cases hr : qv r with
   | none => rw [hr] at h; cases h
   | some w' =>
    rw [hr] at h
    simp only [Option.map_some, Option.some.injEq] at h
    subst h
    rw [List.flatMap_cons, zg1 k r w' (by omega) hr]
    unfold encB
    rw [if_pos hp]
    rfl
theorem zmm {s w : Bs} (h : unwR s = some w) : word w = s := by
 unfold unwR at h
 split at h
 ·rename_i e
  cases h
  rw [e]; rfl
 ·cases hq : qv s with
  | none => rw [hq] at h; cases h
  | some v =>
   rw [hq] at h
   simp only at h
   split at h
   ·cases h
   ·rename_i hv
    cases h
    unfold word
    rw [if_neg (by simpa using hv)]
    exact zg1 _ s _ (Nat.le_refl _) hq
theorem unw_at {s : Bs} {k : Nat} {out : Bs} (h : qv s = (qv (s.drop k)).map (out ++ ·)) (hk : k < s.length) :
  (jc s[k] = true → qv s = (qv (s.drop (k + 1))).map ((out ++ [s[k]]) ++ ·)) ∧
  (jc s[k] = false → s[k] ≠ 37 → qv s = none) ∧
  (s[k] = 37 → s.length < k + 3 → qv s = none) ∧
  (∀ h3 : k + 2 < s.length, s[k] = 37 → (hexV s[k + 1] = none ∨ hexV s[k + 2] = none) → qv s = none) ∧
  (∀ (h3 : k + 2 < s.length) x y, s[k] = 37 → hexV s[k + 1] = some x → hexV s[k + 2] = some y → (jc (UInt8.ofNat (16 * x + y)) = true → qv s = none) ∧ (jc (UInt8.ofNat (16 * x + y)) = false → qv s = (qv (s.drop (k + 3))).map ((out ++ [UInt8.ofNat (16 * x + y)]) ++ ·))) := by
 have hd := List.drop_eq_getElem_cons hk
 refine ⟨fun hp => ?_, fun hp hc => ?_, fun hc hl => ?_, fun h3 hc hb => ?_, fun h3 x y hc hx hy => ?_⟩
 ·rw [h, hd, zdm hp]
  cases qv (s.drop (k + 1)) <;> simp
 ·rw [h, hd, zmb hp hc]; rfl
 ·rw [h, hd, hc, zdp (by simp; omega)]; rfl
 ·have h1 := List.drop_eq_getElem_cons (show k + 1 < s.length by omega)
  have h2 := List.drop_eq_getElem_cons h3
  rw [h, hd, hc, h1, h2, zgq hb]; rfl
 ·have h1 := List.drop_eq_getElem_cons (show k + 1 < s.length by omega)
  have h2 := List.drop_eq_getElem_cons h3
  rw [hd, hc, h1, h2, zg5 hx hy] at h
  refine ⟨fun hp => ?_, fun hp => ?_⟩
  ·rw [h, if_pos hp]; rfl
  ·rw [h, if_neg (by rw [hp]; decide)]
   cases qv (s.drop (k + 3)) <;> simp
end V
open Go.RowKit
namespace V
def qg : List Bs → Option (List Bs)
 | [] => some []
 | s :: r => match unwR s with | none => none | some w => (qg r).map (w :: ·)
def chk (l : List Bs) : Int := if l.length = 0 then 1 else if 120 < l.length then 3 else if (l.all fun w => decide (w.length ≤ 32768)) = true then 0 else 3
def jm : List Bs → Option (List (List Bs))
 | [] => none
 | [x] => if x = [] then some [] else none
 | x :: y :: r => match qg (zd 32 x) with | none => none | some l => if chk l = 0 then (jm (y :: r)).map (l :: ·) else none
def decP (b : Bs) : List (List Bs) × Int := if 262144 < b.length then ([], 3) else match jm (zd 10 b) with | some ls => if ls.length ≤ 1000 then (ls, 0) else ([], 2) | none => ([], 2)
def kx : List Bs → Option (List (List Bs))
 | [] => some []
 | x :: r => match qg (zd 32 x) with | none => none | some l => (kx r).map (l :: ·)
def zw : List (List Bs) → Int
 | [] => 0
 | l :: r => if chk l = 0 then zw r else chk l
def encE (ls : List (List Bs)) : Int := if 1000 < ls.length then 3 else if zw ls = 0 then (if 262144 < jo ls ls.length then 3 else 0) else zw ls
theorem zck {l : List Bs} : chk l = 0 ↔ 0 < l.length ∧ l.length ≤ 120 ∧ ∀ w ∈ l, w.length ≤ 32768 := by
 unfold chk
 split
 ·simp; omega
 ·split
  ·simp; omega
  ·split
   ·rename_i h
    simp only [List.all_eq_true, decide_eq_true_eq] at h
    exact ⟨fun _ => ⟨by omega, by omega, h⟩, fun _ => rfl⟩
   ·rename_i h
    simp only [List.all_eq_true, decide_eq_true_eq] at h
    exact ⟨fun e => by simp at e, fun e => absurd e.2.2 h⟩
theorem uj : ∀ {ls : List (List Bs)}, zw ls = 0 ↔ ∀ l ∈ ls, chk l = 0
 | [] => by simp [zw]
 | l :: r => by
  unfold zw
  split
  ·rename_i h
   rw [uj]
   simp [h]
  ·rename_i h
   simp [h]
theorem zh7 {ls : List (List Bs)} {k : Nat} (hk : k < ls.length) (h : zw ls = zw (ls.drop k)) : (chk ls[k] = 0 → zw ls = zw (ls.drop (k + 1))) ∧ (¬ chk ls[k] = 0 → zw ls = chk ls[k]) := by
 rw [List.drop_eq_getElem_cons hk, zw] at h
 refine ⟨fun e => ?_, fun e => ?_⟩
 ·rw [h, if_pos e]
 ·rw [h, if_neg e]
theorem zgx {ls : List (List Bs)} (h : encE ls = 0) : DocOk ls := by
 unfold encE at h
 split at h
 ·cases h
 ·split at h
  ·rename_i h1 h2
   split at h
   ·cases h
   ·exact ⟨by omega, fun l hl => zck.1 (uj.1 h2 l hl), by omega⟩
  ·rename_i h2
   exact absurd h h2
theorem zbt {x : Bs} {t : List Bs} (h : t ≠ []) : jm (x :: t) = match qg (zd 32 x) with | none => none | some l => if chk l = 0 then (jm t).map (l :: ·) else none := by
 cases t with
 | nil => exact absurd rfl h
 | cons y r => rfl
theorem zdj : ∀ rows : List Bs, jm (rows ++ [[]]) = match kx rows with | none => none | some ls => if zw ls = 0 then some ls else none
 | [] => by simp [jm, kx, zw]
 | x :: r => by
  rw [List.cons_append, zbt (by simp), kx, zdj r]
  cases hw : qg (zd 32 x) with
  | none => rfl
  | some l =>
   simp only
   cases hr : kx r with
   | none => simp
   | some ls =>
    simp only [Option.map_some]
    by_cases h1 : chk l = 0
    ·have e : zw (l :: ls) = zw ls := by rw [zw, if_pos h1]
     simp only [e, h1, if_true]
     by_cases h2 : zw ls = 0
     ·simp [h2]
     ·simp [h2]
    ·have e : zw (l :: ls) = chk l := by rw [zw, if_neg h1]
     simp [e, h1]
theorem zic (c : UInt8) : ∀ b : Bs, zd c (b ++ [c]) = zd c b ++ [[]]
 | [] => by simp [zd]
 | a :: b => by
  rw [List.cons_append, zd, zd, zic c b]
  split
  ·rfl
  ·cases hq : zd c b with
   | nil => exact absurd hq (zbl c b)
   | cons y r => rfl
theorem zgc (c : UInt8) : ∀ {b : Bs}, b ≠ [] → b.getLast? ≠ some c → ∃ t x, zd c b = t ++ [x] ∧ x ≠ []
 | [], h, _ => absurd rfl h
 | [a], _, h => by
  have : (a == c) = false := by rw [beq_eq_false_iff_ne]; intro e; subst e; simp at h
  exact ⟨[], [a], by simp [zd, this], by simp⟩
 | a :: a2 :: b, _, h => by
  obtain ⟨t, x, he, hx⟩ := zgc c (b := a2 :: b) (by simp) (by simpa using h)
  rw [zd, he]
  split
  ·exact ⟨[] :: t, x, rfl, hx⟩
  ·cases t with
   | nil => exact ⟨[], a :: x, rfl, by simp⟩
   | cons y r => exact ⟨(a :: y) :: r, x, rfl, hx⟩
theorem zjb : ∀ (t : List Bs) {x : Bs}, x ≠ [] → jm (t ++ [x]) = none
 | [], x, h => by simp [jm, h]
 | y :: t, x, h => by
  rw [List.cons_append, zbt (by simp), zjb t h]
  cases qg (zd 32 y) with
  | none => rfl
  | some l => simp
theorem zkw : ∀ {r : List Bs} {l : List Bs}, qg r = some l → l.length = r.length ∧ (l.map fun w => wf w + 1).sum = (r.map fun s => s.length + 1).sum
 | [], l, h => by cases h; exact ⟨rfl, rfl⟩
 | s :: r, l, h => by
  rw [qg] at h
  cases hs : unwR s with
  | none => rw [hs] at h; cases h
  | some w =>
   rw [hs] at h
   simp only at h
   cases hr : qg r with
   | none => rw [hr] at h; cases h
   | some l' =>
    rw [hr] at h
    cases h
    have ih := zkw hr
    have hw := vm w
    rw [zmm hs] at hw
    simp only [List.length_cons, List.map_cons, List.sum_cons, ih.1, ih.2, hw]
    exact ⟨trivial, trivial⟩
theorem zda (c : UInt8) : ∀ s : Bs, ((zd c s).map fun x => x.length + 1).sum = s.length + 1
 | [] => by simp [zd]
 | a :: s => by
  have ih := zda c s
  rw [zd]
  split
  ·simp [ih]; omega
  ·cases hq : zd c s with
   | nil => exact absurd hq (zbl c s)
   | cons y r =>
    rw [hq] at ih
    simp only [List.map_cons, List.sum_cons, List.length_cons] at ih ⊢
    omega
theorem line_sz {x : Bs} {l : List Bs} (h : qg (zd 32 x) = some l) : jj l l.length = x.length + 1 := by
 unfold jj
 rw [List.take_length, (zkw h).2, zda]
theorem zs0 : ∀ {r : List Bs} {ls : List (List Bs)}, kx r = some ls → (ls.map fun l => jj l l.length).sum = (r.map fun s => s.length + 1).sum
 | [], ls, h => by cases h; rfl
 | x :: r, ls, h => by
  rw [kx] at h
  cases hs : qg (zd 32 x) with
  | none => rw [hs] at h; cases h
  | some l =>
   rw [hs] at h
   simp only at h
   cases hr : kx r with
   | none => rw [hr] at h; cases h
   | some ls' =>
    rw [hr] at h
    cases h
    simp only [List.map_cons, List.sum_cons, zs0 hr, line_sz hs]
theorem doc_sz {b : Bs} {ls : List (List Bs)} (h : kx (zd 10 b) = some ls) : jo ls ls.length = b.length + 1 := by
 unfold jo
 rw [List.take_length, zs0 h, zda]
theorem decP_ref {b : Bs} (hl : (b ++ [10]).length ≤ 262144) : decP (b ++ [10]) = match kx (zd 10 b) with | none => ([], 2) | some ls => if encE ls = 0 then (ls, 0) else ([], 2) := by
 unfold decP
 rw [if_neg (by omega), zic, zdj]
 cases hr : kx (zd 10 b) with
 | none => rfl
 | some ls =>
  simp only
  have hz := doc_sz hr
  have hlen : (b ++ [(10 : UInt8)]).length = b.length + 1 := by simp
  unfold encE
  by_cases h1 : zw ls = 0
  ·rw [if_pos h1, if_pos h1, if_neg (show ¬ 262144 < jo ls ls.length by omega)]
   simp only
   by_cases h2 : ls.length ≤ 1000
   ·rw [if_pos h2, if_neg (show ¬ 1000 < ls.length by omega), if_pos rfl]
   ·rw [if_neg h2, if_pos (show 1000 < ls.length by omega), if_neg (by decide)]
  ·rw [if_neg h1, if_neg h1]
   simp only
   by_cases h2 : 1000 < ls.length
   ·rw [if_pos h2, if_neg (by decide)]
   ·rw [if_neg h2, if_neg h1]
theorem zfc : decP [] = ([], 0) := by simp [decP, zd, jm]
theorem ztv {b : Bs} (h0 : b ≠ []) (h : b.getLast? ≠ some 10) (hl : b.length ≤ 262144) : decP b = ([], 2) := by
 obtain ⟨t, x, he, hx⟩ := zgc 10 h0 h
 unfold decP
 rw [if_neg (by omega), he, zjb t hx]
end V
open Go.RowKit
namespace V
structure Aff where
 sch : Int
 name : Bs
 rs : Int
 its : List Itv
structure Adv where
 id : Bs
 rev : Int
 sev : Int
 aff : List Aff
def zA : Aff := ⟨0, [], 0, []⟩
def zV : Adv := ⟨[], 0, 0, []⟩
def affC (a b : Aff) : Int := orI [Lib.compareInt a.sch b.sch, Lib.compareBytes a.name b.name]
def zdd (n : Int) (r : Int) (l : List Itv) : Bool := decide (r = n) && (decide (1 ≤ l.length) && okR r l)
def kr (a : Aff) : Bool := xg a.name && zdd a.sch a.rs a.its
def zbr (l : List Aff) (i : Nat) (a : Aff) : Bool := (decide (i = 0) || decide (affC (l.getD (i - 1) zA) a < 0)) && kr a
def ym (l : List Aff) : Nat → Bool
 | 0 => true
 | k + 1 => ym l k && match l[k]? with | some a => zbr l k a | none => true
def zgk (id : Bs) (rev sev : Int) (n : Nat) : Bool := xy id && (decide (1 ≤ rev) && (decide (rev ≤ 1099511627776) && (decide (1 ≤ sev) && (decide (sev ≤ 10) && decide (n ≤ 16)))))
def qp (x : Adv) : Bool := zgk x.id x.rev x.sev x.aff.length && ym x.aff x.aff.length
theorem zbj {l : List Aff} {k : Nat} (h : k < l.length) : ym l (k + 1) = (ym l k && zbr l k l[k]) := by
 show (ym l k && match l[k]? with | some a => zbr l k a | none => true) = _
 rw [List.getElem?_eq_getElem h]
theorem zhe {l : List Aff} : ∀ {m k : Nat}, k ≤ m → ym l k = false → ym l m = false
 | 0, k, h, e => by obtain rfl : k = 0 := by omega
                    exact e
 | m + 1, k, h, e => by
  by_cases hk : k = m + 1
  ·subst hk; exact e
  ·have := zhe (m := m) (by omega) e
   show (ym l m && _) = false
   rw [this]; rfl
theorem zqh {l : List Aff} {k : Nat} (h : k < l.length) (ha : zbr l k l[k] = false) : ym l l.length = false :=
 zhe (k := k + 1) (by omega) (by rw [zbj h, ha, Bool.and_false])
theorem zka {l : List Aff} : ∀ {m : Nat}, ym l m = true → ∀ k (hk : k < l.length), k < m → zbr l k l[k] = true
 | 0, _, k, _, h => absurd h (Nat.not_lt_zero _)
 | m + 1, h, k, hk, hm => by
  by_cases hml : m < l.length
  ·rw [zbj hml, Bool.and_eq_true] at h
   by_cases e : k = m
   ·subst e; exact h.2
   ·exact zka h.1 k hk (by omega)
  ·have h2 : (ym l m && match l[m]? with | some a => zbr l m a | none => true) = true := h
   rw [Bool.and_eq_true] at h2
   exact zka h2.1 k hk (by omega)
structure AdvP (x : Adv) : Prop where
 id : xy x.id = true
 rev0 : 1 ≤ x.rev
 rev1 : x.rev ≤ 1099511627776
 sev0 : 1 ≤ x.sev
 sev1 : x.sev ≤ 10
 len : x.aff.length ≤ 16
 all : ym x.aff x.aff.length = true
theorem jg {x : Adv} (h : qp x = true) : AdvP x := by
 unfold qp zgk at h
 simp only [Bool.and_eq_true, decide_eq_true_eq] at h
 exact ⟨h.1.1, h.1.2.1, h.1.2.2.1, h.1.2.2.2.1, h.1.2.2.2.2.1, h.1.2.2.2.2.2, h.2⟩
theorem AdvP.sound {x : Adv} (h : AdvP x) {a : Aff} (ha : a ∈ x.aff) : kr a = true := by
 obtain ⟨k, hk, rfl⟩ := List.mem_iff_getElem.1 ha
 have := zka h.all k hk hk
 unfold zbr at this
 rw [Bool.and_eq_true] at this
 exact this.2
theorem yj {a : Aff} (h : kr a = true) : xg a.name = true ∧ a.rs = a.sch ∧ 1 ≤ a.its.length ∧ okR a.sch a.its = true := by
 unfold kr zdd at h
 simp only [Bool.and_eq_true, decide_eq_true_eq] at h
 exact ⟨h.1, h.2.1, h.2.2.1, by have := h.2.2.2; rwa [h.2.1] at this⟩
theorem okR_sch {n : Int} {l : List Itv} (h : okR n l = true) : n = 1 ∨ n = 2 ∨ n = 3 := by
 have := (zbx h).sch
 unfold scheme at this
 simp only [Bool.or_eq_true, beq_iff_eq] at this
 omega
theorem ze9 {s : Bs} (h : xg s = true) : s.length ≤ 200 := by
 unfold xg at h
 simp only [Bool.and_eq_true, decide_eq_true_eq] at h
 exact h.1.1.2
def advW : Bs := [97, 100, 118, 105, 115, 111, 114, 121]
def affW : Bs := [97, 102, 102, 101, 99, 116, 115]
def xl (x : Adv) : List Bs := [advW, x.id, Lib.decDigits x.rev.toNat, Lib.decDigits x.sev.toNat]
def ul (a : Aff) : List Bs := [affW, qb a.sch, a.name, xi a.its]
def jt (x : Adv) (k : Nat) : List (List Bs) := xl x :: (x.aff.take k).map ul
theorem ze3 {x : Adv} {k : Nat} (h : k < x.aff.length) : jt x (k + 1) = jt x k ++ [ul x.aff[k]] := by
 unfold jt
 rw [List.take_succ_eq_append_getElem h, List.map_append]
 rfl
def qi (x : Adv) : List (List Bs) := jt x x.aff.length
def encV (x : Adv) : Bs × Int := if qp x = true then (if encE (qi x) = 0 then (doc (qi x), 0) else ([], encE (qi x))) else ([], 1)
end V
end Go.Proofs.YtnhfaincdabdkaaGreatDoor
namespace Go.Proofs.YtnhfaincdabdkaaGreatDoor.V
def EcOk (n : Int) (x : Ec) : Prop := x = ebot ∨ x = etop ∨ ∃ c : Cut, valid n c.1 = true ∧ x = eat c
theorem zav {n : Int} {x : Itv} (h : zj n x = true) : EcOk n (eLow x) := by
 by_cases hk : x.lk = 0
 ·exact .inl (zbu hk)
 ·exact .inr (.inr ⟨x.low, xu h hk, za3 h hk⟩)
theorem za8 {n : Int} {x : Itv} (h : zj n x = true) : EcOk n (kt x) := by
 by_cases hk : x.hk = 0
 ·exact .inr (.inl (zaf hk))
 ·exact .inr (.inr ⟨x.high, ju h hk, vl h hk⟩)
theorem zq2 {n : Int} {x : Itv} (h : zj n x = true) : decide (ecmp n (eLow x) (kt x) < 0) = yw n x := by
 unfold yw
 by_cases h1 : x.lk = 0
 ·rw [zbu h1, decide_eq_true h1, Bool.true_or]
  refine decide_eq_true ?_
  by_cases h2 : x.hk = 0
  ·rw [zaf h2]; unfold ecmp ebot etop; simp
  ·rw [vl h h2]; unfold ecmp ebot eat; simp
 ·rw [decide_eq_false h1, Bool.false_or]
  by_cases h2 : x.hk = 0
  ·rw [decide_eq_true h2, Bool.true_or, za3 h h1, zaf h2]
   exact decide_eq_true (by unfold ecmp eat etop; simp)
  ·rw [decide_eq_false h2, Bool.false_or, za3 h h1, vl h h2, zd8]
theorem zt4 {n : Int} {y x : Itv} (hy : zj n y = true) (hx : zj n x = true) : decide (ecmp n (kt y) (eLow x) < 0) = vp n y x := by
 unfold vp
 by_cases h1 : y.hk = 0
 ·rw [zaf h1, decide_eq_true h1]
  refine decide_eq_false ?_
  by_cases h2 : x.lk = 0
  ·rw [zbu h2]; unfold ecmp etop ebot; simp
  ·rw [za3 hx h2]; unfold ecmp etop eat; simp
 ·rw [decide_eq_false h1]
  by_cases h2 : x.lk = 0
  ·rw [decide_eq_true h2, vl hy h1, zbu h2]
   exact decide_eq_false (by unfold ecmp eat ebot; simp)
  ·rw [decide_eq_false h2, vl hy h1, za3 hx h2, zd8]
   rfl
end Go.Proofs.YtnhfaincdabdkaaGreatDoor.V
namespace Go.Proofs.YtnhfaincdabdkaaGreatDoor.V
theorem zix {n : Int} {x : Ec} (hx : EcOk n x) : ∀ {l : List Ec}, (∀ y ∈ l, EcOk n y) → ∀ y ∈ radd n x l, EcOk n y
 | [], _, y, hy => by
  rw [radd] at hy
  rw [List.mem_singleton.1 hy]; exact hx
 | z :: l, h, y, hy => by
  have ih := zix hx (l := l) (fun y hy => h y (by simp [hy]))
  unfold radd at hy
  split at hy
  ·rcases List.mem_cons.1 hy with rfl | hy
   ·exact h _ (by simp)
   ·exact ih y hy
  ·split at hy
   ·rcases List.mem_cons.1 hy with rfl | hy
    ·split
     ·exact h _ (by simp)
     ·exact hx
    ·exact h y (by simp [hy])
   ·rcases List.mem_cons.1 hy with rfl | hy
    ·exact hx
    ·exact h y hy
theorem zb9 (n : Int) (x : Ec) : ∀ l : List Ec, (radd n x l).length ≤ l.length + 1 ∧ 0 < (radd n x l).length
 | [] => by simp [radd]
 | z :: l => by
  have ih := zb9 n x l
  unfold radd
  split
  ·simp; omega
  ·split
   ·simp
   ·simp
theorem addI_ok {n : Int} {x : Itv} (hx : zj n x = true) {l : List Ec} (h : ∀ y ∈ l, EcOk n y) : ∀ y ∈ addI n l x, EcOk n y :=
 zix (za8 hx) (zix (zav hx) h)
theorem addI_len (n : Int) (l : List Ec) (x : Itv) : (addI n l x).length ≤ l.length + 2 := by
 have h1 := (zb9 n (eLow x) l).1
 have h2 := (zb9 n (kt x) (radd n (eLow x) l)).1
 unfold addI
 omega
theorem zoz {n : Int} : ∀ {m : List Itv} {l : List Ec}, (∀ x ∈ m, zj n x = true) → (∀ y ∈ l, EcOk n y) → ∀ y ∈ m.foldl (addI n) l, EcOk n y
 | [], _, _, h => h
 | x :: m, l, hm, h => zoz (m := m) (fun z hz => hm z (by simp [hz])) (addI_ok (hm x (by simp)) h)
theorem zk6 (n : Int) : ∀ (m : List Itv) (l : List Ec), (m.foldl (addI n) l).length ≤ l.length + 2 * m.length
 | [], l => by simp
 | x :: m, l => by
  have h1 := zk6 n m (addI n l x)
  have h2 := addI_len n l x
  rw [List.foldl_cons, List.length_cons]
  omega
theorem zkq (n : Int) : ∀ (m : List Itv) (l : List Ec), 0 < l.length → 0 < (m.foldl (addI n) l).length
 | [], _l, h => h
 | x :: m, l, _h => zkq n m (addI n l x) (zb9 n _ _).2
theorem ztz {n : Int} {m : List Itv} {k : Nat} (l : List Ec) (h : k < m.length) : (m.take (k + 1)).foldl (addI n) l = radd n (kt m[k]) (radd n (eLow m[k]) ((m.take k).foldl (addI n) l)) := by
 rw [List.take_succ_eq_append_getElem h, List.foldl_append]
 rfl
theorem ends_ok (n : Int) : ∀ y ∈ [ebot, etop], EcOk n y := by
 intro y hy
 simp at hy
 rcases hy with rfl | rfl
 ·exact .inl rfl
 ·exact .inr (.inl rfl)
theorem EcOk.side {n : Int} {x : Ec} (h : EcOk n x) : 0 ≤ x.s ∧ x.s ≤ 1 := by
 rcases h with rfl | rfl | ⟨c, _, rfl⟩
 ·simp [ebot]
 ·simp [etop]
 ·unfold eat; split <;> simp
theorem _root_.Go.Proofs.YtnhfaincdabdkaaGreatDoor.zyl {P : Prop} (h : P := by
 rw [List.drop_eq_getElem_cons (by omega : i < C.length), List.drop_eq_getElem_cons hi]
 rw [rrun]
 simp [hn]) : P := h
theorem ztx {h : Ec → Ec → Bool} {C : List Ec} {i : Nat} (hi : i + 1 < C.length) (hn : h C[i] C[i + 1] = false) : rrun h none (C.drop i) = rrun h none (C.drop (i + 1)) := by
 exact zyl
theorem ztu {h : Ec → Ec → Bool} {C : List Ec} {i : Nat} (hi : i + 1 < C.length) (hn : h C[i] C[i + 1] = true) : rrun h none (C.drop i) = rrun h (some C[i]) (C.drop (i + 1)) := by
 exact zyl
theorem rrun_on {h : Ec → Ec → Bool} {C : List Ec} {i : Nat} {f : Ec} (hi : i + 1 < C.length) (hn : h C[i] C[i + 1] = true) : rrun h (some f) (C.drop i) = rrun h (some f) (C.drop (i + 1)) := by
 exact zyl
theorem rrun_end {h : Ec → Ec → Bool} {C : List Ec} {i : Nat} (hi : ¬ i + 1 < C.length) : rrun h none (C.drop i) = [] := by
 have hl : (C.drop i).length ≤ 1 := by rw [List.length_drop]; omega
 rcases hd : C.drop i with _ | ⟨e, _ | ⟨e', l⟩⟩
 ·rfl
 ·rfl
 ·rw [hd] at hl; simp at hl
theorem zre {h : Ec → Ec → Bool} {C : List Ec} {i : Nat} {f : Ec} (hi : i < C.length) (hn : ∀ hj : i + 1 < C.length, h C[i] C[i + 1] = false) : rrun h (some f) (C.drop i) = btw f C[i] :: rrun h none (C.drop i) := by
 by_cases hj : i + 1 < C.length
 ·have := hn hj
  rw [List.drop_eq_getElem_cons hi, List.drop_eq_getElem_cons hj, rrun, rrun]
  simp [this]
 ·rw [List.drop_eq_getElem_cons hi, List.drop_eq_nil_of_le (by omega), rrun, rrun]
end Go.Proofs.YtnhfaincdabdkaaGreatDoor.V
namespace Go.Proofs.YtnhfaincdabdkaaGreatDoor
open Go.RowKit
namespace V
def pkC (p q : Int × Bs) : Int := orI [Lib.compareInt p.1 q.1, Lib.compareBytes p.2 q.2]
def Asc (l : List (Int × Bs)) : Prop := l.Pairwise fun a b => pkC a b < 0
def pk (a : Aff) : Int × Bs := (a.sch, a.name)
theorem zlg {l : List Aff} : ∀ {m : Nat}, (∀ k (hk : k < l.length), k < m → zbr l k l[k] = true) → ym l m = true
 | 0, _ => rfl
 | m + 1, h => by
  by_cases hm : m < l.length
  ·rw [zbj hm, zlg (fun k hk hkm => h k hk (by omega)), h m hm (Nat.lt_succ_self m)]
   rfl
  ·show (ym l m && match l[m]? with | some a => zbr l m a | none => true) = true
   rw [zlg (fun k hk hkm => h k hk (by omega)), List.getElem?_eq_none (by omega)]
   rfl
theorem zt1 {l : List Aff} (hs : ∀ a ∈ l, kr a = true) (ha : Asc (l.map pk)) : ym l l.length = true := by
 refine zlg (fun k hk _ => ?_)
 unfold zbr
 rw [hs _ (List.getElem_mem hk), Bool.and_true]
 by_cases h0 : k = 0
 ·simp [h0]
 ·have h1 : k - 1 < l.length := by omega
  have h2 := (List.pairwise_iff_getElem.1 ha) (k - 1) k (by simpa using h1) (by simpa using hk) (by omega)
  rw [List.getElem_map, List.getElem_map] at h2
  have h3 : affC l[k - 1] l[k] < 0 := h2
  rw [List.getD_eq_getElem?_getD, List.getElem?_eq_getElem h1]
  simp [h3]
structure MadeV (x : Adv) : Prop where
 id : xy x.id = true
 idl : x.id.length ≤ 100
 rev0 : 1 ≤ x.rev
 rev1 : x.rev ≤ 3
 sev0 : 1 ≤ x.sev
 sev1 : x.sev ≤ 10
 len : x.aff.length ≤ 3
 snd : ∀ a ∈ x.aff, kr a = true
 asc : Asc (x.aff.map pk)
theorem MadeV.ok {x : Adv} (h : MadeV x) : qp x = true := by
 unfold qp zgk
 have h1 := h.id
 have := h.rev0; have := h.rev1; have := h.sev0; have := h.sev1; have := h.len
 rw [h1, zt1 h.snd h.asc]
 simp only [Bool.true_and, Bool.and_true, Bool.and_eq_true, decide_eq_true_eq]
 omega
theorem zm7 {n : Int} {l : List Itv} (h : Ok n l) (h0 : l ≠ []) : (xi l).length ≤ 10000 := by
 rcases l with _ | ⟨x, r⟩
 ·exact absurd rfl h0
 ·have hle : ∀ y ∈ zv x :: r.map zv, y.length ≤ 133 := by
   intro y hy
   rw [← List.map_cons (f := zv), List.mem_map] at hy
   obtain ⟨z, hz, rfl⟩ := hy
   exact (zgu (zo8 h hz)).len
  have h1 := zoq hle
  have h2 := h.len
  rw [List.length_map] at h1
  rw [List.length_cons] at h2
  show (Lib.join (zv x :: r.map zv) orT).length ≤ _
  omega
theorem zqo {ls : List (List Bs)} {b : Nat} (h : ∀ l ∈ ls, jj l l.length ≤ b) : jo ls ls.length ≤ ls.length * b := by
 unfold jo
 rw [List.take_length]
 induction ls with
 | nil => simp
 | cons l ls ih =>
  have h2 := h l (List.mem_cons_self ..)
  have h3 := ih (fun x hx => h x (List.mem_cons_of_mem _ hx))
  simp only [List.map_cons, List.sum_cons, List.length_cons]
  rw [Nat.add_mul, Nat.one_mul]
  omega
theorem za0 (n : Nat) (h : n < 11) : (Lib.decDigits n).length ≤ 2 := by
 have h : n = 0 ∨ n = 1 ∨ n = 2 ∨ n = 3 ∨ n = 4 ∨ n = 5 ∨ n = 6 ∨ n = 7 ∨ n = 8 ∨ n = 9 ∨ n = 10 := by omega
 rcases h with rfl | rfl | rfl | rfl | rfl | rfl | rfl | rfl | rfl | rfl | rfl <;> (unfold Lib.decDigits; simp [Lib.decDigits])
theorem MadeV.words {x : Adv} (h : MadeV x) : ∀ l ∈ qi x, l.length = 4 ∧ ∀ w ∈ l, w.length ≤ 10000 := by
 intro l hl
 unfold qi jt at hl
 rw [List.take_length] at hl
 rcases List.mem_cons.1 hl with rfl | hl
 ·refine ⟨rfl, fun w hw => ?_⟩
  have := h.rev0; have := h.rev1; have := h.sev0; have := h.sev1
  simp only [xl, List.mem_cons, List.not_mem_nil, or_false] at hw
  rcases hw with rfl | rfl | rfl | rfl
  ·decide
  ·have := h.idl; omega
  ·have := za0 x.rev.toNat (by omega); omega
  ·have := za0 x.sev.toNat (by omega); omega
 ·obtain ⟨a, ha, rfl⟩ := List.mem_map.1 hl
  obtain ⟨h1, h2, h3, h4⟩ := yj (h.snd a ha)
  refine ⟨rfl, fun w hw => ?_⟩
  simp only [ul, List.mem_cons, List.not_mem_nil, or_false] at hw
  rcases hw with rfl | rfl | rfl | rfl
  ·decide
  ·have := zdz a.sch; omega
  ·have := ze9 h1; omega
  ·exact zm7 (zbx h4) (fun e => by rw [e] at h3; simp at h3)
theorem ztj (a b c d : Bs) : jj [a, b, c, d] [a, b, c, d].length ≤ 3 * (a.length + b.length + c.length + d.length) + 8 := by
 have h1 := xp a; have h2 := xp b; have h3 := xp c; have h4 := xp d
 unfold jj
 simp only [List.length_cons, List.length_nil, List.take_succ_cons, List.take_zero, List.map_cons, List.map_nil, List.sum_cons, List.sum_nil]
 omega
theorem MadeV.line {x : Adv} (h : MadeV x) : ∀ l ∈ qi x, jj l l.length ≤ 31000 := by
 intro l hl
 unfold qi jt at hl
 rw [List.take_length] at hl
 rcases List.mem_cons.1 hl with rfl | hl
 ·have := h.rev0; have := h.rev1; have := h.sev0; have := h.sev1
  have h1 := h.idl
  have h2 := za0 x.rev.toNat (by omega)
  have h3 := za0 x.sev.toNat (by omega)
  have h4 := ztj advW x.id (Lib.decDigits x.rev.toNat) (Lib.decDigits x.sev.toNat)
  have h5 : advW.length = 8 := rfl
  unfold xl
  omega
 ·obtain ⟨a, ha, rfl⟩ := List.mem_map.1 hl
  obtain ⟨h1, h2, h3, h4⟩ := yj (h.snd a ha)
  have h5 := ztj affW (qb a.sch) a.name (xi a.its)
  have h6 := zdz a.sch
  have h7 := ze9 h1
  have h8 := zm7 (zbx h4) (fun e => by rw [e] at h3; simp at h3)
  have h9 : affW.length = 7 := rfl
  unfold ul
  omega
theorem MadeV.enc {x : Adv} (h : MadeV x) : encE (qi x) = 0 := by
 have hw := h.words
 have hlen : (qi x).length ≤ 4 := by
  unfold qi jt
  rw [List.take_length, List.length_cons, List.length_map]
  have := h.len
  omega
 have hb : zw (qi x) = 0 := uj.2 (fun l hl => by
   obtain ⟨h1, h2⟩ := hw l hl
   exact zck.2 ⟨by omega, by omega, fun w hx => by have := h2 w hx; omega⟩)
 unfold encE
 rw [if_neg (by omega), if_pos hb, if_neg]
 have h1 := zqo (ls := qi x) (b := 31000) (fun l hl => h.line l hl)
 have : (qi x).length * 31000 ≤ 4 * 31000 := Nat.mul_le_mul_right _ hlen
 omega
theorem MadeV.encV {x : Adv} (h : MadeV x) : V.encV x = (doc (qi x), 0) := by
 unfold V.encV
 rw [if_pos h.ok, if_pos h.enc]
end V
end Go.Proofs.YtnhfaincdabdkaaGreatDoor
