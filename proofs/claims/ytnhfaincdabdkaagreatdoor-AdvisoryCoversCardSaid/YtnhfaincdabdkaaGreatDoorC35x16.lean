/-
  Lemmas for the law.
-/
import Derived.Test.YtnhfaincdabdkaaGreatDoorC35x01
import Derived.Test.YtnhfaincdabdkaaGreatDoorC35x15
import Derived.Test.YtnhfaincdabdkaaGreatDoorC35x14
import Derived.Lib.ItoaNum
set_option linter.all false
namespace Go.Proofs.YtnhfaincdabdkaaGreatDoor
open Go.RowKit
namespace V
def jy (c : UInt8) : Bool := decide (33 ≤ c.toNat) && (decide (c.toNat ≤ 125) && !decide (c.toNat = 37))
def digU : Bs := [48, 49, 50, 51, 52, 53, 54, 55, 56, 57, 65, 66, 67, 68, 69, 70]
def encB (c : UInt8) : Bs := if jy c = true then [c] else [37, digU.getD (c.toNat / 16) 0, digU.getD (c.toNat % 16) 0]
def word (w : Bs) : Bs := if w.isEmpty then [126] else w.flatMap encB
def yu (c : UInt8) : Nat := if jy c = true then 1 else 3
def zal (w : Bs) : Nat := max ((w.map yu).sum) 1
theorem encB_len (c : UInt8) : (encB c).length = yu c := by unfold encB yu; split <;> rfl
theorem zu5 (c : UInt8) : 1 ≤ yu c := by unfold yu; split <;> omega
theorem sizeC_le (c : UInt8) : yu c ≤ 3 := by unfold yu; split <;> omega
theorem zjq : ∀ w : Bs, (w.flatMap encB).length = (w.map yu).sum
 | [] => rfl
 | c :: w => by rw [List.flatMap_cons, List.length_append, encB_len, zjq w, List.map_cons, List.sum_cons]
theorem sum_le (w : Bs) : (w.map yu).sum ≤ 3 * w.length := by
 induction w with
 | nil => simp
 | cons c w ih => rw [List.map_cons, List.sum_cons, List.length_cons]; have := sizeC_le c; omega
theorem le_sum (w : Bs) : w.length ≤ (w.map yu).sum := by
 induction w with
 | nil => simp
 | cons c w ih => rw [List.map_cons, List.sum_cons, List.length_cons]; have := zu5 c; omega
theorem zb5 (w : Bs) : (word w).length = zal w := by
 unfold word zal
 cases w with
 | nil => rfl
 | cons c r =>
  rw [List.isEmpty_cons, if_neg (by decide), zjq]
  have := le_sum (c :: r)
  rw [List.length_cons] at this
  omega
theorem zae (w : Bs) : zal w ≤ 3 * w.length + 1 := by
 unfold zal
 have := sum_le w
 omega
def xg (l : List Bs) (k : Nat) : Bs := (List.range k).flatMap fun i => (if i = 0 then [] else [32]) ++ word (l.getD i [])
def line (l : List Bs) : Bs := xg l l.length ++ [10]
def ze5 (ls : List (List Bs)) (k : Nat) : Bs := (ls.take k).flatMap line
def doc (ls : List (List Bs)) : Bs := ls.flatMap line
def km (l : List Bs) (k : Nat) : Nat := ((l.take k).map fun w => zal w + 1).sum
def xc (ls : List (List Bs)) (k : Nat) : Nat := ((ls.take k).map fun l => km l l.length).sum
theorem zbt (l : List Bs) (k : Nat) : xg l (k + 1) = xg l k ++ ((if k = 0 then [] else [32]) ++ word (l.getD k [])) := by
 unfold xg
 rw [List.range_succ, List.flatMap_append]
 simp
theorem _root_.Go.Proofs.YtnhfaincdabdkaaGreatDoor.zzi {P : Prop} (h : P := by
 rw [List.take_succ_eq_append_getElem h, List.map_append, List.sum_append]
 simp) : P := h
theorem zbv {l : List Bs} {k : Nat} (h : k < l.length) : km l (k + 1) = km l k + (zal l[k] + 1) := by
 unfold km
 exact zzi
theorem zj8 {ls : List (List Bs)} {k : Nat} (h : k < ls.length) : ze5 ls (k + 1) = ze5 ls k ++ line ls[k] := by
 unfold ze5
 rw [List.take_succ_eq_append_getElem h, List.flatMap_append]
 simp
theorem zbf {ls : List (List Bs)} {k : Nat} (h : k < ls.length) : xc ls (k + 1) = xc ls k + km ls[k] ls[k].length := by
 unfold xc
 exact zzi
theorem zg4 (ls : List (List Bs)) : ze5 ls ls.length = doc ls := by unfold ze5 doc; rw [List.take_length]
theorem zfd {l : List Bs} : ∀ k, k ≤ l.length → (xg l k).length + 1 ≤ km l k + 1 ∧ (0 < k → (xg l k).length + 1 = km l k)
 | 0, _ => ⟨by simp [xg, km], fun h => by omega⟩
 | k + 1, h => by
  have ih := zfd (l := l) k (by omega)
  rw [zbt, zbv (by omega), List.length_append, List.length_append, zb5, List.getD_eq_getElem?_getD, List.getElem?_eq_getElem (by omega)]
  simp only [Option.getD_some]
  by_cases hk : k = 0
  ·subst hk
   have : (xg l 0).length = 0 := rfl
   have h2 : km l 0 = 0 := rfl
   simp
   omega
  ·have := ih.2 (by omega)
   rw [if_neg hk, List.length_singleton]
   omega
theorem zp9 {l : List Bs} (h : 0 < l.length) : (line l).length = km l l.length := by
 unfold line
 rw [List.length_append, List.length_singleton]
 exact (zfd l.length (Nat.le_refl _)).2 h
theorem zci {l : List Bs} {j k : Nat} (h : j ≤ k) (hk : k ≤ l.length) : km l j ≤ km l k := by
 induction k with
 | zero => obtain rfl : j = 0 := by omega
           exact Nat.le_refl _
 | succ k ih =>
  rcases Nat.lt_or_ge k j with hj | hj
  ·obtain rfl : j = k + 1 := by omega
   exact Nat.le_refl _
  ·rw [zbv (by omega)]
   have := ih hj (by omega)
   omega
theorem zds {ls : List (List Bs)} {j k : Nat} (h : j ≤ k) (hk : k ≤ ls.length) : xc ls j ≤ xc ls k := by
 induction k with
 | zero => obtain rfl : j = 0 := by omega
           exact Nat.le_refl _
 | succ k ih =>
  rcases Nat.lt_or_ge k j with hj | hj
  ·obtain rfl : j = k + 1 := by omega
   exact Nat.le_refl _
  ·rw [zbf (by omega)]
   have := ih hj (by omega)
   omega
theorem zei {ls : List (List Bs)} (hw : ∀ l ∈ ls, 0 < l.length) : ∀ k, k ≤ ls.length → (ze5 ls k).length = xc ls k
 | 0, _ => rfl
 | k + 1, h => by
  rw [zj8 (by omega), zbf (by omega), List.length_append, zei hw k (by omega), zp9 (hw _ (List.getElem_mem (by omega)))]
structure DocOk (ls : List (List Bs)) : Prop where
 lines : ls.length ≤ 1000
 line : ∀ l ∈ ls, 0 < l.length ∧ l.length ≤ 120 ∧ ∀ w ∈ l, w.length ≤ 32768
 size : xc ls ls.length ≤ 262144
end V
open Go.RowKit
namespace V
def hexV (c : UInt8) : Option Nat := if 48 ≤ c.toNat ∧ c.toNat ≤ 57 then some (c.toNat - 48) else if 65 ≤ c.toNat ∧ c.toNat ≤ 70 then some (c.toNat - 55) else none
def jd : Bs → Option Bs
 | [] => some []
 | c :: r => if jy c = true then (jd r).map (c :: ·) else if c = 37 then
   match r with
   | a :: b :: r' => match hexV a, hexV b with
    | some x, some y => if jy (UInt8.ofNat (16 * x + y)) = true then none else (jd r').map (UInt8.ofNat (16 * x + y) :: ·)
    | _, _ => none
   | _ => none
  else none
def unwR (s : Bs) : Option Bs := if s = [126] then some [] else match jd s with | some w => if w = [] then none else some w | none => none
def escB : Bs → Option Bs
 | a :: b :: r' => match hexV a, hexV b with
  | some x, some y => if jy (UInt8.ofNat (16 * x + y)) = true then none else (jd r').map (UInt8.ofNat (16 * x + y) :: ·)
  | _, _ => none
 | _ => none
theorem zfm (c : UInt8) (r : Bs) : jd (c :: r) = if jy c = true then (jd r).map (c :: ·) else if c = 37 then escB r else none := by
 match r with
 | [] => rfl
 | [_] => rfl
 | _ :: _ :: _ => rfl
theorem zdl {c : UInt8} {r : Bs} (h : jy c = true) : jd (c :: r) = (jd r).map (c :: ·) := by rw [zfm, if_pos h]
theorem zl0 {c : UInt8} {r : Bs} (h : jy c = false) (hc : c ≠ 37) : jd (c :: r) = none := by
 rw [zfm, if_neg (by rw [h]; decide), if_neg hc]
theorem znh (r : Bs) : jd (37 :: r) = escB r := by rw [zfm, if_neg (by decide), if_pos rfl]
theorem zdr {r : Bs} (h : r.length < 2) : jd (37 :: r) = none := by
 rw [znh]
 match r, h with
 | [], _ => rfl
 | [_], _ => rfl
theorem zgk {a b : UInt8} {r : Bs} (h : hexV a = none ∨ hexV b = none) : jd (37 :: a :: b :: r) = none := by
 rw [znh, escB]
 rcases h with h | h
 ·simp [h]
 ·cases ha : hexV a <;> simp [h]
theorem zg0 {a b : UInt8} {r : Bs} {x y : Nat} (ha : hexV a = some x) (hb : hexV b = some y) : jd (37 :: a :: b :: r) = if jy (UInt8.ofNat (16 * x + y)) = true then none else (jd r).map (UInt8.ofNat (16 * x + y) :: ·) := by
 rw [znh, escB]
 simp [ha, hb]
theorem zic {c : UInt8} {x : Nat} (h : hexV c = some x) : x < 16 := by
 unfold hexV at h
 split at h
 ·cases h; omega
 ·split at h
  ·cases h; omega
  ·cases h
theorem hexV_dig : ∀ n : Fin 256, (match hexV (UInt8.ofNat n.val) with | some x => decide (digU.getD x 0 = UInt8.ofNat n.val) | none => true) = true := by decide +kernel
theorem zmd {c : UInt8} {x : Nat} (h : hexV c = some x) : digU.getD x 0 = c := by
 have := hexV_dig ⟨c.toNat, c.toNat_lt⟩
 simp only [UInt8.ofNat_toNat, h, decide_eq_true_eq] at this
 exact this
theorem enc_esc {a b : UInt8} {x y : Nat} (ha : hexV a = some x) (hb : hexV b = some y) (hp : jy (UInt8.ofNat (16 * x + y)) = false) : encB (UInt8.ofNat (16 * x + y)) = [37, a, b] := by
 have hx := zic ha
 have hy := zic hb
 unfold encB
 have e : (UInt8.ofNat (16 * x + y)).toNat = 16 * x + y := by simp; omega
 rw [hp, if_neg (by decide), e, show (16 * x + y) / 16 = x by omega, show (16 * x + y) % 16 = y by omega, zmd ha, zmd hb]
theorem zgw : ∀ (k : Nat) (s w : Bs), s.length ≤ k → jd s = some w → w.flatMap encB = s
 | _, [], w, _, h => by rw [jd] at h; cases h; rfl
 | 0, c :: r, w, hk, _ => by simp at hk
 | k + 1, c :: r, w, hk, h => by
  rw [List.length_cons] at hk
  rcases hp : jy c with _ | _
  ·by_cases hc : c = 37
   ·subst hc
    match r, h with
    | [], h => rw [zdr (by simp)] at h; cases h
    | [_], h => rw [zdr (by simp)] at h; cases h
    | a :: b :: r', h =>
     cases ha : hexV a with
     | none => rw [zgk (.inl ha)] at h; cases h
     | some x =>
      cases hb : hexV b with
      | none => rw [zgk (.inr hb)] at h; cases h
      | some y =>
       rw [zg0 ha hb] at h
       split at h
       ·cases h
       ·rename_i hq
        have hq : jy (UInt8.ofNat (16 * x + y)) = false := by simpa using hq
        cases hr : jd r' with
        | none => rw [hr] at h; cases h
        | some w' =>
         rw [hr] at h
         simp only [Option.map_some, Option.some.injEq] at h
         subst h
         simp only [List.length_cons] at hk
         rw [List.flatMap_cons, zgw k r' w' (by omega) hr, enc_esc ha hb hq]
         rfl
   ·rw [zl0 hp hc] at h; cases h
  ·rw [zdl hp] at h
   cases hr : jd r with
   | none => rw [hr] at h; cases h
   | some w' =>
    rw [hr] at h
    simp only [Option.map_some, Option.some.injEq] at h
    subst h
    rw [List.flatMap_cons, zgw k r w' (by omega) hr]
    unfold encB
    rw [if_pos hp]
    rfl
theorem zl8 {s w : Bs} (h : unwR s = some w) : word w = s := by
 unfold unwR at h
 split at h
 ·rename_i e
  cases h
  rw [e]; rfl
 ·cases hq : jd s with
  | none => rw [hq] at h; cases h
  | some v =>
   rw [hq] at h
   simp only at h
   split at h
   ·cases h
   ·rename_i hv
    cases h
    unfold word
    rw [if_neg (by simpa using hv)]
    exact zgw _ s _ (Nat.le_refl _) hq
theorem unw_at {s : Bs} {k : Nat} {out : Bs} (h : jd s = (jd (s.drop k)).map (out ++ ·)) (hk : k < s.length) :
  (jy s[k] = true → jd s = (jd (s.drop (k + 1))).map ((out ++ [s[k]]) ++ ·)) ∧
  (jy s[k] = false → s[k] ≠ 37 → jd s = none) ∧
  (s[k] = 37 → s.length < k + 3 → jd s = none) ∧
  (∀ h3 : k + 2 < s.length, s[k] = 37 → (hexV s[k + 1] = none ∨ hexV s[k + 2] = none) → jd s = none) ∧
  (∀ (h3 : k + 2 < s.length) x y, s[k] = 37 → hexV s[k + 1] = some x → hexV s[k + 2] = some y → (jy (UInt8.ofNat (16 * x + y)) = true → jd s = none) ∧ (jy (UInt8.ofNat (16 * x + y)) = false → jd s = (jd (s.drop (k + 3))).map ((out ++ [UInt8.ofNat (16 * x + y)]) ++ ·))) := by
 have hd := List.drop_eq_getElem_cons hk
 refine ⟨fun hp => ?_, fun hp hc => ?_, fun hc hl => ?_, fun h3 hc hb => ?_, fun h3 x y hc hx hy => ?_⟩
 ·rw [h, hd, zdl hp]
  cases jd (s.drop (k + 1)) <;> simp
 ·rw [h, hd, zl0 hp hc]; rfl
 ·rw [h, hd, hc, zdr (by simp; omega)]; rfl
 ·have h1 := List.drop_eq_getElem_cons (show k + 1 < s.length by omega)
  have h2 := List.drop_eq_getElem_cons h3
  rw [h, hd, hc, h1, h2, zgk hb]; rfl
 ·have h1 := List.drop_eq_getElem_cons (show k + 1 < s.length by omega)
  have h2 := List.drop_eq_getElem_cons h3
  rw [hd, hc, h1, h2, zg0 hx hy] at h
  refine ⟨fun hp => ?_, fun hp => ?_⟩
  ·rw [h, if_pos hp]; rfl
  ·rw [h, if_neg (by rw [hp]; decide)]
   cases jd (s.drop (k + 3)) <;> simp
end V
open Go.RowKit
namespace V
def jf : List Bs → Option (List Bs)
 | [] => some []
 | s :: r => match unwR s with | none => none | some w => (jf r).map (w :: ·)
def chk (l : List Bs) : Int := if l.length = 0 then 1 else if 120 < l.length then 3 else if (l.all fun w => decide (w.length ≤ 32768)) = true then 0 else 3
def jq : List Bs → Option (List (List Bs))
 | [] => none
 | [x] => if x = [] then some [] else none
 | x :: y :: r => match jf (zg 32 x) with | none => none | some l => if chk l = 0 then (jq (y :: r)).map (l :: ·) else none
def decP (b : Bs) : List (List Bs) × Int := if 262144 < b.length then ([], 3) else match jq (zg 10 b) with | some ls => if ls.length ≤ 1000 then (ls, 0) else ([], 2) | none => ([], 2)
def zk1 : List Bs → Option (List (List Bs))
 | [] => some []
 | x :: r => match jf (zg 32 x) with | none => none | some l => (zk1 r).map (l :: ·)
def qd : List (List Bs) → Int
 | [] => 0
 | l :: r => if chk l = 0 then qd r else chk l
def encE (ls : List (List Bs)) : Int := if 1000 < ls.length then 3 else if qd ls = 0 then (if 262144 < xc ls ls.length then 3 else 0) else qd ls
theorem zd1 {l : List Bs} : chk l = 0 ↔ 0 < l.length ∧ l.length ≤ 120 ∧ ∀ w ∈ l, w.length ≤ 32768 := by
 unfold chk
 split
 ·simp; omega
 ·split
  ·simp; omega
  ·split
   ·rename_i h
    simp only [List.all_eq_true, decide_eq_true_eq] at h
    exact ⟨fun _ => ⟨by omega, by omega, h⟩, fun _ => rfl⟩
   ·rename_i h
    simp only [List.all_eq_true, decide_eq_true_eq] at h
    exact ⟨fun e => by simp at e, fun e => absurd e.2.2 h⟩
theorem yy : ∀ {ls : List (List Bs)}, qd ls = 0 ↔ ∀ l ∈ ls, chk l = 0
 | [] => by simp [qd]
 | l :: r => by
  unfold qd
  split
  ·rename_i h
   rw [yy]
   simp [h]
  ·rename_i h
   simp [h]
theorem zqf {ls : List (List Bs)} {k : Nat} (hk : k < ls.length) (h : qd ls = qd (ls.drop k)) : (chk ls[k] = 0 → qd ls = qd (ls.drop (k + 1))) ∧ (¬ chk ls[k] = 0 → qd ls = chk ls[k]) := by
 rw [List.drop_eq_getElem_cons hk, qd] at h
 refine ⟨fun e => ?_, fun e => ?_⟩
 ·rw [h, if_pos e]
 ·rw [h, if_neg e]
theorem zgt {ls : List (List Bs)} (h : encE ls = 0) : DocOk ls := by
 unfold encE at h
 split at h
 ·cases h
 ·split at h
  ·rename_i h1 h2
   split at h
   ·cases h
   ·exact ⟨by omega, fun l hl => zd1.1 (yy.1 h2 l hl), by omega⟩
  ·rename_i h2
   exact absurd h h2
theorem zdx {x : Bs} {t : List Bs} (h : t ≠ []) : jq (x :: t) = match jf (zg 32 x) with | none => none | some l => if chk l = 0 then (jq t).map (l :: ·) else none := by
 cases t with
 | nil => exact absurd rfl h
 | cons y r => rfl
theorem zhm : ∀ rows : List Bs, jq (rows ++ [[]]) = match zk1 rows with | none => none | some ls => if qd ls = 0 then some ls else none
 | [] => by simp [jq, zk1, qd]
 | x :: r => by
  rw [List.cons_append, zdx (by simp), zk1, zhm r]
  cases hw : jf (zg 32 x) with
  | none => rfl
  | some l =>
   simp only
   cases hr : zk1 r with
   | none => simp
   | some ls =>
    simp only [Option.map_some]
    by_cases h1 : chk l = 0
    ·have e : qd (l :: ls) = qd ls := by rw [qd, if_pos h1]
     simp only [e, h1, if_true]
     by_cases h2 : qd ls = 0
     ·simp [h2]
     ·simp [h2]
    ·have e : qd (l :: ls) = chk l := by rw [qd, if_neg h1]
     simp [e, h1]
theorem zqi : ∀ {r : List Bs} {l : List Bs}, jf r = some l → l.length = r.length ∧ (l.map fun w => zal w + 1).sum = (r.map fun s => s.length + 1).sum
 | [], l, h => by cases h; exact ⟨rfl, rfl⟩
 | s :: r, l, h => by
  rw [jf] at h
  cases hs : unwR s with
  | none => rw [hs] at h; cases h
  | some w =>
   rw [hs] at h
   simp only at h
   cases hr : jf r with
   | none => rw [hr] at h; cases h
   | some l' =>
    rw [hr] at h
    cases h
    have ih := zqi hr
    have hw := zb5 w
    rw [zl8 hs] at hw
    simp only [List.length_cons, List.map_cons, List.sum_cons, ih.1, ih.2, hw]
    exact ⟨trivial, trivial⟩
theorem zir (c : UInt8) : ∀ s : Bs, ((zg c s).map fun x => x.length + 1).sum = s.length + 1
 | [] => by simp [zg]
 | a :: s => by
  have ih := zir c s
  rw [zg]
  split
  ·simp [ih]; omega
  ·cases hq : zg c s with
   | nil => exact absurd hq (zc3 c s)
   | cons y r =>
    rw [hq] at ih
    simp only [List.map_cons, List.sum_cons, List.length_cons] at ih ⊢
    omega
theorem zrk : decP [] = ([], 0) := by simp [decP, zg, jq]
end V
open Go.RowKit
namespace V
structure Aff where
 sch : Int
 name : Bs
 rs : Int
 its : List Itv
structure Adv where
 id : Bs
 rev : Int
 sev : Int
 aff : List Aff
def zA : Aff := ⟨0, [], 0, []⟩
def zV : Adv := ⟨[], 0, 0, []⟩
def affC (a b : Aff) : Int := orI [Lib.compareInt a.sch b.sch, Lib.compareBytes a.name b.name]
def zc5 (n : Int) (r : Int) (l : List Itv) : Bool := decide (r = n) && (decide (1 ≤ l.length) && okR r l)
def ke (a : Aff) : Bool := ky a.name && zc5 a.sch a.rs a.its
def zbp (l : List Aff) (i : Nat) (a : Aff) : Bool := (decide (i = 0) || decide (affC (l.getD (i - 1) zA) a < 0)) && ke a
def yd (l : List Aff) : Nat → Bool
 | 0 => true
 | k + 1 => yd l k && match l[k]? with | some a => zbp l k a | none => true
def zgf (id : Bs) (rev sev : Int) (n : Nat) : Bool := xn id && (decide (1 ≤ rev) && (decide (rev ≤ 1099511627776) && (decide (1 ≤ sev) && (decide (sev ≤ 10) && decide (n ≤ 16)))))
def ql (x : Adv) : Bool := zgf x.id x.rev x.sev x.aff.length && yd x.aff x.aff.length
theorem zbj {l : List Aff} {k : Nat} (h : k < l.length) : yd l (k + 1) = (yd l k && zbp l k l[k]) := by
 show (yd l k && match l[k]? with | some a => zbp l k a | none => true) = _
 rw [List.getElem?_eq_getElem h]
theorem zg7 {l : List Aff} : ∀ {m k : Nat}, k ≤ m → yd l k = false → yd l m = false
 | 0, k, h, e => by obtain rfl : k = 0 := by omega
                    exact e
 | m + 1, k, h, e => by
  by_cases hk : k = m + 1
  ·subst hk; exact e
  ·have := zg7 (m := m) (by omega) e
   show (yd l m && _) = false
   rw [this]; rfl
theorem zqc {l : List Aff} {k : Nat} (h : k < l.length) (ha : zbp l k l[k] = false) : yd l l.length = false :=
 zg7 (k := k + 1) (by omega) (by rw [zbj h, ha, Bool.and_false])
theorem zjx {l : List Aff} : ∀ {m : Nat}, yd l m = true → ∀ k (hk : k < l.length), k < m → zbp l k l[k] = true
 | 0, _, k, _, h => absurd h (Nat.not_lt_zero _)
 | m + 1, h, k, hk, hm => by
  by_cases hml : m < l.length
  ·rw [zbj hml, Bool.and_eq_true] at h
   by_cases e : k = m
   ·subst e; exact h.2
   ·exact zjx h.1 k hk (by omega)
  ·have h2 : (yd l m && match l[m]? with | some a => zbp l m a | none => true) = true := h
   rw [Bool.and_eq_true] at h2
   exact zjx h2.1 k hk (by omega)
structure AdvP (x : Adv) : Prop where
 id : xn x.id = true
 rev0 : 1 ≤ x.rev
 rev1 : x.rev ≤ 1099511627776
 sev0 : 1 ≤ x.sev
 sev1 : x.sev ≤ 10
 len : x.aff.length ≤ 16
 all : yd x.aff x.aff.length = true
theorem jo {x : Adv} (h : ql x = true) : AdvP x := by
 unfold ql zgf at h
 simp only [Bool.and_eq_true, decide_eq_true_eq] at h
 exact ⟨h.1.1, h.1.2.1, h.1.2.2.1, h.1.2.2.2.1, h.1.2.2.2.2.1, h.1.2.2.2.2.2, h.2⟩
theorem AdvP.sound {x : Adv} (h : AdvP x) {a : Aff} (ha : a ∈ x.aff) : ke a = true := by
 obtain ⟨k, hk, rfl⟩ := List.mem_iff_getElem.1 ha
 have := zjx h.all k hk hk
 unfold zbp at this
 rw [Bool.and_eq_true] at this
 exact this.2
theorem uk {a : Aff} (h : ke a = true) : ky a.name = true ∧ a.rs = a.sch ∧ 1 ≤ a.its.length ∧ okR a.sch a.its = true := by
 unfold ke zc5 at h
 simp only [Bool.and_eq_true, decide_eq_true_eq] at h
 exact ⟨h.1, h.2.1, h.2.2.1, by have := h.2.2.2; rwa [h.2.1] at this⟩
theorem okR_sch {n : Int} {l : List Itv} (h : okR n l = true) : n = 1 ∨ n = 2 ∨ n = 3 := by
 have := (vv h).sch
 unfold scheme at this
 simp only [Bool.or_eq_true, beq_iff_eq] at this
 omega
theorem zfa {s : Bs} (h : ky s = true) : s.length ≤ 200 := by
 unfold ky at h
 simp only [Bool.and_eq_true, decide_eq_true_eq] at h
 exact h.1.1.2
def advW : Bs := [97, 100, 118, 105, 115, 111, 114, 121]
def affW : Bs := [97, 102, 102, 101, 99, 116, 115]
def xk (x : Adv) : List Bs := [advW, x.id, Lib.decDigits x.rev.toNat, Lib.decDigits x.sev.toNat]
def vj (a : Aff) : List Bs := [affW, qu a.sch, a.name, vl a.its]
def ks (x : Adv) (k : Nat) : List (List Bs) := xk x :: (x.aff.take k).map vj
theorem zlr {x : Adv} {k : Nat} (h : k < x.aff.length) : ks x (k + 1) = ks x k ++ [vj x.aff[k]] := by
 unfold ks
 rw [List.take_succ_eq_append_getElem h, List.map_append]
 rfl
def jc (x : Adv) : List (List Bs) := ks x x.aff.length
def encV (x : Adv) : Bs × Int := if ql x = true then (if encE (jc x) = 0 then (doc (jc x), 0) else ([], encE (jc x))) else ([], 1)
end V
end Go.Proofs.YtnhfaincdabdkaaGreatDoor
namespace Go.Proofs.YtnhfaincdabdkaaGreatDoor.V
def EcOk (n : Int) (x : Ec) : Prop := x = ebot ∨ x = etop ∨ ∃ c : Cut, valid n c.1 = true ∧ x = eat c
theorem zat {n : Int} {x : Itv} (h : zl n x = true) : EcOk n (eLow x) := by
 by_cases hk : x.lk = 0
 ·exact .inl (zbu hk)
 ·exact .inr (.inr ⟨x.low, ki h hk, zaz h hk⟩)
theorem za5 {n : Int} {x : Itv} (h : zl n x = true) : EcOk n (kq x) := by
 by_cases hk : x.hk = 0
 ·exact .inr (.inl (zad hk))
 ·exact .inr (.inr ⟨x.high, qn h hk, ux h hk⟩)
theorem zqx {n : Int} {x : Itv} (h : zl n x = true) : decide (ecmp n (eLow x) (kq x) < 0) = yk n x := by
 unfold yk
 by_cases h1 : x.lk = 0
 ·rw [zbu h1, decide_eq_true h1, Bool.true_or]
  refine decide_eq_true ?_
  by_cases h2 : x.hk = 0
  ·rw [zad h2]; unfold ecmp ebot etop; simp
  ·rw [ux h h2]; unfold ecmp ebot eat; simp
 ·rw [decide_eq_false h1, Bool.false_or]
  by_cases h2 : x.hk = 0
  ·rw [decide_eq_true h2, Bool.true_or, zaz h h1, zad h2]
   exact decide_eq_true (by unfold ecmp eat etop; simp)
  ·rw [decide_eq_false h2, Bool.false_or, zaz h h1, ux h h2, zd9]
theorem zt6 {n : Int} {y x : Itv} (hy : zl n y = true) (hx : zl n x = true) : decide (ecmp n (kq y) (eLow x) < 0) = uz n y x := by
 unfold uz
 by_cases h1 : y.hk = 0
 ·rw [zad h1, decide_eq_true h1]
  refine decide_eq_false ?_
  by_cases h2 : x.lk = 0
  ·rw [zbu h2]; unfold ecmp etop ebot; simp
  ·rw [zaz hx h2]; unfold ecmp etop eat; simp
 ·rw [decide_eq_false h1]
  by_cases h2 : x.lk = 0
  ·rw [decide_eq_true h2, ux hy h1, zbu h2]
   exact decide_eq_false (by unfold ecmp eat ebot; simp)
  ·rw [decide_eq_false h2, ux hy h1, zaz hx h2, zd9]
   rfl
end Go.Proofs.YtnhfaincdabdkaaGreatDoor.V
namespace Go.Proofs.YtnhfaincdabdkaaGreatDoor.V
theorem zii {n : Int} {x : Ec} (hx : EcOk n x) : ∀ {l : List Ec}, (∀ y ∈ l, EcOk n y) → ∀ y ∈ radd n x l, EcOk n y
 | [], _, y, hy => by
  rw [radd] at hy
  rw [List.mem_singleton.1 hy]; exact hx
 | z :: l, h, y, hy => by
  have ih := zii hx (l := l) (fun y hy => h y (by simp [hy]))
  unfold radd at hy
  split at hy
  ·rcases List.mem_cons.1 hy with rfl | hy
   ·exact h _ (by simp)
   ·exact ih y hy
  ·split at hy
   ·rcases List.mem_cons.1 hy with rfl | hy
    ·split
     ·exact h _ (by simp)
     ·exact hx
    ·exact h y (by simp [hy])
   ·rcases List.mem_cons.1 hy with rfl | hy
    ·exact hx
    ·exact h y hy
theorem zca (n : Int) (x : Ec) : ∀ l : List Ec, (radd n x l).length ≤ l.length + 1 ∧ 0 < (radd n x l).length
 | [] => by simp [radd]
 | z :: l => by
  have ih := zca n x l
  unfold radd
  split
  ·simp; omega
  ·split
   ·simp
   ·simp
theorem addI_ok {n : Int} {x : Itv} (hx : zl n x = true) {l : List Ec} (h : ∀ y ∈ l, EcOk n y) : ∀ y ∈ addI n l x, EcOk n y :=
 zii (za5 hx) (zii (zat hx) h)
theorem addI_len (n : Int) (l : List Ec) (x : Itv) : (addI n l x).length ≤ l.length + 2 := by
 have h1 := (zca n (eLow x) l).1
 have h2 := (zca n (kq x) (radd n (eLow x) l)).1
 unfold addI
 omega
theorem zom {n : Int} : ∀ {m : List Itv} {l : List Ec}, (∀ x ∈ m, zl n x = true) → (∀ y ∈ l, EcOk n y) → ∀ y ∈ m.foldl (addI n) l, EcOk n y
 | [], _, _, h => h
 | x :: m, l, hm, h => zom (m := m) (fun z hz => hm z (by simp [hz])) (addI_ok (hm x (by simp)) h)
theorem zkt (n : Int) : ∀ (m : List Itv) (l : List Ec), (m.foldl (addI n) l).length ≤ l.length + 2 * m.length
 | [], l => by simp
 | x :: m, l => by
  have h1 := zkt n m (addI n l x)
  have h2 := addI_len n l x
  rw [List.foldl_cons, List.length_cons]
  omega
theorem zkb (n : Int) : ∀ (m : List Itv) (l : List Ec), 0 < l.length → 0 < (m.foldl (addI n) l).length
 | [], _l, h => h
 | x :: m, l, _h => zkb n m (addI n l x) (zca n _ _).2
theorem zt2 {n : Int} {m : List Itv} {k : Nat} (l : List Ec) (h : k < m.length) : (m.take (k + 1)).foldl (addI n) l = radd n (kq m[k]) (radd n (eLow m[k]) ((m.take k).foldl (addI n) l)) := by
 rw [List.take_succ_eq_append_getElem h, List.foldl_append]
 rfl
theorem ends_ok (n : Int) : ∀ y ∈ [ebot, etop], EcOk n y := by
 intro y hy
 simp at hy
 rcases hy with rfl | rfl
 ·exact .inl rfl
 ·exact .inr (.inl rfl)
theorem EcOk.side {n : Int} {x : Ec} (h : EcOk n x) : 0 ≤ x.s ∧ x.s ≤ 1 := by
 rcases h with rfl | rfl | ⟨c, _, rfl⟩
 ·simp [ebot]
 ·simp [etop]
 ·unfold eat; split <;> simp
theorem _root_.Go.Proofs.YtnhfaincdabdkaaGreatDoor.zx3 {P : Prop} (h : P := by
 rw [List.drop_eq_getElem_cons (by omega : i < C.length), List.drop_eq_getElem_cons hi]
 rw [rrun]
 simp [hn]) : P := h
theorem ztz {h : Ec → Ec → Bool} {C : List Ec} {i : Nat} (hi : i + 1 < C.length) (hn : h C[i] C[i + 1] = false) : rrun h none (C.drop i) = rrun h none (C.drop (i + 1)) := by
 exact zx3
theorem ztx {h : Ec → Ec → Bool} {C : List Ec} {i : Nat} (hi : i + 1 < C.length) (hn : h C[i] C[i + 1] = true) : rrun h none (C.drop i) = rrun h (some C[i]) (C.drop (i + 1)) := by
 exact zx3
theorem rrun_on {h : Ec → Ec → Bool} {C : List Ec} {i : Nat} {f : Ec} (hi : i + 1 < C.length) (hn : h C[i] C[i + 1] = true) : rrun h (some f) (C.drop i) = rrun h (some f) (C.drop (i + 1)) := by
 exact zx3
theorem rrun_end {h : Ec → Ec → Bool} {C : List Ec} {i : Nat} (hi : ¬ i + 1 < C.length) : rrun h none (C.drop i) = [] := by
 have hl : (C.drop i).length ≤ 1 := by rw [List.length_drop]; omega
 rcases hd : C.drop i with _ | ⟨e, _ | ⟨e', l⟩⟩
 ·rfl
 ·rfl
 ·rw [hd] at hl; simp at hl
theorem zrd {h : Ec → Ec → Bool} {C : List Ec} {i : Nat} {f : Ec} (hi : i < C.length) (hn : ∀ hj : i + 1 < C.length, h C[i] C[i + 1] = false) : rrun h (some f) (C.drop i) = btw f C[i] :: rrun h none (C.drop i) := by
 by_cases hj : i + 1 < C.length
 ·have := hn hj
  rw [List.drop_eq_getElem_cons hi, List.drop_eq_getElem_cons hj, rrun, rrun]
  simp [this]
 ·rw [List.drop_eq_getElem_cons hi, List.drop_eq_nil_of_le (by omega), rrun, rrun]
end Go.Proofs.YtnhfaincdabdkaaGreatDoor.V
