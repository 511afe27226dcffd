/-
  Lemmas for the law.
-/
import Derived.Test.YtnhfaincdabdkaaGreatDoorC36x01
import Derived.Test.YtnhfaincdabdkaaGreatDoorC36x07
import Derived.Test.YtnhfaincdabdkaaGreatDoorC36x06
import Derived.Lib.ItoaNum
set_option linter.all false
namespace Go.Proofs.YtnhfaincdabdkaaGreatDoor
open Go.RowKit
namespace V
def jq (c : UInt8) : Bool := decide (33 ≤ c.toNat) && (decide (c.toNat ≤ 125) && !decide (c.toNat = 37))
def digU : Bs := [48, 49, 50, 51, 52, 53, 54, 55, 56, 57, 65, 66, 67, 68, 69, 70]
def encB (c : UInt8) : Bs := if jq c = true then [c] else [37, digU.getD (c.toNat / 16) 0, digU.getD (c.toNat % 16) 0]
def word (w : Bs) : Bs := if w.isEmpty then [126] else w.flatMap encB
def yi (c : UInt8) : Nat := if jq c = true then 1 else 3
def zaa (w : Bs) : Nat := max ((w.map yi).sum) 1
theorem encB_len (c : UInt8) : (encB c).length = yi c := by unfold encB yi; split <;> rfl
theorem zus (c : UInt8) : 1 ≤ yi c := by unfold yi; split <;> omega
theorem sizeC_le (c : UInt8) : yi c ≤ 3 := by unfold yi; split <;> omega
theorem zjf : ∀ w : Bs, (w.flatMap encB).length = (w.map yi).sum
 | [] => rfl
 | c :: w => by rw [List.flatMap_cons, List.length_append, encB_len, zjf w, List.map_cons, List.sum_cons]
theorem sum_le (w : Bs) : (w.map yi).sum ≤ 3 * w.length := by
 induction w with
 | nil => simp
 | cons c w ih => rw [List.map_cons, List.sum_cons, List.length_cons]; have := sizeC_le c; omega
theorem le_sum (w : Bs) : w.length ≤ (w.map yi).sum := by
 induction w with
 | nil => simp
 | cons c w ih => rw [List.map_cons, List.sum_cons, List.length_cons]; have := zus c; omega
theorem zbo (w : Bs) : (word w).length = zaa w := by
 unfold word zaa
 cases w with
 | nil => rfl
 | cons c r =>
  rw [List.isEmpty_cons, if_neg (by decide), zjf]
  have := le_sum (c :: r)
  rw [List.length_cons] at this
  omega
theorem wi (w : Bs) : zaa w ≤ 3 * w.length + 1 := by
 unfold zaa
 have := sum_le w
 omega
def kx (l : List Bs) (k : Nat) : Bs := (List.range k).flatMap fun i => (if i = 0 then [] else [32]) ++ word (l.getD i [])
def line (l : List Bs) : Bs := kx l l.length ++ [10]
def zep (ls : List (List Bs)) (k : Nat) : Bs := (ls.take k).flatMap line
def doc (ls : List (List Bs)) : Bs := ls.flatMap line
def kc (l : List Bs) (k : Nat) : Nat := ((l.take k).map fun w => zaa w + 1).sum
def ks (ls : List (List Bs)) (k : Nat) : Nat := ((ls.take k).map fun l => kc l l.length).sum
theorem zbb (l : List Bs) (k : Nat) : kx l (k + 1) = kx l k ++ ((if k = 0 then [] else [32]) ++ word (l.getD k [])) := by
 unfold kx
 rw [List.range_succ, List.flatMap_append]
 simp
theorem _root_.Go.Proofs.YtnhfaincdabdkaaGreatDoor.zyr {P : Prop} (h : P := by
 rw [List.take_succ_eq_append_getElem h, List.map_append, List.sum_append]
 simp) : P := h
theorem zbd {l : List Bs} {k : Nat} (h : k < l.length) : kc l (k + 1) = kc l k + (zaa l[k] + 1) := by
 unfold kc
 exact zyr
theorem zjx {ls : List (List Bs)} {k : Nat} (h : k < ls.length) : zep ls (k + 1) = zep ls k ++ line ls[k] := by
 unfold zep
 rw [List.take_succ_eq_append_getElem h, List.flatMap_append]
 simp
theorem za2 {ls : List (List Bs)} {k : Nat} (h : k < ls.length) : ks ls (k + 1) = ks ls k + kc ls[k] ls[k].length := by
 unfold ks
 exact zyr
theorem zgn (ls : List (List Bs)) : zep ls ls.length = doc ls := by unfold zep doc; rw [List.take_length]
theorem zex {l : List Bs} : ∀ k, k ≤ l.length → (kx l k).length + 1 ≤ kc l k + 1 ∧ (0 < k → (kx l k).length + 1 = kc l k)
 | 0, _ => ⟨by simp [kx, kc], fun h => by omega⟩
 | k + 1, h => by
  have ih := zex (l := l) k (by omega)
  rw [zbb, zbd (by omega), List.length_append, List.length_append, zbo, List.getD_eq_getElem?_getD, List.getElem?_eq_getElem (by omega)]
  simp only [Option.getD_some]
  by_cases hk : k = 0
  ·subst hk
   have : (kx l 0).length = 0 := rfl
   have h2 : kc l 0 = 0 := rfl
   simp
   omega
  ·have := ih.2 (by omega)
   rw [if_neg hk, List.length_singleton]
   omega
theorem zpw {l : List Bs} (h : 0 < l.length) : (line l).length = kc l l.length := by
 unfold line
 rw [List.length_append, List.length_singleton]
 exact (zex l.length (Nat.le_refl _)).2 h
theorem zb2 {l : List Bs} {j k : Nat} (h : j ≤ k) (hk : k ≤ l.length) : kc l j ≤ kc l k := by
 induction k with
 | zero => obtain rfl : j = 0 := by omega
           exact Nat.le_refl _
 | succ k ih =>
  rcases Nat.lt_or_ge k j with hj | hj
  ·obtain rfl : j = k + 1 := by omega
   exact Nat.le_refl _
  ·rw [zbd (by omega)]
   have := ih hj (by omega)
   omega
theorem zdd {ls : List (List Bs)} {j k : Nat} (h : j ≤ k) (hk : k ≤ ls.length) : ks ls j ≤ ks ls k := by
 induction k with
 | zero => obtain rfl : j = 0 := by omega
           exact Nat.le_refl _
 | succ k ih =>
  rcases Nat.lt_or_ge k j with hj | hj
  ·obtain rfl : j = k + 1 := by omega
   exact Nat.le_refl _
  ·rw [za2 (by omega)]
   have := ih hj (by omega)
   omega
theorem zd3 {ls : List (List Bs)} (hw : ∀ l ∈ ls, 0 < l.length) : ∀ k, k ≤ ls.length → (zep ls k).length = ks ls k
 | 0, _ => rfl
 | k + 1, h => by
  rw [zjx (by omega), za2 (by omega), List.length_append, zd3 hw k (by omega), zpw (hw _ (List.getElem_mem (by omega)))]
structure DocOk (ls : List (List Bs)) : Prop where
 lines : ls.length ≤ 1000
 line : ∀ l ∈ ls, 0 < l.length ∧ l.length ≤ 120 ∧ ∀ w ∈ l, w.length ≤ 32768
 size : ks ls ls.length ≤ 262144
end V
open Go.RowKit
namespace V
def hexV (c : UInt8) : Option Nat := if 48 ≤ c.toNat ∧ c.toNat ≤ 57 then some (c.toNat - 48) else if 65 ≤ c.toNat ∧ c.toNat ≤ 70 then some (c.toNat - 55) else none
def qw : Bs → Option Bs
 | [] => some []
 | c :: r => if jq c = true then (qw r).map (c :: ·) else if c = 37 then
   match r with
   | a :: b :: r' => match hexV a, hexV b with
    | some x, some y => if jq (UInt8.ofNat (16 * x + y)) = true then none else (qw r').map (UInt8.ofNat (16 * x + y) :: ·)
    | _, _ => none
   | _ => none
  else none
def unwR (s : Bs) : Option Bs := if s = [126] then some [] else match qw s with | some w => if w = [] then none else some w | none => none
def escB : Bs → Option Bs
 | a :: b :: r' => match hexV a, hexV b with
  | some x, some y => if jq (UInt8.ofNat (16 * x + y)) = true then none else (qw r').map (UInt8.ofNat (16 * x + y) :: ·)
  | _, _ => none
 | _ => none
theorem ze5 (c : UInt8) (r : Bs) : qw (c :: r) = if jq c = true then (qw r).map (c :: ·) else if c = 37 then escB r else none := by
 match r with
 | [] => rfl
 | [_] => rfl
 | _ :: _ :: _ => rfl
theorem zc8 {c : UInt8} {r : Bs} (h : jq c = true) : qw (c :: r) = (qw r).map (c :: ·) := by rw [ze5, if_pos h]
theorem zlo {c : UInt8} {r : Bs} (h : jq c = false) (hc : c ≠ 37) : qw (c :: r) = none := by
 rw [ze5, if_neg (by rw [h]; decide), if_neg hc]
theorem zm4 (r : Bs) : qw (37 :: r) = escB r := by rw [ze5, if_neg (by decide), if_pos rfl]
theorem zdc {r : Bs} (h : r.length < 2) : qw (37 :: r) = none := by
 rw [zm4]
 match r, h with
 | [], _ => rfl
 | [_], _ => rfl
theorem zf5 {a b : UInt8} {r : Bs} (h : hexV a = none ∨ hexV b = none) : qw (37 :: a :: b :: r) = none := by
 rw [zm4, escB]
 rcases h with h | h
 ·simp [h]
 ·cases ha : hexV a <;> simp [h]
theorem zgj {a b : UInt8} {r : Bs} {x y : Nat} (ha : hexV a = some x) (hb : hexV b = some y) : qw (37 :: a :: b :: r) = if jq (UInt8.ofNat (16 * x + y)) = true then none else (qw r).map (UInt8.ofNat (16 * x + y) :: ·) := by
 rw [zm4, escB]
 simp [ha, hb]
theorem zhx {c : UInt8} {x : Nat} (h : hexV c = some x) : x < 16 := by
 unfold hexV at h
 split at h
 ·cases h; omega
 ·split at h
  ·cases h; omega
  ·cases h
theorem hexV_dig : ∀ n : Fin 256, (match hexV (UInt8.ofNat n.val) with | some x => decide (digU.getD x 0 = UInt8.ofNat n.val) | none => true) = true := by decide +kernel
theorem zl0 {c : UInt8} {x : Nat} (h : hexV c = some x) : digU.getD x 0 = c := by
 have := hexV_dig ⟨c.toNat, c.toNat_lt⟩
 simp only [UInt8.ofNat_toNat, h, decide_eq_true_eq] at this
 exact this
theorem enc_esc {a b : UInt8} {x y : Nat} (ha : hexV a = some x) (hb : hexV b = some y) (hp : jq (UInt8.ofNat (16 * x + y)) = false) : encB (UInt8.ofNat (16 * x + y)) = [37, a, b] := by
 have hx := zhx ha
 have hy := zhx hb
 unfold encB
 have e : (UInt8.ofNat (16 * x + y)).toNat = 16 * x + y := by simp; omega
 rw [hp, if_neg (by decide), e, show (16 * x + y) / 16 = x by omega, show (16 * x + y) % 16 = y by omega, zl0 ha, zl0 hb]
theorem zgf : ∀ (k : Nat) (s w : Bs), s.length ≤ k → qw s = some w → w.flatMap encB = s
 | _, [], w, _, h => by rw [qw] at h; cases h; rfl
 | 0, c :: r, w, hk, _ => by simp at hk
 | k + 1, c :: r, w, hk, h => by
  rw [List.length_cons] at hk
  rcases hp : jq c with _ | _
  ·by_cases hc : c = 37
   ·subst hc
    match r, h with
    | [], h => rw [zdc (by simp)] at h; cases h
    | [_], h => rw [zdc (by simp)] at h; cases h
    | a :: b :: r', h =>
     cases ha : hexV a with
     | none => rw [zf5 (.inl ha)] at h; cases h
     | some x =>
      cases hb : hexV b with
      | none => rw [zf5 (.inr hb)] at h; cases h
      | some y =>
       rw [zgj ha hb] at h
       split at h
       ·cases h
       ·rename_i hq
        have hq : jq (UInt8.ofNat (16 * x + y)) = false := by simpa using hq
        cases hr : qw r' with
        | none => rw [hr] at h; cases h
        | some w' =>
         rw [hr] at h
         simp only [Option.map_some, Option.some.injEq] at h
         subst h
         simp only [List.length_cons] at hk
         rw [List.flatMap_cons, zgf k r' w' (by omega) hr, enc_esc ha hb hq]
         rfl
   ·rw [zlo hp hc] at h; cases h
  ·rw [zc8 hp] at h
   cases hr : qw r with
   | none => rw [hr] at h; cases h
   | some w' =>
    rw [hr] at h
    simp only [Option.map_some, Option.some.injEq] at h
    subst h
    rw [List.flatMap_cons, zgf k r w' (by omega) hr]
    unfold encB
    rw [if_pos hp]
    rfl
theorem zlw {s w : Bs} (h : unwR s = some w) : word w = s := by
 unfold unwR at h
 split at h
 ·rename_i e
  cases h
  rw [e]; rfl
 ·cases hq : qw s with
  | none => rw [hq] at h; cases h
  | some v =>
   rw [hq] at h
   simp only at h
   split at h
   ·cases h
   ·rename_i hv
    cases h
    unfold word
    rw [if_neg (by simpa using hv)]
    exact zgf _ s _ (Nat.le_refl _) hq
theorem unw_at {s : Bs} {k : Nat} {out : Bs} (h : qw s = (qw (s.drop k)).map (out ++ ·)) (hk : k < s.length) :
  (jq s[k] = true → qw s = (qw (s.drop (k + 1))).map ((out ++ [s[k]]) ++ ·)) ∧
  (jq s[k] = false → s[k] ≠ 37 → qw s = none) ∧
  (s[k] = 37 → s.length < k + 3 → qw s = none) ∧
  (∀ h3 : k + 2 < s.length, s[k] = 37 → (hexV s[k + 1] = none ∨ hexV s[k + 2] = none) → qw s = none) ∧
  (∀ (h3 : k + 2 < s.length) x y, s[k] = 37 → hexV s[k + 1] = some x → hexV s[k + 2] = some y → (jq (UInt8.ofNat (16 * x + y)) = true → qw s = none) ∧ (jq (UInt8.ofNat (16 * x + y)) = false → qw s = (qw (s.drop (k + 3))).map ((out ++ [UInt8.ofNat (16 * x + y)]) ++ ·))) := by
 have hd := List.drop_eq_getElem_cons hk
 refine ⟨fun hp => ?_, fun hp hc => ?_, fun hc hl => ?_, fun h3 hc hb => ?_, fun h3 x y hc hx hy => ?_⟩
 ·rw [h, hd, zc8 hp]
  cases qw (s.drop (k + 1)) <;> simp
 ·rw [h, hd, zlo hp hc]; rfl
 ·rw [h, hd, hc, zdc (by simp; omega)]; rfl
 ·have h1 := List.drop_eq_getElem_cons (show k + 1 < s.length by omega)
  have h2 := List.drop_eq_getElem_cons h3
  rw [h, hd, hc, h1, h2, zf5 hb]; rfl
 ·have h1 := List.drop_eq_getElem_cons (show k + 1 < s.length by omega)
  have h2 := List.drop_eq_getElem_cons h3
  rw [hd, hc, h1, h2, zgj hx hy] at h
  refine ⟨fun hp => ?_, fun hp => ?_⟩
  ·rw [h, if_pos hp]; rfl
  ·rw [h, if_neg (by rw [hp]; decide)]
   cases qw (s.drop (k + 3)) <;> simp
end V
open Go.RowKit
namespace V
def qz : List Bs → Option (List Bs)
 | [] => some []
 | s :: r => match unwR s with | none => none | some w => (qz r).map (w :: ·)
def chk (l : List Bs) : Int := if l.length = 0 then 1 else if 120 < l.length then 3 else if (l.all fun w => decide (w.length ≤ 32768)) = true then 0 else 3
def ji : List Bs → Option (List (List Bs))
 | [] => none
 | [x] => if x = [] then some [] else none
 | x :: y :: r => match qz (ze 32 x) with | none => none | some l => if chk l = 0 then (ji (y :: r)).map (l :: ·) else none
def decP (b : Bs) : List (List Bs) × Int := if 262144 < b.length then ([], 3) else match ji (ze 10 b) with | some ls => if ls.length ≤ 1000 then (ls, 0) else ([], 2) | none => ([], 2)
def zkq : List Bs → Option (List (List Bs))
 | [] => some []
 | x :: r => match qz (ze 32 x) with | none => none | some l => (zkq r).map (l :: ·)
def qa : List (List Bs) → Int
 | [] => 0
 | l :: r => if chk l = 0 then qa r else chk l
def encE (ls : List (List Bs)) : Int := if 1000 < ls.length then 3 else if qa ls = 0 then (if 262144 < ks ls ls.length then 3 else 0) else qa ls
theorem zdn {l : List Bs} : chk l = 0 ↔ 0 < l.length ∧ l.length ≤ 120 ∧ ∀ w ∈ l, w.length ≤ 32768 := by
 unfold chk
 split
 ·simp; omega
 ·split
  ·simp; omega
  ·split
   ·rename_i h
    simp only [List.all_eq_true, decide_eq_true_eq] at h
    exact ⟨fun _ => ⟨by omega, by omega, h⟩, fun _ => rfl⟩
   ·rename_i h
    simp only [List.all_eq_true, decide_eq_true_eq] at h
    exact ⟨fun e => by simp at e, fun e => absurd e.2.2 h⟩
theorem ym : ∀ {ls : List (List Bs)}, qa ls = 0 ↔ ∀ l ∈ ls, chk l = 0
 | [] => by simp [qa]
 | l :: r => by
  unfold qa
  split
  ·rename_i h
   rw [ym]
   simp [h]
  ·rename_i h
   simp [h]
theorem zp2 {ls : List (List Bs)} {k : Nat} (hk : k < ls.length) (h : qa ls = qa (ls.drop k)) : (chk ls[k] = 0 → qa ls = qa (ls.drop (k + 1))) ∧ (¬ chk ls[k] = 0 → qa ls = chk ls[k]) := by
 rw [List.drop_eq_getElem_cons hk, qa] at h
 refine ⟨fun e => ?_, fun e => ?_⟩
 ·rw [h, if_pos e]
 ·rw [h, if_neg e]
theorem zgc {ls : List (List Bs)} (h : encE ls = 0) : DocOk ls := by
 unfold encE at h
 split at h
 ·cases h
 ·split at h
  ·rename_i h1 h2
   split at h
   ·cases h
   ·exact ⟨by omega, fun l hl => zdn.1 (ym.1 h2 l hl), by omega⟩
  ·rename_i h2
   exact absurd h h2
theorem zdj {x : Bs} {t : List Bs} (h : t ≠ []) : ji (x :: t) = match qz (ze 32 x) with | none => none | some l => if chk l = 0 then (ji t).map (l :: ·) else none := by
 cases t with
 | nil => exact absurd rfl h
 | cons y r => rfl
theorem zg5 : ∀ rows : List Bs, ji (rows ++ [[]]) = match zkq rows with | none => none | some ls => if qa ls = 0 then some ls else none
 | [] => by simp [ji, zkq, qa]
 | x :: r => by
  rw [List.cons_append, zdj (by simp), zkq, zg5 r]
  cases hw : qz (ze 32 x) with
  | none => rfl
  | some l =>
   simp only
   cases hr : zkq r with
   | none => simp
   | some ls =>
    simp only [Option.map_some]
    by_cases h1 : chk l = 0
    ·have e : qa (l :: ls) = qa ls := by rw [qa, if_pos h1]
     simp only [e, h1, if_true]
     by_cases h2 : qa ls = 0
     ·simp [h2]
     ·simp [h2]
    ·have e : qa (l :: ls) = chk l := by rw [qa, if_neg h1]
     simp [e, h1]
theorem zp5 : ∀ {r : List Bs} {l : List Bs}, qz r = some l → l.length = r.length ∧ (l.map fun w => zaa w + 1).sum = (r.map fun s => s.length + 1).sum
 | [], l, h => by cases h; exact ⟨rfl, rfl⟩
 | s :: r, l, h => by
  rw [qz] at h
  cases hs : unwR s with
  | none => rw [hs] at h; cases h
  | some w =>
   rw [hs] at h
   simp only at h
   cases hr : qz r with
   | none => rw [hr] at h; cases h
   | some l' =>
    rw [hr] at h
    cases h
    have ih := zp5 hr
    have hw := zbo w
    rw [zlw hs] at hw
    simp only [List.length_cons, List.map_cons, List.sum_cons, ih.1, ih.2, hw]
    exact ⟨trivial, trivial⟩
theorem zic (c : UInt8) : ∀ s : Bs, ((ze c s).map fun x => x.length + 1).sum = s.length + 1
 | [] => by simp [ze]
 | a :: s => by
  have ih := zic c s
  rw [ze]
  split
  ·simp [ih]; omega
  ·cases hq : ze c s with
   | nil => exact absurd hq (zcp c s)
   | cons y r =>
    rw [hq] at ih
    simp only [List.map_cons, List.sum_cons, List.length_cons] at ih ⊢
    omega
theorem zq7 : decP [] = ([], 0) := by simp [decP, ze, ji]
end V
open Go.RowKit
namespace V
structure Aff where
 sch : Int
 name : Bs
 rs : Int
 its : List Itv
structure Adv where
 id : Bs
 rev : Int
 sev : Int
 aff : List Aff
def zA : Aff := ⟨0, [], 0, []⟩
def zV : Adv := ⟨[], 0, 0, []⟩
def affC (a b : Aff) : Int := orI [Lib.compareInt a.sch b.sch, Lib.compareBytes a.name b.name]
def rngOk (n : Int) (r : Int) (l : List Itv) : Bool := decide (r = n) && (decide (1 ≤ l.length) && okR r l)
def kp (a : Aff) : Bool := yj a.name && rngOk a.sch a.rs a.its
def zbs (l : List Aff) (i : Nat) (a : Aff) : Bool := (decide (i = 0) || decide (affC (l.getD (i - 1) zA) a < 0)) && kp a
def uy (l : List Aff) : Nat → Bool
 | 0 => true
 | k + 1 => uy l k && match l[k]? with | some a => zbs l k a | none => true
def zia (id : Bs) (rev sev : Int) (n : Nat) : Bool := zay id && (decide (1 ≤ rev) && (decide (rev ≤ 1099511627776) && (decide (1 ≤ sev) && (decide (sev ≤ 10) && decide (n ≤ 16)))))
def ka (x : Adv) : Bool := zia x.id x.rev x.sev x.aff.length && uy x.aff x.aff.length
theorem zco {l : List Aff} {k : Nat} (h : k < l.length) : uy l (k + 1) = (uy l k && zbs l k l[k]) := by
 show (uy l k && match l[k]? with | some a => zbs l k a | none => true) = _
 rw [List.getElem?_eq_getElem h]
theorem zgq {l : List Aff} : ∀ {m k : Nat}, k ≤ m → uy l k = false → uy l m = false
 | 0, k, h, e => by obtain rfl : k = 0 := by omega
                    exact e
 | m + 1, k, h, e => by
  by_cases hk : k = m + 1
  ·subst hk; exact e
  ·have := zgq (m := m) (by omega) e
   show (uy l m && _) = false
   rw [this]; rfl
theorem affTo_no {l : List Aff} {k : Nat} (h : k < l.length) (ha : zbs l k l[k] = false) : uy l l.length = false :=
 zgq (k := k + 1) (by omega) (by rw [zco h, ha, Bool.and_false])
theorem zjm {l : List Aff} : ∀ {m : Nat}, uy l m = true → ∀ k (hk : k < l.length), k < m → zbs l k l[k] = true
 | 0, _, k, _, h => absurd h (Nat.not_lt_zero _)
 | m + 1, h, k, hk, hm => by
  by_cases hml : m < l.length
  ·rw [zco hml, Bool.and_eq_true] at h
   by_cases e : k = m
   ·subst e; exact h.2
   ·exact zjm h.1 k hk (by omega)
  ·have h2 : (uy l m && match l[m]? with | some a => zbs l m a | none => true) = true := h
   rw [Bool.and_eq_true] at h2
   exact zjm h2.1 k hk (by omega)
structure AdvP (x : Adv) : Prop where
 id : zay x.id = true
 rev0 : 1 ≤ x.rev
 rev1 : x.rev ≤ 1099511627776
 sev0 : 1 ≤ x.sev
 sev1 : x.sev ≤ 10
 len : x.aff.length ≤ 16
 all : uy x.aff x.aff.length = true
theorem xy {x : Adv} (h : ka x = true) : AdvP x := by
 unfold ka zia at h
 simp only [Bool.and_eq_true, decide_eq_true_eq] at h
 exact ⟨h.1.1, h.1.2.1, h.1.2.2.1, h.1.2.2.2.1, h.1.2.2.2.2.1, h.1.2.2.2.2.2, h.2⟩
theorem AdvP.sound {x : Adv} (h : AdvP x) {a : Aff} (ha : a ∈ x.aff) : kp a = true := by
 obtain ⟨k, hk, rfl⟩ := List.mem_iff_getElem.1 ha
 have := zjm h.all k hk hk
 unfold zbs at this
 rw [Bool.and_eq_true] at this
 exact this.2
theorem yy {a : Aff} (h : kp a = true) : yj a.name = true ∧ a.rs = a.sch ∧ 1 ≤ a.its.length ∧ okR a.sch a.its = true := by
 unfold kp rngOk at h
 simp only [Bool.and_eq_true, decide_eq_true_eq] at h
 exact ⟨h.1, h.2.1, h.2.2.1, by have := h.2.2.2; rwa [h.2.1] at this⟩
theorem okR_sch {n : Int} {l : List Itv} (h : okR n l = true) : n = 1 ∨ n = 2 ∨ n = 3 := by
 have := (wu h).sch
 unfold scheme at this
 simp only [Bool.or_eq_true, beq_iff_eq] at this
 omega
theorem zeu {s : Bs} (h : yj s = true) : s.length ≤ 200 := by
 unfold yj at h
 simp only [Bool.and_eq_true, decide_eq_true_eq] at h
 exact h.1.1.2
def advW : Bs := [97, 100, 118, 105, 115, 111, 114, 121]
def affW : Bs := [97, 102, 102, 101, 99, 116, 115]
def xd (x : Adv) : List Bs := [advW, x.id, Lib.decDigits x.rev.toNat, Lib.decDigits x.sev.toNat]
def uw (a : Aff) : List Bs := [affW, qn a.sch, a.name, uz a.its]
def kj (x : Adv) (k : Nat) : List (List Bs) := xd x :: (x.aff.take k).map uw
theorem zlf {x : Adv} {k : Nat} (h : k < x.aff.length) : kj x (k + 1) = kj x k ++ [uw x.aff[k]] := by
 unfold kj
 rw [List.take_succ_eq_append_getElem h, List.map_append]
 rfl
def qv (x : Adv) : List (List Bs) := kj x x.aff.length
def encV (x : Adv) : Bs × Int := if ka x = true then (if encE (qv x) = 0 then (doc (qv x), 0) else ([], encE (qv x))) else ([], 1)
end V
end Go.Proofs.YtnhfaincdabdkaaGreatDoor
namespace Go.Proofs.YtnhfaincdabdkaaGreatDoor.V
def EcOk (n : Int) (x : Ec) : Prop := x = ebot ∨ x = etop ∨ ∃ c : Cut, valid n c.1 = true ∧ x = eat c
theorem zaj {n : Int} {x : Itv} (h : zk n x = true) : EcOk n (eLow x) := by
 by_cases hk : x.lk = 0
 ·exact .inl (zbc hk)
 ·exact .inr (.inr ⟨x.low, xk h hk, zap h hk⟩)
theorem zav {n : Int} {x : Itv} (h : zk n x = true) : EcOk n (kh x) := by
 by_cases hk : x.hk = 0
 ·exact .inr (.inl (wh hk))
 ·exact .inr (.inr ⟨x.high, je h hk, uj h hk⟩)
theorem zqk {n : Int} {x : Itv} (h : zk n x = true) : decide (ecmp n (eLow x) (kh x) < 0) = xz n x := by
 unfold xz
 by_cases h1 : x.lk = 0
 ·rw [zbc h1, decide_eq_true h1, Bool.true_or]
  refine decide_eq_true ?_
  by_cases h2 : x.hk = 0
  ·rw [wh h2]; unfold ecmp ebot etop; simp
  ·rw [uj h h2]; unfold ecmp ebot eat; simp
 ·rw [decide_eq_false h1, Bool.false_or]
  by_cases h2 : x.hk = 0
  ·rw [decide_eq_true h2, Bool.true_or, zap h h1, wh h2]
   exact decide_eq_true (by unfold ecmp eat etop; simp)
  ·rw [decide_eq_false h2, Bool.false_or, zap h h1, uj h h2, zdu]
theorem ztu {n : Int} {y x : Itv} (hy : zk n y = true) (hx : zk n x = true) : decide (ecmp n (kh y) (eLow x) < 0) = ul n y x := by
 unfold ul
 by_cases h1 : y.hk = 0
 ·rw [wh h1, decide_eq_true h1]
  refine decide_eq_false ?_
  by_cases h2 : x.lk = 0
  ·rw [zbc h2]; unfold ecmp etop ebot; simp
  ·rw [zap hx h2]; unfold ecmp etop eat; simp
 ·rw [decide_eq_false h1]
  by_cases h2 : x.lk = 0
  ·rw [decide_eq_true h2, uj hy h1, zbc h2]
   exact decide_eq_false (by unfold ecmp eat ebot; simp)
  ·rw [decide_eq_false h2, uj hy h1, zap hx h2, zdu]
   rfl
end Go.Proofs.YtnhfaincdabdkaaGreatDoor.V
namespace Go.Proofs.YtnhfaincdabdkaaGreatDoor.V
theorem zh3 {n : Int} {x : Ec} (hx : EcOk n x) : ∀ {l : List Ec}, (∀ y ∈ l, EcOk n y) → ∀ y ∈ radd n x l, EcOk n y
 | [], _, y, hy => by
  rw [radd] at hy
  rw [List.mem_singleton.1 hy]; exact hx
 | z :: l, h, y, hy => by
  have ih := zh3 hx (l := l) (fun y hy => h y (by simp [hy]))
  unfold radd at hy
  split at hy
  ·rcases List.mem_cons.1 hy with rfl | hy
   ·exact h _ (by simp)
   ·exact ih y hy
  ·split at hy
   ·rcases List.mem_cons.1 hy with rfl | hy
    ·split
     ·exact h _ (by simp)
     ·exact hx
    ·exact h y (by simp [hy])
   ·rcases List.mem_cons.1 hy with rfl | hy
    ·exact hx
    ·exact h y hy
theorem zbu (n : Int) (x : Ec) : ∀ l : List Ec, (radd n x l).length ≤ l.length + 1 ∧ 0 < (radd n x l).length
 | [] => by simp [radd]
 | z :: l => by
  have ih := zbu n x l
  unfold radd
  split
  ·simp; omega
  ·split
   ·simp
   ·simp
theorem addI_ok {n : Int} {x : Itv} (hx : zk n x = true) {l : List Ec} (h : ∀ y ∈ l, EcOk n y) : ∀ y ∈ addI n l x, EcOk n y :=
 zh3 (zav hx) (zh3 (zaj hx) h)
theorem addI_len (n : Int) (l : List Ec) (x : Itv) : (addI n l x).length ≤ l.length + 2 := by
 have h1 := (zbu n (eLow x) l).1
 have h2 := (zbu n (kh x) (radd n (eLow x) l)).1
 unfold addI
 omega
theorem zn8 {n : Int} : ∀ {m : List Itv} {l : List Ec}, (∀ x ∈ m, zk n x = true) → (∀ y ∈ l, EcOk n y) → ∀ y ∈ m.foldl (addI n) l, EcOk n y
 | [], _, _, h => h
 | x :: m, l, hm, h => zn8 (m := m) (fun z hz => hm z (by simp [hz])) (addI_ok (hm x (by simp)) h)
theorem zkh (n : Int) : ∀ (m : List Itv) (l : List Ec), (m.foldl (addI n) l).length ≤ l.length + 2 * m.length
 | [], l => by simp
 | x :: m, l => by
  have h1 := zkh n m (addI n l x)
  have h2 := addI_len n l x
  rw [List.foldl_cons, List.length_cons]
  omega
theorem zj0 (n : Int) : ∀ (m : List Itv) (l : List Ec), 0 < l.length → 0 < (m.foldl (addI n) l).length
 | [], _l, h => h
 | x :: m, l, _h => zj0 n m (addI n l x) (zbu n _ _).2
theorem zto {n : Int} {m : List Itv} {k : Nat} (l : List Ec) (h : k < m.length) : (m.take (k + 1)).foldl (addI n) l = radd n (kh m[k]) (radd n (eLow m[k]) ((m.take k).foldl (addI n) l)) := by
 rw [List.take_succ_eq_append_getElem h, List.foldl_append]
 rfl
theorem ends_ok (n : Int) : ∀ y ∈ [ebot, etop], EcOk n y := by
 intro y hy
 simp at hy
 rcases hy with rfl | rfl
 ·exact .inl rfl
 ·exact .inr (.inl rfl)
theorem EcOk.side {n : Int} {x : Ec} (h : EcOk n x) : 0 ≤ x.s ∧ x.s ≤ 1 := by
 rcases h with rfl | rfl | ⟨c, _, rfl⟩
 ·simp [ebot]
 ·simp [etop]
 ·unfold eat; split <;> simp
theorem _root_.Go.Proofs.YtnhfaincdabdkaaGreatDoor.zxi {P : Prop} (h : P := by
 rw [List.drop_eq_getElem_cons (by omega : i < C.length), List.drop_eq_getElem_cons hi]
 rw [rrun]
 simp [hn]) : P := h
theorem ztl {h : Ec → Ec → Bool} {C : List Ec} {i : Nat} (hi : i + 1 < C.length) (hn : h C[i] C[i + 1] = false) : rrun h none (C.drop i) = rrun h none (C.drop (i + 1)) := by
 exact zxi
theorem ztj {h : Ec → Ec → Bool} {C : List Ec} {i : Nat} (hi : i + 1 < C.length) (hn : h C[i] C[i + 1] = true) : rrun h none (C.drop i) = rrun h (some C[i]) (C.drop (i + 1)) := by
 exact zxi
theorem rrun_on {h : Ec → Ec → Bool} {C : List Ec} {i : Nat} {f : Ec} (hi : i + 1 < C.length) (hn : h C[i] C[i + 1] = true) : rrun h (some f) (C.drop i) = rrun h (some f) (C.drop (i + 1)) := by
 exact zxi
theorem rrun_end {h : Ec → Ec → Bool} {C : List Ec} {i : Nat} (hi : ¬ i + 1 < C.length) : rrun h none (C.drop i) = [] := by
 have hl : (C.drop i).length ≤ 1 := by rw [List.length_drop]; omega
 rcases hd : C.drop i with _ | ⟨e, _ | ⟨e', l⟩⟩
 ·rfl
 ·rfl
 ·rw [hd] at hl; simp at hl
theorem zq0 {h : Ec → Ec → Bool} {C : List Ec} {i : Nat} {f : Ec} (hi : i < C.length) (hn : ∀ hj : i + 1 < C.length, h C[i] C[i + 1] = false) : rrun h (some f) (C.drop i) = btw f C[i] :: rrun h none (C.drop i) := by
 by_cases hj : i + 1 < C.length
 ·have := hn hj
  rw [List.drop_eq_getElem_cons hi, List.drop_eq_getElem_cons hj, rrun, rrun]
  simp [this]
 ·rw [List.drop_eq_getElem_cons hi, List.drop_eq_nil_of_le (by omega), rrun, rrun]
end Go.Proofs.YtnhfaincdabdkaaGreatDoor.V
