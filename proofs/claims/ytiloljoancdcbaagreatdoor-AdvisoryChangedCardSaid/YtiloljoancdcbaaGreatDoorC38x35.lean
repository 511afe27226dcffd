/-
  Lemmas for the law.
-/
import Derived.Test.YtiloljoancdcbaaGreatDoorC38x06
import Derived.Test.YtiloljoancdcbaaGreatDoorC38x34
import Derived.Test.YtiloljoancdcbaaGreatDoorC38x22
import Derived.Outline
set_option linter.all false
set_option maxRecDepth 100000
set_option maxHeartbeats 12800000
namespace Go.Proofs.YtiloljoancdcbaaGreatDoor
open Go.RowKit
namespace V
theorem ztv : ∀ n : Fin 16, hexV (digU.getD n.val 0) = some n.val := by decide +kernel
theorem u8_parts (c : UInt8) : UInt8.ofNat (16 * (c.toNat / 16) + c.toNat % 16) = c := by
 rw [Nat.div_add_mod]; exact UInt8.ofNat_toNat
theorem zfj : ∀ w : Bs, jd (w.flatMap encB) = some w
 | [] => rfl
 | c :: w => by
  rw [List.flatMap_cons, encB]
  by_cases hp : jg c = true
  ·rw [if_pos hp, List.cons_append, List.nil_append, zdu hp, zfj w]; rfl
  ·rw [if_neg hp]
   have hc := c.toNat_lt
   have h1 := ztv ⟨c.toNat / 16, by omega⟩
   have h2 := ztv ⟨c.toNat % 16, by omega⟩
   show jd (37 :: digU.getD (c.toNat / 16) 0 :: digU.getD (c.toNat % 16) 0 :: w.flatMap encB) = _
   rw [zg3 h1 h2, u8_parts, if_neg hp, zfj w]; rfl
theorem zqk : ∀ n : Fin 16, 48 ≤ (digU.getD n.val 0).toNat /\ (digU.getD n.val 0).toNat ≤ 70 := by decide +kernel
theorem zpo {c b : UInt8} (h : b ∈ encB c) : 33 ≤ b.toNat /\ b.toNat ≤ 125 := by
 unfold encB at h
 have hc := c.toNat_lt
 split at h
 ·rename_i hp
  simp only [List.mem_singleton] at h
  subst h
  simp [jg] at hp
  omega
 ·have h1 := zqk ⟨c.toNat / 16, by omega⟩
  have h2 := zqk ⟨c.toNat % 16, by omega⟩
  simp only at h1 h2
  simp only [List.mem_cons, List.not_mem_nil, or_false] at h
  rcases h with rfl | rfl | rfl
  ·decide
  ·omega
  ·omega
theorem zq8 {w : Bs} {b : UInt8} (h : b ∈ word w) : 33 ≤ b.toNat /\ b.toNat ≤ 126 := by
 unfold word at h
 split at h
 ·simp only [List.mem_singleton] at h; subst h; decide
 ·obtain ⟨c, _, hb⟩ := List.mem_flatMap.1 h
  have := zpo hb
  omega
theorem unwR_w (w : Bs) : unwR (word w) = some w := by
 unfold word
 cases w with
 | nil => rfl
 | cons c w =>
  rw [if_neg (by simp)]
  unfold unwR
  have hne : ¬ (c :: w).flatMap encB = [126] := by
   intro e
   have hb : (126 : UInt8) ∈ (c :: w).flatMap encB := by rw [e]; simp
   obtain ⟨d, _, hd⟩ := List.mem_flatMap.1 hb
   have := zpo hd
   have e2 : (126 : UInt8).toNat = 126 := rfl
   omega
  rw [if_neg hne, zfj]
  simp
theorem zd1 (c : UInt8) : ∀ x y : Bs, ze c (x ++ c :: y) = ze c x ++ ze c y
 | [], y => by simp [ze]
 | a :: x, y => by
  rw [List.cons_append, ze, ze, zd1 c x y]
  split
  ·rfl
  ·cases hq : ze c x with
   | nil => exact absurd hq (zda c x)
   | cons z r => rfl
theorem zto {w : Bs} {c : UInt8} (h : c.toNat < 33) : c ∉ word w := fun hc => by have := zq8 hc; omega
theorem zkw {l : List Bs} : ∀ k, k + 1 ≤ l.length -> ze 32 (jm l (k + 1)) = (l.take (k + 1)).map word
 | 0, h => by
  rw [zap, if_pos rfl]
  show ze 32 ([] ++ ([] ++ word (l.getD 0 []))) = _
  rw [List.nil_append, List.nil_append, ju (zto (by decide))]
  cases l with
  | nil => simp at h
  | cons a l => simp
 | k + 1, h => by
  rw [zap, if_neg (by omega), List.singleton_append, zd1, zkw k (by omega), ju (zto (by decide)), List.take_succ_eq_append_getElem (show k + 1 < l.length by omega), List.map_append]
  simp [List.getD_eq_getElem?_getD, List.getElem?_eq_getElem (show k + 1 < l.length by omega)]
theorem zkq : ∀ l : List Bs, jf (l.map word) = some l
 | [] => rfl
 | w :: l => by rw [List.map_cons, jf, unwR_w, zkq l]; rfl
def zhq (l : List Bs) : Bs := jm l l.length
theorem zpx {l : List Bs} (h : 0 < l.length) : jf (ze 32 (zhq l)) = some l := by
 obtain ⟨k, hk⟩ : ∃ k, l.length = k + 1 := ⟨l.length - 1, by omega⟩
 unfold zhq
 rw [hk, zkw k (by omega), ← hk, List.take_length, zkq]
theorem lineB_no (l : List Bs) : (10 : UInt8) ∉ zhq l := by
 unfold zhq jm
 intro h
 obtain ⟨i, _, hi⟩ := List.mem_flatMap.1 h
 rw [List.mem_append] at hi
 rcases hi with hi | hi
 ·split at hi
  ·simp at hi
  ·simp at hi
 ·have := zq8 hi
  have e : (10 : UInt8).toNat = 10 := rfl
  omega
theorem zmi : ∀ ls : List (List Bs), ze 10 (doc ls) = ls.map zhq ++ [[]]
 | [] => rfl
 | l :: ls => by
  have e : doc (l :: ls) = zhq l ++ 10 :: doc ls := by simp [doc, line, zhq]
  rw [e, zd1, ju (lineB_no l), zmi ls]
  rfl
theorem zmz : ∀ {ls : List (List Bs)}, (∀ l ∈ ls, 0 < l.length) -> zk8 (ls.map zhq) = some ls
 | [], _ => rfl
 | l :: ls, h => by
  rw [List.map_cons, zk8, zpx (h l (by simp)), zmz (fun x hx => h x (by simp [hx]))]
  rfl
theorem decP_doc {ls : List (List Bs)} (h : DocOk ls) : decP (doc ls) = (ls, 0) := by
 have h0 : ∀ l ∈ ls, 0 < l.length := fun l hl => (h.line l hl).1
 have hlen : (doc ls).length = kb ls ls.length := by rw [← zeu]; exact zem h0 _ (zvt _)
 have hf : zx ls = 0 := uh.2 fun l hl => zct.2 (h.line l hl)
 unfold decP
 rw [if_neg (by rw [hlen]; have := h.size; omega), zmi, zhp, zmz h0]
 simp only [hf, if_true]
 rw [if_pos h.lines]
theorem dec_next {n : Nat} (h : ¬ n < 10) : Lib.decDigits n = Lib.decDigits (n / 10) ++ [UInt8.ofNat (48 + n % 10)] := by
 rw [Lib.decDigits, dif_neg h]
theorem u8_dig {n : Nat} (h : n < 10) : (UInt8.ofNat (48 + n)).toNat = 48 + n := by
 rw [UInt8.toNat_ofNat']; omega
theorem zuf : ∀ n : Nat, vg (Lib.decDigits n) = true /\ valD (Lib.decDigits n) = n /\ 1 ≤ (Lib.decDigits n).length /\ (0 < n -> (Lib.decDigits n).head? ≠ some 48) := by
 intro n
 induction n using Nat.strongRecOn with
 | _ n ih =>
  by_cases h : n < 10
  ·rw [Lib.decDigits_one h]
   have e := u8_dig h
   refine ⟨?_, ?_, by simp, fun h0 => ?_⟩
   ·simp [vg, e]; omega
   ·show 10 * 0 + ((UInt8.ofNat (48 + n)).toNat - 48) = n
    rw [e]; omega
   ·intro e2
    simp only [List.head?_cons, Option.some.injEq] at e2
    rw [e2] at e
    have : (48 : UInt8).toNat = 48 := rfl
    omega
  ·rw [dec_next h]
   obtain ⟨h1, h2, h3, h4⟩ := ih (n / 10) (by omega)
   have e := u8_dig (n := n % 10) (by omega)
   refine ⟨?_, ?_, by simp, fun h0 => ?_⟩
   ·unfold vg at h1 ⊢
    rw [List.all_append, h1]
    simp [e]; omega
   ·unfold valD at h2 ⊢
    rw [List.foldl_append, h2]
    simp [e]; omega
   ·have h5 := h4 (by omega)
    cases hd : Lib.decDigits (n / 10) with
    | nil => rw [hd] at h3; simp at h3
    | cons a r => rw [hd] at h5; simpa using h5
theorem zrd {n : Nat} (h : n ≤ 1099511627776) : numP (Lib.decDigits n) = ((n : Int), true) := by
 obtain ⟨h1, h2, h3, h4⟩ := zuf n
 have h5 := zig (n := n) (by omega)
 have h6 : ¬ (1 < (Lib.decDigits n).length /\ (Lib.decDigits n).head? = some 48) := by
  rintro ⟨h6, h7⟩
  by_cases h0 : 0 < n
  ·exact h4 h0 h7
  ·obtain rfl : n = 0 := by omega
   rw [Lib.decDigits_one (by omega)] at h6
   simp at h6
 unfold numP
 rw [if_pos ⟨h3, h5, h6, h1, by omega⟩, h2]
end V
open Go.RowKit
namespace V
def vp : List Bs -> Aff × Bool
 | [a, s, n, r] => if a = affW then (⟨kq s, n, (parP (kq s) r).1, (parP (kq s) r).2.1⟩, decide (0 < kq s) && decide ((parP (kq s) r).2.2 = 0)) else (zA, false)
 | _ => (zA, false)
theorem zub {l : List Bs} (h : l.length ≠ 4) : vp l = (zA, false) := by
 unfold vp
 split
 ·simp at h
 ·rfl
theorem zr0 {a s n r : Bs} (h : ¬ a = affW) : vp [a, s, n, r] = (zA, false) := by simp [vp, h]
theorem zla (s n r : Bs) : vp [affW, s, n, r] = (⟨kq s, n, (parP (kq s) r).1, (parP (kq s) r).2.1⟩, decide (0 < kq s) && decide ((parP (kq s) r).2.2 = 0)) := by simp [vp]
def xo : List (List Bs) -> Option (List Aff)
 | [] => some []
 | l :: r => if (vp l).2 = true then (xo r).map ((vp l).1 :: ·) else none
def zaj (R : List (List Bs)) (k : Nat) (out : List Aff) : Prop := xo R = (xo (R.drop k)).map (out ++ ·)
theorem zo8 (R : List (List Bs)) : zaj R 0 [] := by
 unfold zaj
 rw [List.drop_zero]
 cases xo R <;> rfl
theorem zsh {R : List (List Bs)} {k : Nat} {out : List Aff} (h : zaj R k out) (hk : k < R.length) (hr : (vp R[k]).2 = false) : xo R = none := by
 unfold zaj at h
 rw [h, List.drop_eq_getElem_cons hk, xo, hr]
 rfl
theorem zo2 {R : List (List Bs)} {k : Nat} {out : List Aff} (h : zaj R k out) (hk : k < R.length) (hr : (vp R[k]).2 = true) : zaj R (k + 1) (out ++ [(vp R[k]).1]) := by
 unfold zaj at h ⊢
 rw [h, List.drop_eq_getElem_cons hk, xo, hr]
 cases xo (R.drop (k + 1)) with
 | none => rfl
 | some ys => simp
theorem zqh {R : List (List Bs)} {out : List Aff} (h : zaj R R.length out) : xo R = some out := by
 unfold zaj at h
 rw [h, List.drop_length]
 simp [xo]
def kp : List (List Bs) -> Option Adv
 | [a, i, r, s] :: rest => if a = advW /\ (numP r).2 = true /\ (numP s).2 = true then (xo rest).map fun l => ⟨i, (numP r).1, (numP s).1, l⟩ else none
 | _ => none
theorem zuv {l : List Bs} {rest : List (List Bs)} (h : ¬ l.length = 4) : kp (l :: rest) = none := by
 match l, h with
 | [], _ => rfl
 | [_], _ => rfl
 | [_, _], _ => rfl
 | [_, _, _], _ => rfl
 | [_, _, _, _], h => exact absurd rfl h
 | _ :: _ :: _ :: _ :: _ :: _, _ => rfl
theorem zfl (a i r s : Bs) (rest : List (List Bs)) : kp ([a, i, r, s] :: rest) = if a = advW /\ (numP r).2 = true /\ (numP s).2 = true then (xo rest).map fun l => ⟨i, (numP r).1, (numP s).1, l⟩ else none := rfl
def decV (b : Bs) : Adv × Int := if (decP b).2 ≠ 0 then (zV, (decP b).2) else
 match kp (decP b).1 with
 | none => (zV, 2)
 | some x => if (encV x).2 = 0 /\ (encV x).1 = b then (x, 0) else (zV, 1)
theorem decV_err {b : Bs} {ls : List (List Bs)} {c : Int} (h : decP b = (ls, c)) (hc : ¬ c = 0) : decV b = (zV, c) := by
 unfold decV; rw [h]; simp [hc]
theorem zvh {b : Bs} {ls : List (List Bs)} (h : decP b = (ls, 0)) (hr : kp ls = none) : decV b = (zV, 2) := by
 unfold decV; rw [h]; simp [hr]
theorem znm {b : Bs} {ls : List (List Bs)} {x : Adv} (h : decP b = (ls, 0)) (hr : kp ls = some x) : decV b = if (encV x).2 = 0 /\ (encV x).1 = b then (x, 0) else (zV, 1) := by
 unfold decV; rw [h]; simp only [ne_eq, not_true_eq_false, if_false, hr]
theorem zr2 {a : Aff} (h : kd a = true) : vp (uk a) = (a, true) := by
 obtain ⟨_, h2, _, h4⟩ := yk h
 have hs := okR_sch h4
 have hp : parP a.sch (xj a.its) = (a.sch, a.its, 0) := zvd (zsb (wu h4))
 obtain ⟨s, n, r, its⟩ := a
 simp only at h2 h4 hs hp
 subst h2
 unfold uk
 simp only
 rw [zla, zhd hs, hp]
 have : (0 : Int) < r := by omega
 simp [this]
theorem zfq : ∀ {l : List Aff}, (∀ a ∈ l, kd a = true) -> xo (l.map uk) = some l
 | [], _ => rfl
 | a :: l, h => by
  rw [List.map_cons, xo, zr2 (h a (by simp)), zfq (fun x hx => h x (by simp [hx]))]
  rfl
theorem zuw {x : Adv} (h : ql x = true) : kp (qc x) = some x := by
 have hp := ja h
 obtain ⟨i, r, s, l⟩ := x
 have e1 := hp.rev0
 have e2 := hp.rev1
 have e3 := hp.sev0
 have e4 := hp.sev1
 simp only at e1 e2 e3 e4
 show kp (xm ⟨i, r, s, l⟩ :: (l.take l.length).map uk) = _
 unfold xm
 simp only
 rw [zfl, List.take_length, zfq (fun a ha => hp.sound ha), zrd (by omega), zrd (by omega)]
 have f1 : ((r.toNat : Nat) : Int) = r := by omega
 have f2 : ((s.toNat : Nat) : Int) = s := by omega
 simp [f1, f2]
theorem zn6 {x : Adv} (h : (encV x).2 = 0) : ql x = true /\ encE (qc x) = 0 /\ (encV x).1 = doc (qc x) := by
 unfold encV at h ⊢
 split at h
 ·rename_i h1
  split at h
  ·rename_i h2
   rw [if_pos h1, if_pos h2]
   exact ⟨h1, h2, rfl⟩
  ·rename_i h2
   exact absurd h h2
 ·cases h
theorem decV_enc {x : Adv} (h : (encV x).2 = 0) : decV (encV x).1 = (x, 0) := by
 obtain ⟨h1, h2, h3⟩ := zn6 h
 rw [h3, znm (decP_doc (zgw h2)) (zuw h1), if_pos ⟨h, h3⟩]
end V
open Go.RowKit
theorem zbh {W : World} {X : Nat} {n : Int} {p : Option Addr} {m q : Nat} (h : W.heap[X]? = some (.cells #[.int .i64 n, .slice p m q] 32 (0, 0))) : W.cell? ⟨X, 0, none⟩ = some (.int .i64 n) /\ W.cell? ⟨X, 1, none⟩ = some (.slice p m q) :=
 ⟨zvq h 0, zvq h 1⟩
theorem zv8 {P : Prop} (h : P := by
 have hor2 : m2 = n /\ V.altP n x = some l := by
  rcases HOR.out with ⟨h, _⟩ | ⟨_, h1, h2⟩
  ·cases h
  ·exact ⟨h1, h2⟩
 obtain ⟨rfl, hal⟩ := hor2
 have HAL := zvr hal
 have hbZ : Below w2.heap.size w2 ((w2.alloc (.cells #[.int .i64 m2, .slice p l.length q] 32)).alloc (.cells #[.int .i64 m2, .slice p l.length q] 32)) := ((zvu _ _).alloc (zvt _) _).alloc (by simp) _
 have HBZ := zvs HB2 hbZ
 have HUZ := zvr (HU.out.below hbZ)
 have HRZ := zvr (HROW.out.later HBZ.out)
 have HKL : Hid (us.length ≤ 10000) := zvr (by have := HKU.out; omega)
 have HSEP : Hid (l ≠ [] -> ∀ c, (Value.slice p l.length q).ownBlock = some c -> ∀ v, SetRow m2 W0.heap.size wr v us xs -> v.ownBlock ≠ some c) := zvr (fun _ c hc v hv e => by
   have h1 := HOW.out c hc
   have h2 := GRow.lt hv.row c e
   omega)
 clear hal hbZ
 go_wp2_with (first | (refine zdp (zit m2) (by decide) (zt4 m2) ztg (by decide) rfl _ _ 106 rfl Tryz.underlying106 W0.heap.size _ us rfl HRZ.out.row (w2.heap.size + 1) ⟨p, l.length, q⟩ rfl (fun j u hj => by rw [zc]; simpa [slE, Sl.v] using hj) (by have := HKL.out; omega) (by have := HBX.out.size; have := HBZ.out.size; omega) ?_; intro v3 W3 hr3 hg3 ho3) | fail)
 have HR3 := zvr (HRZ.out.add (u := ⟨p, l.length, q⟩) hr3 hg3 ho3 HUZ.out (fun hl c hc => HSEP.out hl c hc _ HROW.out))
 have HB3 : Hid (Below W0.heap.size W0 W3) := zvr ((HBX.out.trans (HBZ.out.mono HBX.out.size)).trans ⟨hg3.os, hg3.tape, hg3.output, hg3.size, fun i hi => hg3.block i (by have := HBX.out.size; have := HBZ.out.size; omega) (fun e => by have := GRow.block HRZ.out.row i e.symm; omega)⟩)
 have HT3 := zvr (HST.out l HAL.out)
 clear hr3 hg3 ho3
 go_wp2_with fail
 go_roundw
 case rel => exact ⟨k + 1, _, _, by omega, by go_num, by rw [List.length_append, HKU.out]; rfl, HT3.out, HR3.out, HB3.out⟩
 case measure => simp [intOf]; omega) : P := h
theorem zrm (n : Int) (s : V.Bs) (w : World) (hm : zg w) (hs : s.length ≤ maxLen) :
  Calls Tryz.prog 99 #[.int .i64 n, .string ⟨s.toArray⟩] w (jn (V.parP n s) w) := by
 have HM := zvr hm
 have hsz : (ByteArray.mk s.toArray).size = s.length := by simp [ByteArray.size]
 have HSD : Hid ((ByteArray.mk s.toArray).data.toList = s) := zvr rfl
 have hb0 : Below w.heap.size w (w.alloc (.cells #[.int .i64 0, .slice none 0 0] 32)) := (zvu _ w).alloc (zvt _) _
 have K0 : Hid ((w.alloc (.cells #[.int .i64 0, .slice none 0 0] 32)).heap[w.heap.size]? = some (.cells #[.int .i64 0, .slice none 0 0] 32 (0, 0))) := zvr (by rw [heap_alloc, if_pos rfl])
 have HB0 := zvr hb0
 have HZ0 : Hid ((w.alloc (.cells #[.int .i64 0, .slice none 0 0] 32)).heap.size = w.heap.size + 1) := zvr (by simp)
 unfold maxLen at hs
 clear hb0 hm
 generalize (ByteArray.mk s.toArray) = S at *
 go_enter Tryz.func99, Tryz.ntmps99
 go_wp2_with fail
 generalize w.alloc (.cells #[.int .i64 0, .slice none 0 0] 32) = w0 at *
 refine (za1 n w0).mono ?_
 rintro e w' ⟨rfl, rfl⟩
 rcases hsc : V.scheme n with _ | _
 ·have HR := zvr (V.zhf (s := s) hsc)
  clear hsc
  go_wp2_with (first | (refine zi rfl 32 _ _ rfl w.heap.size #[.int .i64 0, .slice none 0 0] _ K0.out rfl #[.int .i64 0, .slice none 0 0] rfl rfl (by kernel_rfl) (zt _ _ _ _) ?_; intro W2 hp2; have z0 : W2.cell? ⟨w.heap.size, 0, none⟩ = some (.int .i64 0) := zvq hp2.here 0; have z1 : W2.cell? ⟨w.heap.size, 1, none⟩ = some (.slice none 0 0) := zvq hp2.here 1) | fail)
  have HBF := zvr (hp2.below HB0.out (zvt _))
  clear hp2
  exact bodyPost_ret (v := .tuple #[.agg #[.int .i64 0, .slice none 0 0], .int .i64 14]) (by simp [results, Tryz.results99, go_sem, z0, z1]) rfl (by rw [HR.out]; exact jn.zero HBF.out _)
 ·have HSC := zvr hsc
  clear hsc
  by_cases hlong : s.length ≤ 8192
  ·have HL := zvr hlong
   have hq : ¬ 8192 < S.size := by omega
   have hq2 : ¬ (8192 : Int) < (S.size : Int) := by omega
   have HS : Hid (S.size < 4294967281) := zvr (by omega)
   have HPL : Hid (∀ x ∈ Lib.split s V.orT, x.length ≤ 100000) := zvr (fun x hx => by
     have := zg1 V.orT _ s x hx
     omega)
   have HLL : Hid ((Lib.split s V.orT).length ≤ 10000) := zvr (by have := zhe s; omega)
   have HAN : Hid (V.xx n (Lib.split s V.orT) = none -> V.parP n s = (0, [], 2)) := zvr (fun h => V.zmp HSC.out HL.out h)
   have HUN : Hid (∀ xs, V.xx n (Lib.split s V.orT) = some xs -> V.qu n [] xs = none -> V.parP n s = (0, [], 3)) := zvr (fun xs h g => V.zjo HSC.out HL.out h g)
   have HUS : Hid (∀ xs l, V.xx n (Lib.split s V.orT) = some xs -> V.qu n [] xs = some l -> V.parP n s = (n, l, 0)) := zvr (fun xs l h g => V.ztt HSC.out HL.out h g)
   clear hlong hs hsz
   go_wp2_with fail
   refine (zh1 S w' (HM.out.below HB0.out) HS.out).mono ?_
   rintro e W0 ⟨rfl, hW0⟩
   rw [HSD.out] at hW0 ⊢
   have hb1 : Below w'.heap.size w' W0 := by rw [hW0]; exact (zvu _ _).alloc (zvt _) _
   have HB1 := zvs HB0 hb1
   have K1 := zvr (xh hb1 K0.out)
   have hz0 : w'.heap.size = w.heap.size + 1 := HZ0.out
   have HTX : Hid (∀ j (h : j < (Lib.split s V.orT).length), W0.cell? ⟨w.heap.size + 1, j, none⟩ = some (.string ⟨(Lib.split s V.orT)[j].toArray⟩)) := zvr (fun j hj => by
     rw [hW0, ← hz0, World.cell?_alloc_new]; exact yj _ j hj)
   have HZ1 : Hid (W0.heap.size = w.heap.size + 2) := zvr (by rw [hW0]; simp; omega)
   clear hb1 hW0
   rw [hz0]
   clear hz0
   have hll : (Lib.split s V.orT).length ≤ 10000 := HLL.out
   have HA0 := zvr (V.zhc n (Lib.split s V.orT))
   generalize Lib.split s V.orT = P at *
   go_wp2_with fail
   go_loopw [6, 28] (fun v iv wx => ∃ (k : Nat) (us : List Sl) (xs : List (List V.Itv)), k ≤ P.length /\ iv = .int .i64 k /\ us.length = k /\ V.zbp n P k xs /\ SetRow n W0.heap.size wx v us xs /\ Below W0.heap.size W0 wx) (fun _ iv _ => P.length - (intOf iv).toNat)
   case atStart => exact ⟨0, [], [], Nat.zero_le _, rfl, rfl, HA0.out, SetRow.nil _ _ _, zvu _ _⟩
   case round =>
    obtain ⟨k, us, xs, hk, rfl, hku, hto, hrow, hbx⟩ := hrel
    have HTO := zvr hto
    have HROW := zvr hrow
    have HKU := zvr hku
    have HBX := zvr hbx
    have HBF := zvs HB1 hbx
    have KR := zvr (xh (hbx.mono (zvt _)) K1.out)
    clear hto hrow hku hbx
    by_cases hlt : k < P.length
    ·have hc := za HBX.out (HTX.out k hlt)
     have hi1 : (0 : Int) ≤ (k : Int) := by omega
     have hi2 : (k : Int) < (P.length : Int) := by omega
     have HLX := zvr (HPL.out _ (List.getElem_mem hlt))
     have HST := zvr (fun (y : List V.Itv) hy => V.zhj (x := y) HTO.out hlt hy)
     have HNO := zvr (fun hy => V.zhn HTO.out hlt hy)
     generalize P[k] = x at *
     go_wp2_with fail
     refine (zfr n x wr (HM.out.below HBF.out) HSC.out HLX.out).mono ?_
     rintro e w2 ⟨m2, u, l, b, rfl, hor, hu, how, hb2⟩
     obtain ⟨p, q, rfl⟩ := hu.slice
     have HOR := zvr hor
     have HU := zvr hu
     have HOW := zvr how
     have HB2 := zvr hb2
     have KR2 := zvr (xh hb2 KR.out)
     clear hor hu how hb2 hc
     unfold setV
     have HBY := zvr ((zvu w2.heap.size w2).alloc (zvt _) (.cells #[.int .i64 m2, .slice p l.length q] 32))
     rcases b with _ | _
     ·have HR : Hid (V.parP n s = (0, [], 2)) := zvr (HAN.out (HNO.out (by
        rcases HOR.out with ⟨_, h⟩ | ⟨h, _⟩
        · exact h
        · cases h)))
      go_wp2_with (first | (refine zi rfl 32 _ _ rfl w.heap.size #[.int .i64 0, .slice none 0 0] _ (xh HBY.out KR2.out) rfl #[.int .i64 0, .slice none 0 0] rfl rfl (by kernel_rfl) (zt _ _ _ _) ?_; intro W5 hp5; have z0 : W5.cell? ⟨w.heap.size, 0, none⟩ = some (.int .i64 0) := zvq hp5.here 0; have z1 : W5.cell? ⟨w.heap.size, 1, none⟩ = some (.slice none 0 0) := zvq hp5.here 1) | fail)
      have HB5 := zvr (hp5.below (HBF.out.trans ((HB2.out.trans (HBY.out.mono HB2.out.size)).mono HBF.out.size)) (zvt _))
      clear hp5
      exact bodyPost_ret (v := .tuple #[.agg #[.int .i64 0, .slice none 0 0], .int .i64 2]) (by simp [results, Tryz.results99, go_sem, z0, z1]) rfl (by rw [HR.out]; exact jn.zero HB5.out _)
     ·exact zv8
    ·obtain rfl : k = P.length := by omega
     have HAX := zvr (V.zi4 HTO.out)
     have HONE := zvr (V.zet HSC.out HAX.out).2
     have HUX := zvr (fun h => HUN.out xs HAX.out h)
     have HUY := zvr (fun l h => HUS.out xs l HAX.out h)
     have HXL : Hid (us.length = xs.length) := zvr HROW.out.len
     obtain ⟨va, vc, rfl⟩ := GRow.slice HROW.out.row
     obtain ⟨wo, rfl⟩ : ∃ wo : World, wo = wr := ⟨_, rfl⟩
     have hulen : us.length ≤ 10000 := by have := HKU.out; omega
     have HX0 : Hid ((wo.alloc (.cells #[.int .i64 n, .slice none 0 0] 32)).heap[wo.heap.size]? = some (.cells #[.int .i64 n, .slice none 0 0] 32 (0, 0))) := zvr (by rw [heap_alloc, if_pos rfl])
     have HBX0 := zvr ((zvu wo.heap.size wo).alloc (zvt _) (.cells #[.int .i64 n, .slice none 0 0] 32))
     have HZB : Hid (w.heap.size < wo.heap.size) := zvr ((Array.getElem?_eq_some_iff.1 KR.out).1)
     go_wp2_with fail
     go_loopw [50] (fun iv wx => ∃ (k : Nat) (acc : List V.Itv) (u : Value), k ≤ xs.length /\ iv = .int .i64 k /\ V.qu n [] xs = V.qu n acc (xs.drop k) /\ V.Ok n acc /\ wx.heap[wo.heap.size]? = some (.cells #[.int .i64 n, u] 32 (0, 0)) /\ Itvs wx u acc /\ (∀ c, u.ownBlock = some c -> wo.heap.size < c) /\ Below wo.heap.size wo wx) (fun iv _ => us.length - (intOf iv).toNat)
     case atStart => exact ⟨0, [], _, Nat.zero_le _, rfl, rfl, V.zd7 HSC.out, HX0.out, Itvs.nil _, (fun c hc => by cases hc), HBX0.out⟩
     case round =>
      obtain ⟨k, acc, u, hk, rfl, heq, hok, hbox, hset, hown, hby⟩ := hrel
      obtain ⟨p, q, rfl⟩ := hset.slice
      have HE := zvr heq
      have HOK := zvr hok
      have HBOX := zvr hbox
      have HSET := zvr hset
      have HOWN := zvr hown
      have HBY := zvr hby
      obtain ⟨x0, x1⟩ := zbh hbox
      have HBYW := zvs HBF hby
      have KR1 := zvr (xh hby KR.out)
      have HZR : Hid (wo.heap.size < wr.heap.size) := zvr ((Array.getElem?_eq_some_iff.1 hbox).1)
      clear heq hok hbox hset hown
      by_cases hlt : k < xs.length
      ·have hlu : k < us.length := by have := HXL.out; omega
       have hrow := HROW.out.later hby
       obtain ⟨g, cap, e, _, _, hcell⟩ := GRow.at (zit n) hrow.row k hlu
       cases e
       have c0 : wr.cell? ⟨g, k * 2, none⟩ = some (.int .i64 n) := hcell 0 _ rfl
       have c1 : wr.cell? ⟨g, k * 2 + 1, none⟩ = some us[k].v := hcell 1 _ rfl
       have HIT := (hrow.each k hlu hlt).1
       have HON := zvr (HONE.out _ (List.getElem_mem hlt))
       have HNX := zvr (V.zll (n := n) (acc := acc) hlt)
       have hi1 : (0 : Int) ≤ (k : Int) := by omega
       have hi2 : (k : Int) < (us.length : Int) := by omega
       clear hrow hcell hby
       generalize us[k].v = uv at *
       generalize xs[k] = y at *
       have HITV := zvr HIT
       obtain ⟨p2, q2, rfl⟩ := HIT.slice
       clear HIT
       have hbA : Below wr.heap.size wr (wr.alloc (.cells #[.int .i64 n, .slice p2 y.length q2] 32)) := (zvu _ _).alloc (zvt _) _
       have HBA := zvr hbA
       have y0 := za hbA x0
       have y1 := za hbA x1
       have HCH := zvr (V.zou HOK.out HON.out.ok)
       have HOPF : Hid (V.opP V.orF n acc n y = if V.chkP n acc n y = 0 then V.limP n (V.opL n V.orF acc y) else (0, [], V.chkP n acc n y)) := zvr rfl
       clear hbA
       go_wp2_with fail
       refine (zqj n n (.slice p acc.length q) (.slice p2 y.length q2) acc y (wr.alloc (.cells #[.int .i64 n, .slice p2 y.length q2] 32)) (HM.out.below (HBYW.out.trans (HBA.out.mono HBYW.out.size))) (HSET.out.below HBA.out) (HITV.out.below HBA.out) (ul HOK.out) (ul HON.out.ok) (by have := HOK.out.len; unfold maxLen; omega) (by have := HON.out.one; unfold maxLen; omega)).mono ?_
       rintro e w5 ⟨u5, rfl, hu5, how5, hb5⟩
       obtain ⟨p5, q5, rfl⟩ := hu5.slice
       have HB5 := zvs HBA hb5
       have HBOX5 := zvr (xh HB5.out HBOX.out)
       have KR5 := zvr (xh HB5.out KR1.out)
       have HBW5 := zvr (HBYW.out.trans (HB5.out.mono HBYW.out.size))
       have HBO5 := zvr (HBY.out.trans (HB5.out.mono HBY.out.size))
       have HU5 := zvr hu5
       have HOW5 := zvr (fun c hc => by have h1 := how5 c hc; have h2 := HBA.out.size; have h3 := HZR.out; exact (show wo.heap.size < c by omega))
       clear hu5 how5 hb5 x0 x1 y0 y1 c0 c1
       by_cases h32 : (V.opL n V.orF acc y).length ≤ 32
       ·have HOP : Hid (V.opP V.orF n acc n y = (n, V.opL n V.orF acc y, 0)) := zvr (by rw [HOPF.out, if_pos HCH.out]; unfold V.limP; rw [if_pos h32])
        have HOK5 := zvr (V.zi5 V.orF HOK.out HON.out.ok h32)
        have HEQ : Hid (V.qu n [] xs = V.qu n (V.opL n V.orF acc y) (xs.drop (k + 1))) := zvr (by rw [HE.out, HNX.out, if_pos h32])
        clear h32
        rw [HOP.out] at HU5 HOW5 ⊢
        simp only at HU5 HOW5 ⊢
        unfold setV
        go_wp2_with (first | (refine zi rfl 32 _ _ rfl wo.heap.size _ _ HBOX5.out rfl #[.int .i64 n, .slice p5 (V.opL n V.orF acc y).length q5] rfl rfl (by kernel_rfl) (zt _ _ _ _) ?_; intro W6 hp6) | fail)
        have H6 := zvr hp6.here
        have HI6 := zvr (hp6.itvs HU5.out (fun c hc => by have := HOW5.out c hc; omega))
        have HB6 := zvr (hp6.below HBO5.out (zvt _))
        clear hp6
        go_roundw
        case rel => exact ⟨k + 1, _, _, by omega, by go_num, HEQ.out, HOK5.out, H6.out, HI6.out, HOW5.out, HB6.out⟩
        case measure => simp [intOf]; omega
       ·have HOP : Hid (V.opP V.orF n acc n y = (0, [], 3)) := zvr (by rw [HOPF.out, if_pos HCH.out]; unfold V.limP; rw [if_neg h32])
        have HR : Hid (V.parP n s = (0, [], 3)) := zvr (HUX.out (by rw [HE.out, HNX.out, if_neg h32]))
        clear h32
        rw [HOP.out] at HU5 HOW5 ⊢
        simp only at HU5 HOW5 ⊢
        unfold setV
        go_wp2_with (first
          | (refine zi rfl 32 _ _ rfl wo.heap.size _ _ HBOX5.out rfl #[.int .i64 0, .slice p5 ([] : List V.Itv).length q5] rfl rfl (by kernel_rfl) (zt _ _ _ _) ?_; intro W6 hp6; have KR6 := zvr (hp6.other KR5.out (by have := HZB.out; omega)); have HB6 := zvr (hp6.below HBW5.out (by have := HZB.out; omega)); clear hp6)
          | (refine zi rfl 32 _ _ rfl w.heap.size #[.int .i64 0, .slice none 0 0] _ KR6.out rfl #[.int .i64 0, .slice none 0 0] rfl rfl (by kernel_rfl) (zt _ _ _ _) ?_; intro W7 hp7; have z0 : W7.cell? ⟨w.heap.size, 0, none⟩ = some (.int .i64 0) := zvq hp7.here 0; have z1 : W7.cell? ⟨w.heap.size, 1, none⟩ = some (.slice none 0 0) := zvq hp7.here 1)
          | fail)
        have HB7 := zvr (hp7.below HB6.out (zvt _))
        clear hp7
        exact bodyPost_ret (v := .tuple #[.agg #[.int .i64 0, .slice none 0 0], .int .i64 3]) (by simp [results, Tryz.results99, go_sem, z0, z1]) rfl (by rw [HR.out]; exact jn.zero HB7.out _)
      ·obtain rfl : k = xs.length := by omega
       have HR : Hid (V.parP n s = (n, acc, 0)) := zvr (HUY.out acc (by rw [HE.out, List.drop_length]; rfl))
       have hnl : ¬ (xs.length : Int) < (us.length : Int) := by have := HXL.out; omega
       have hnl2 : ¬ xs.length < us.length := by have := HXL.out; omega
       clear hby
       go_wp2_with fail
       refine (zsg (.slice p acc.length q) acc wr HSET.out (by have := HOK.out.len; omega)).mono ?_
       rintro e w5 ⟨u5, rfl, hu5, how5, hb5⟩
       obtain ⟨p5, q5, rfl⟩ := hu5.slice
       have HBOX5 := zvr (xh hb5 HBOX.out)
       have KR5 := zvr (xh hb5 KR1.out)
       have HBW5 := zvs HBYW hb5
       have HU5 := zvr hu5
       have HOW5 := zvr (fun c hc => by have h1 := how5 c hc; have h3 := HZR.out; exact (show wo.heap.size < c by omega))
       clear hu5 how5 hb5 x0 x1
       go_wp2_with (first
         | (refine zai rfl 30 _ _ rfl wo.heap.size 1 #[.int .i64 n, .slice p acc.length q] _ HBOX5.out (by simp) rfl (.slice p5 acc.length q5) rfl zdq rfl ?_; intro W6 hp6; have x0 : W6.cell? ⟨wo.heap.size, 0, none⟩ = some (.int .i64 n) := zvq hp6.here 0; have x1 : W6.cell? ⟨wo.heap.size, 1, none⟩ = some (.slice p5 acc.length q5) := zvq hp6.here 1; have KR6 := zvr (hp6.other KR5.out (by have := HZB.out; omega)); have HB6 := zvr (hp6.below HBW5.out (by have := HZB.out; omega)); have HI6 := zvr (hp6.itvs HU5.out (fun c hc => by have := HOW5.out c hc; omega)); clear hp6)
         | (refine zi rfl 32 _ _ rfl w.heap.size #[.int .i64 0, .slice none 0 0] _ KR6.out rfl #[.int .i64 n, .slice p5 acc.length q5] rfl rfl (by kernel_rfl) (zt _ _ _ _) ?_; intro W7 hp7; have z0 : W7.cell? ⟨w.heap.size, 0, none⟩ = some (.int .i64 n) := zvq hp7.here 0; have z1 : W7.cell? ⟨w.heap.size, 1, none⟩ = some (.slice p5 acc.length q5) := zvq hp7.here 1)
         | fail)
       have HB7 := zvr (hp7.below HB6.out (zvt _))
       have HI7 := zvr (hp7.itvs HI6.out (fun c hc => by have := HOW5.out c hc; have := HZB.out; omega))
       clear hp7
       exact bodyPost_ret (v := .tuple #[.agg #[.int .i64 n, .slice p5 acc.length q5], .int .i64 0]) (by simp [results, Tryz.results99, go_sem, z0, z1]) rfl (by rw [HR.out]; exact ⟨_, rfl, HI7.out, (fun c hc => by have := HOW5.out c hc; have := HZB.out; omega), HB7.out⟩)
  ·have HR := zvr (V.zmy HSC.out hlong)
   have hq : 8192 < S.size := by omega
   have hq2 : (8192 : Int) < (S.size : Int) := by omega
   clear hlong
   go_wp2_with (first | (refine zi rfl 32 _ _ rfl w.heap.size #[.int .i64 0, .slice none 0 0] _ K0.out rfl #[.int .i64 0, .slice none 0 0] rfl rfl (by kernel_rfl) (zt _ _ _ _) ?_; intro W2 hp2; have z0 : W2.cell? ⟨w.heap.size, 0, none⟩ = some (.int .i64 0) := zvq hp2.here 0; have z1 : W2.cell? ⟨w.heap.size, 1, none⟩ = some (.slice none 0 0) := zvq hp2.here 1) | fail)
   have HBF := zvr (hp2.below HB0.out (zvt _))
   clear hp2
   exact bodyPost_ret (v := .tuple #[.agg #[.int .i64 0, .slice none 0 0], .int .i64 3]) (by simp [results, Tryz.results99, go_sem, z0, z1]) rfl (by rw [HR.out]; exact jn.zero HBF.out _)
end Go.Proofs.YtiloljoancdcbaaGreatDoor
