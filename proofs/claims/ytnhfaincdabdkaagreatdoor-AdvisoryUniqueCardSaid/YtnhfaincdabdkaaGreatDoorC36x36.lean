/-
  Lemmas for the law.
-/
import Derived.Test.YtnhfaincdabdkaaGreatDoorC36x16
import Derived.Test.YtnhfaincdabdkaaGreatDoorC36x35
import Derived.Test.YtnhfaincdabdkaaGreatDoorC36x33
import Derived.Outline
set_option linter.all false
set_option maxRecDepth 100000
set_option maxHeartbeats 12800000
namespace Go.Proofs.YtnhfaincdabdkaaGreatDoor
open Go.RowKit
namespace V
theorem zs2 : ∀ n : Fin 16, hexV (digU.getD n.val 0) = some n.val := by decide +kernel
theorem u8_parts (c : UInt8) : UInt8.ofNat (16 * (c.toNat / 16) + c.toNat % 16) = c := by
 rw [Nat.div_add_mod]; exact UInt8.ofNat_toNat
theorem ze1 : ∀ w : Bs, qw (w.flatMap encB) = some w
 | [] => rfl
 | c :: w => by
  rw [List.flatMap_cons, encB]
  by_cases hp : jq c = true
  ·rw [if_pos hp, List.cons_append, List.nil_append, zc8 hp, ze1 w]; rfl
  ·rw [if_neg hp]
   have hc := c.toNat_lt
   have h1 := zs2 ⟨c.toNat / 16, by omega⟩
   have h2 := zs2 ⟨c.toNat % 16, by omega⟩
   show qw (37 :: digU.getD (c.toNat / 16) 0 :: digU.getD (c.toNat % 16) 0 :: w.flatMap encB) = _
   rw [zgj h1 h2, u8_parts, if_neg hp, ze1 w]; rfl
theorem zps : ∀ n : Fin 16, 48 ≤ (digU.getD n.val 0).toNat /\ (digU.getD n.val 0).toNat ≤ 70 := by decide +kernel
theorem zox {c b : UInt8} (h : b ∈ encB c) : 33 ≤ b.toNat /\ b.toNat ≤ 125 := by
 unfold encB at h
 have hc := c.toNat_lt
 split at h
 ·rename_i hp
  simp only [List.mem_singleton] at h
  subst h
  simp [jq] at hp
  omega
 ·have h1 := zps ⟨c.toNat / 16, by omega⟩
  have h2 := zps ⟨c.toNat % 16, by omega⟩
  simp only at h1 h2
  simp only [List.mem_cons, List.not_mem_nil, or_false] at h
  rcases h with rfl | rfl | rfl
  ·decide
  ·omega
  ·omega
theorem zqh {w : Bs} {b : UInt8} (h : b ∈ word w) : 33 ≤ b.toNat /\ b.toNat ≤ 126 := by
 unfold word at h
 split at h
 ·simp only [List.mem_singleton] at h; subst h; decide
 ·obtain ⟨c, _, hb⟩ := List.mem_flatMap.1 h
  have := zox hb
  omega
theorem unwR_w (w : Bs) : unwR (word w) = some w := by
 unfold word
 cases w with
 | nil => rfl
 | cons c w =>
  rw [if_neg (by simp)]
  unfold unwR
  have hne : ¬ (c :: w).flatMap encB = [126] := by
   intro e
   have hb : (126 : UInt8) ∈ (c :: w).flatMap encB := by rw [e]; simp
   obtain ⟨d, _, hd⟩ := List.mem_flatMap.1 hb
   have := zox hd
   have e2 : (126 : UInt8).toNat = 126 := rfl
   omega
  rw [if_neg hne, ze1]
  simp
theorem zdi (c : UInt8) : ∀ x y : Bs, ze c (x ++ c :: y) = ze c x ++ ze c y
 | [], y => by simp [ze]
 | a :: x, y => by
  rw [List.cons_append, ze, ze, zdi c x y]
  split
  ·rfl
  ·cases hq : ze c x with
   | nil => exact absurd hq (zcp c x)
   | cons z r => rfl
theorem zsv {w : Bs} {c : UInt8} (h : c.toNat < 33) : c ∉ word w := fun hc => by have := zqh hc; omega
theorem zke {l : List Bs} : ∀ k, k + 1 ≤ l.length -> ze 32 (kx l (k + 1)) = (l.take (k + 1)).map word
 | 0, h => by
  rw [zbb, if_pos rfl]
  show ze 32 ([] ++ ([] ++ word (l.getD 0 []))) = _
  rw [List.nil_append, List.nil_append, jk (zsv (by decide))]
  cases l with
  | nil => simp at h
  | cons a l => simp
 | k + 1, h => by
  rw [zbb, if_neg (by omega), List.singleton_append, zdi, zke k (by omega), jk (zsv (by decide)), List.take_succ_eq_append_getElem (show k + 1 < l.length by omega), List.map_append]
  simp [List.getD_eq_getElem?_getD, List.getElem?_eq_getElem (show k + 1 < l.length by omega)]
theorem zj8 : ∀ l : List Bs, qz (l.map word) = some l
 | [] => rfl
 | w :: l => by rw [List.map_cons, qz, unwR_w, zj8 l]; rfl
def zg6 (l : List Bs) : Bs := kx l l.length
theorem zo7 {l : List Bs} (h : 0 < l.length) : qz (ze 32 (zg6 l)) = some l := by
 obtain ⟨k, hk⟩ : ∃ k, l.length = k + 1 := ⟨l.length - 1, by omega⟩
 unfold zg6
 rw [hk, zke k (by omega), ← hk, List.take_length, zj8]
theorem lineB_no (l : List Bs) : (10 : UInt8) ∉ zg6 l := by
 unfold zg6 kx
 intro h
 obtain ⟨i, _, hi⟩ := List.mem_flatMap.1 h
 rw [List.mem_append] at hi
 rcases hi with hi | hi
 ·split at hi
  ·simp at hi
  ·simp at hi
 ·have := zqh hi
  have e : (10 : UInt8).toNat = 10 := rfl
  omega
theorem zlx : ∀ ls : List (List Bs), ze 10 (doc ls) = ls.map zg6 ++ [[]]
 | [] => rfl
 | l :: ls => by
  have e : doc (l :: ls) = zg6 l ++ 10 :: doc ls := by simp [doc, line, zg6]
  rw [e, zdi, jk (lineB_no l), zlx ls]
  rfl
theorem zmb : ∀ {ls : List (List Bs)}, (∀ l ∈ ls, 0 < l.length) -> zkq (ls.map zg6) = some ls
 | [], _ => rfl
 | l :: ls, h => by
  rw [List.map_cons, zkq, zo7 (h l (by simp)), zmb (fun x hx => h x (by simp [hx]))]
  rfl
theorem decP_doc {ls : List (List Bs)} (h : DocOk ls) : decP (doc ls) = (ls, 0) := by
 have h0 : ∀ l ∈ ls, 0 < l.length := fun l hl => (h.line l hl).1
 have hlen : (doc ls).length = ks ls ls.length := by rw [← zgn]; exact zd3 h0 _ (zu0 _)
 have hf : qa ls = 0 := ym.2 fun l hl => zdn.2 (h.line l hl)
 unfold decP
 rw [if_neg (by rw [hlen]; have := h.size; omega), zlx, zg5, zmb h0]
 simp only [hf, if_true]
 rw [if_pos h.lines]
theorem dec_next {n : Nat} (h : ¬ n < 10) : Lib.decDigits n = Lib.decDigits (n / 10) ++ [UInt8.ofNat (48 + n % 10)] := by
 rw [Lib.decDigits, dif_neg h]
theorem u8_dig {n : Nat} (h : n < 10) : (UInt8.ofNat (48 + n)).toNat = 48 + n := by
 rw [UInt8.toNat_ofNat']; omega
theorem ztk : ∀ n : Nat, yx (Lib.decDigits n) = true /\ valD (Lib.decDigits n) = n /\ 1 ≤ (Lib.decDigits n).length /\ (0 < n -> (Lib.decDigits n).head? ≠ some 48) := by
 intro n
 induction n using Nat.strongRecOn with
 | _ n ih =>
  by_cases h : n < 10
  ·rw [Lib.decDigits_one h]
   have e := u8_dig h
   refine ⟨?_, ?_, by simp, fun h0 => ?_⟩
   ·simp [yx, e]; omega
   ·show 10 * 0 + ((UInt8.ofNat (48 + n)).toNat - 48) = n
    rw [e]; omega
   ·intro e2
    simp only [List.head?_cons, Option.some.injEq] at e2
    rw [e2] at e
    have : (48 : UInt8).toNat = 48 := rfl
    omega
  ·rw [dec_next h]
   obtain ⟨h1, h2, h3, h4⟩ := ih (n / 10) (by omega)
   have e := u8_dig (n := n % 10) (by omega)
   refine ⟨?_, ?_, by simp, fun h0 => ?_⟩
   ·unfold yx at h1 ⊢
    rw [List.all_append, h1]
    simp [e]; omega
   ·unfold valD at h2 ⊢
    rw [List.foldl_append, h2]
    simp [e]; omega
   ·have h5 := h4 (by omega)
    cases hd : Lib.decDigits (n / 10) with
    | nil => rw [hd] at h3; simp at h3
    | cons a r => rw [hd] at h5; simpa using h5
theorem zqm {n : Nat} (h : n ≤ 1099511627776) : numP (Lib.decDigits n) = ((n : Int), true) := by
 obtain ⟨h1, h2, h3, h4⟩ := ztk n
 have h5 := zm3 (n := n) (by omega)
 have h6 : ¬ (1 < (Lib.decDigits n).length /\ (Lib.decDigits n).head? = some 48) := by
  rintro ⟨h6, h7⟩
  by_cases h0 : 0 < n
  ·exact h4 h0 h7
  ·obtain rfl : n = 0 := by omega
   rw [Lib.decDigits_one (by omega)] at h6
   simp at h6
 unfold numP
 rw [if_pos ⟨h3, h5, h6, h1, by omega⟩, h2]
end V
open Go.RowKit
namespace V
def ug : List Bs -> Aff × Bool
 | [a, s, n, r] => if a = affW then (⟨kf s, n, (parP (kf s) r).1, (parP (kf s) r).2.1⟩, decide (0 < kf s) && decide ((parP (kf s) r).2.2 = 0)) else (zA, false)
 | _ => (zA, false)
theorem ztg {l : List Bs} (h : l.length ≠ 4) : ug l = (zA, false) := by
 unfold ug
 split
 ·simp at h
 ·rfl
theorem zq9 {a s n r : Bs} (h : ¬ a = affW) : ug [a, s, n, r] = (zA, false) := by simp [ug, h]
theorem zks (s n r : Bs) : ug [affW, s, n, r] = (⟨kf s, n, (parP (kf s) r).1, (parP (kf s) r).2.1⟩, decide (0 < kf s) && decide ((parP (kf s) r).2.2 = 0)) := by simp [ug]
def xe : List (List Bs) -> Option (List Aff)
 | [] => some []
 | l :: r => if (ug l).2 = true then (xe r).map ((ug l).1 :: ·) else none
def vx (R : List (List Bs)) (k : Nat) (out : List Aff) : Prop := xe R = (xe (R.drop k)).map (out ++ ·)
theorem zog (R : List (List Bs)) : vx R 0 [] := by
 unfold vx
 rw [List.drop_zero]
 cases xe R <;> rfl
theorem zrq {R : List (List Bs)} {k : Nat} {out : List Aff} (h : vx R k out) (hk : k < R.length) (hr : (ug R[k]).2 = false) : xe R = none := by
 unfold vx at h
 rw [h, List.drop_eq_getElem_cons hk, xe, hr]
 rfl
theorem zob {R : List (List Bs)} {k : Nat} {out : List Aff} (h : vx R k out) (hk : k < R.length) (hr : (ug R[k]).2 = true) : vx R (k + 1) (out ++ [(ug R[k]).1]) := by
 unfold vx at h ⊢
 rw [h, List.drop_eq_getElem_cons hk, xe, hr]
 cases xe (R.drop (k + 1)) with
 | none => rfl
 | some ys => simp
theorem zpp {R : List (List Bs)} {out : List Aff} (h : vx R R.length out) : xe R = some out := by
 unfold vx at h
 rw [h, List.drop_length]
 simp [xe]
def ke : List (List Bs) -> Option Adv
 | [a, i, r, s] :: rest => if a = advW /\ (numP r).2 = true /\ (numP s).2 = true then (xe rest).map fun l => ⟨i, (numP r).1, (numP s).1, l⟩ else none
 | _ => none
theorem zt4 {l : List Bs} {rest : List (List Bs)} (h : ¬ l.length = 4) : ke (l :: rest) = none := by
 match l, h with
 | [], _ => rfl
 | [_], _ => rfl
 | [_, _], _ => rfl
 | [_, _, _], _ => rfl
 | [_, _, _, _], h => exact absurd rfl h
 | _ :: _ :: _ :: _ :: _ :: _, _ => rfl
theorem ze3 (a i r s : Bs) (rest : List (List Bs)) : ke ([a, i, r, s] :: rest) = if a = advW /\ (numP r).2 = true /\ (numP s).2 = true then (xe rest).map fun l => ⟨i, (numP r).1, (numP s).1, l⟩ else none := rfl
def decV (b : Bs) : Adv × Int := if (decP b).2 ≠ 0 then (zV, (decP b).2) else
 match ke (decP b).1 with
 | none => (zV, 2)
 | some x => if (encV x).2 = 0 /\ (encV x).1 = b then (x, 0) else (zV, 1)
theorem decV_err {b : Bs} {ls : List (List Bs)} {c : Int} (h : decP b = (ls, c)) (hc : ¬ c = 0) : decV b = (zV, c) := by
 unfold decV; rw [h]; simp [hc]
theorem zuo {b : Bs} {ls : List (List Bs)} (h : decP b = (ls, 0)) (hr : ke ls = none) : decV b = (zV, 2) := by
 unfold decV; rw [h]; simp [hr]
theorem zmy {b : Bs} {ls : List (List Bs)} {x : Adv} (h : decP b = (ls, 0)) (hr : ke ls = some x) : decV b = if (encV x).2 = 0 /\ (encV x).1 = b then (x, 0) else (zV, 1) := by
 unfold decV; rw [h]; simp only [ne_eq, not_true_eq_false, if_false, hr]
theorem zra {a : Aff} (h : kp a = true) : ug (uw a) = (a, true) := by
 obtain ⟨_, h2, _, h4⟩ := yy h
 have hs := okR_sch h4
 have hp : parP a.sch (uz a.its) = (a.sch, a.its, 0) := zul (zrk (wu h4))
 obtain ⟨s, n, r, its⟩ := a
 simp only at h2 h4 hs hp
 subst h2
 unfold uw
 simp only
 rw [zks, zgv hs, hp]
 have : (0 : Int) < r := by omega
 simp [this]
theorem ze7 : ∀ {l : List Aff}, (∀ a ∈ l, kp a = true) -> xe (l.map uw) = some l
 | [], _ => rfl
 | a :: l, h => by
  rw [List.map_cons, xe, zra (h a (by simp)), ze7 (fun x hx => h x (by simp [hx]))]
  rfl
theorem zt5 {x : Adv} (h : ka x = true) : ke (qv x) = some x := by
 have hp := xy h
 obtain ⟨i, r, s, l⟩ := x
 have e1 := hp.rev0
 have e2 := hp.rev1
 have e3 := hp.sev0
 have e4 := hp.sev1
 simp only at e1 e2 e3 e4
 show ke (xd ⟨i, r, s, l⟩ :: (l.take l.length).map uw) = _
 unfold xd
 simp only
 rw [ze3, List.take_length, ze7 (fun a ha => hp.sound ha), zqm (by omega), zqm (by omega)]
 have f1 : ((r.toNat : Nat) : Int) = r := by omega
 have f2 : ((s.toNat : Nat) : Int) = s := by omega
 simp [f1, f2]
theorem znc {x : Adv} (h : (encV x).2 = 0) : ka x = true /\ encE (qv x) = 0 /\ (encV x).1 = doc (qv x) := by
 unfold encV at h ⊢
 split at h
 ·rename_i h1
  split at h
  ·rename_i h2
   rw [if_pos h1, if_pos h2]
   exact ⟨h1, h2, rfl⟩
  ·rename_i h2
   exact absurd h h2
 ·cases h
theorem zif {x : Adv} (h : (encV x).2 = 0) : decV (encV x).1 = (x, 0) := by
 obtain ⟨h1, h2, h3⟩ := znc h
 rw [h3, zmy (decP_doc (zgc h2)) (zt5 h1), if_pos ⟨h, h3⟩]
theorem encV_inj {x y : Adv} (hx : (encV x).2 = 0) (hy : (encV y).2 = 0) (h : (encV x).1 = (encV y).1) : x = y := by
 have h1 := zif hx
 rw [h, zif hy] at h1
 exact (Prod.mk.inj h1).1.symm
end V
open Go.RowKit
theorem zas {W : World} {X : Nat} {n : Int} {p : Option Addr} {m q : Nat} (h : W.heap[X]? = some (.cells #[.int .i64 n, .slice p m q] 48 (0, 0))) : W.cell? ⟨X, 0, none⟩ = some (.int .i64 n) /\ W.cell? ⟨X, 1, none⟩ = some (.slice p m q) :=
 ⟨zux h 0, zux h 1⟩
theorem zvc {P : Prop} (h : P := by
 have hor2 : m2 = n /\ V.altP n x = some l := by
  rcases HOR.out with ⟨h, _⟩ | ⟨_, h1, h2⟩
  ·cases h
  ·exact ⟨h1, h2⟩
 obtain ⟨rfl, hal⟩ := hor2
 have HAL := zuy hal
 have hbZ : Below w2.heap.size w2 ((w2.alloc (.cells #[.int .i64 m2, .slice p l.length q] 48)).alloc (.cells #[.int .i64 m2, .slice p l.length q] 48)) := ((zu1 _ _).alloc (zu0 _) _).alloc (by simp) _
 have HBZ := zuz HB2 hbZ
 have HUZ := zuy (HU.out.below hbZ)
 have HRZ := zuy (HROW.out.later HBZ.out)
 have HKL : Hid (us.length ≤ 10000) := zuy (by have := HKU.out; omega)
 have HSEP : Hid (l ≠ [] -> ∀ c, (Value.slice p l.length q).ownBlock = some c -> ∀ v, SetRow m2 W0.heap.size wr v us xs -> v.ownBlock ≠ some c) := zuy (fun _ c hc v hv e => by
   have h1 := HOW.out c hc
   have h2 := GRow.lt hv.row c e
   omega)
 clear hal hbZ
 go_wp2_with (first | (refine zc3 (zh4 m2) (by decide) (ztb m2) zso (by decide) rfl _ _ 150 rfl Tryz.underlying150 W0.heap.size _ us rfl HRZ.out.row (w2.heap.size + 1) ⟨p, l.length, q⟩ rfl (fun j u hj => by rw [zc]; simpa [slE, Sl.v] using hj) (by have := HKL.out; omega) (by have := HBX.out.size; have := HBZ.out.size; omega) ?_; intro v3 W3 hr3 hg3 ho3) | fail)
 have HR3 := zuy (HRZ.out.add (u := ⟨p, l.length, q⟩) hr3 hg3 ho3 HUZ.out (fun hl c hc => HSEP.out hl c hc _ HROW.out))
 have HB3 : Hid (Below W0.heap.size W0 W3) := zuy ((HBX.out.trans (HBZ.out.mono HBX.out.size)).trans ⟨hg3.os, hg3.tape, hg3.output, hg3.size, fun i hi => hg3.block i (by have := HBX.out.size; have := HBZ.out.size; omega) (fun e => by have := GRow.block HRZ.out.row i e.symm; omega)⟩)
 have HT3 := zuy (HST.out l HAL.out)
 clear hr3 hg3 ho3
 go_wp2_with fail
 go_roundw
 case rel => exact ⟨k + 1, _, _, by omega, by go_num, by rw [List.length_append, HKU.out]; rfl, HT3.out, HR3.out, HB3.out⟩
 case measure => simp [intOf]; omega) : P := h
theorem zqw (n : Int) (s : V.Bs) (w : World) (hm : zg w) (hs : s.length ≤ maxLen) :
  Calls Tryz.prog 151 #[.int .i64 n, .string ⟨s.toArray⟩] w (jd (V.parP n s) w) := by
 have HM := zuy hm
 have hsz : (ByteArray.mk s.toArray).size = s.length := by simp [ByteArray.size]
 have HSD : Hid ((ByteArray.mk s.toArray).data.toList = s) := zuy rfl
 have hb0 : Below w.heap.size w (w.alloc (.cells #[.int .i64 0, .slice none 0 0] 48)) := (zu1 _ w).alloc (zu0 _) _
 have K0 : Hid ((w.alloc (.cells #[.int .i64 0, .slice none 0 0] 48)).heap[w.heap.size]? = some (.cells #[.int .i64 0, .slice none 0 0] 48 (0, 0))) := zuy (by rw [heap_alloc, if_pos rfl])
 have HB0 := zuy hb0
 have HZ0 : Hid ((w.alloc (.cells #[.int .i64 0, .slice none 0 0] 48)).heap.size = w.heap.size + 1) := zuy (by simp)
 unfold maxLen at hs
 clear hb0 hm
 generalize (ByteArray.mk s.toArray) = S at *
 go_enter Tryz.func151, Tryz.ntmps151
 go_wp2_with fail
 generalize w.alloc (.cells #[.int .i64 0, .slice none 0 0] 48) = w0 at *
 refine (zaf n w0).mono ?_
 rintro e w' ⟨rfl, rfl⟩
 rcases hsc : V.scheme n with _ | _
 ·have HR := zuy (V.zgx (s := s) hsc)
  clear hsc
  go_wp2_with (first | (refine zi rfl 48 _ _ rfl w.heap.size #[.int .i64 0, .slice none 0 0] _ K0.out rfl #[.int .i64 0, .slice none 0 0] rfl rfl (by kernel_rfl) (zr _ _ _ _) ?_; intro W2 hp2; have z0 : W2.cell? ⟨w.heap.size, 0, none⟩ = some (.int .i64 0) := zux hp2.here 0; have z1 : W2.cell? ⟨w.heap.size, 1, none⟩ = some (.slice none 0 0) := zux hp2.here 1) | fail)
  have HBF := zuy (hp2.below HB0.out (zu0 _))
  clear hp2
  exact bodyPost_ret (v := .tuple #[.agg #[.int .i64 0, .slice none 0 0], .int .i64 14]) (by simp [results, Tryz.results151, go_sem, z0, z1]) rfl (by rw [HR.out]; exact jd.zero HBF.out _)
 ·have HSC := zuy hsc
  clear hsc
  by_cases hlong : s.length ≤ 8192
  ·have HL := zuy hlong
   have hq : ¬ 8192 < S.size := by omega
   have hq2 : ¬ (8192 : Int) < (S.size : Int) := by omega
   have HS : Hid (S.size < 4294967281) := zuy (by omega)
   have HPL : Hid (∀ x ∈ Lib.split s V.orT, x.length ≤ 100000) := zuy (fun x hx => by
     have := zgh V.orT _ s x hx
     omega)
   have HLL : Hid ((Lib.split s V.orT).length ≤ 10000) := zuy (by have := zgw s; omega)
   have HAN : Hid (V.xj n (Lib.split s V.orT) = none -> V.parP n s = (0, [], 2)) := zuy (fun h => V.zl3 HSC.out HL.out h)
   have HUN : Hid (∀ xs, V.xj n (Lib.split s V.orT) = some xs -> V.qo n [] xs = none -> V.parP n s = (0, [], 3)) := zuy (fun xs h g => V.zi6 HSC.out HL.out h g)
   have HUS : Hid (∀ xs l, V.xj n (Lib.split s V.orT) = some xs -> V.qo n [] xs = some l -> V.parP n s = (n, l, 0)) := zuy (fun xs l h g => V.zs0 HSC.out HL.out h g)
   clear hlong hs hsz
   go_wp2_with fail
   refine (zhg S w' (HM.out.below HB0.out) HS.out).mono ?_
   rintro e W0 ⟨rfl, hW0⟩
   rw [HSD.out] at hW0 ⊢
   have hb1 : Below w'.heap.size w' W0 := by rw [hW0]; exact (zu1 _ _).alloc (zu0 _) _
   have HB1 := zuz HB0 hb1
   have K1 := zuy (kw hb1 K0.out)
   have hz0 : w'.heap.size = w.heap.size + 1 := HZ0.out
   have HTX : Hid (∀ j (h : j < (Lib.split s V.orT).length), W0.cell? ⟨w.heap.size + 1, j, none⟩ = some (.string ⟨(Lib.split s V.orT)[j].toArray⟩)) := zuy (fun j hj => by
     rw [hW0, ← hz0, World.cell?_alloc_new]; exact xq _ j hj)
   have HZ1 : Hid (W0.heap.size = w.heap.size + 2) := zuy (by rw [hW0]; simp; omega)
   clear hb1 hW0
   rw [hz0]
   clear hz0
   have hll : (Lib.split s V.orT).length ≤ 10000 := HLL.out
   have HA0 := zuy (V.zgu n (Lib.split s V.orT))
   generalize Lib.split s V.orT = P at *
   go_wp2_with fail
   go_loopw [6, 28] (fun v iv wx => ∃ (k : Nat) (us : List Sl) (xs : List (List V.Itv)), k ≤ P.length /\ iv = .int .i64 k /\ us.length = k /\ V.za0 n P k xs /\ SetRow n W0.heap.size wx v us xs /\ Below W0.heap.size W0 wx) (fun _ iv _ => P.length - (intOf iv).toNat)
   case atStart => exact ⟨0, [], [], Nat.zero_le _, rfl, rfl, HA0.out, SetRow.nil _ _ _, zu1 _ _⟩
   case round =>
    obtain ⟨k, us, xs, hk, rfl, hku, hto, hrow, hbx⟩ := hrel
    have HTO := zuy hto
    have HROW := zuy hrow
    have HKU := zuy hku
    have HBX := zuy hbx
    have HBF := zuz HB1 hbx
    have KR := zuy (kw (hbx.mono (zu0 _)) K1.out)
    clear hto hrow hku hbx
    by_cases hlt : k < P.length
    ·have hc := za HBX.out (HTX.out k hlt)
     have hi1 : (0 : Int) ≤ (k : Int) := by omega
     have hi2 : (k : Int) < (P.length : Int) := by omega
     have HLX := zuy (HPL.out _ (List.getElem_mem hlt))
     have HST := zuy (fun (y : List V.Itv) hy => V.zg0 (x := y) HTO.out hlt hy)
     have HNO := zuy (fun hy => V.zg3 HTO.out hlt hy)
     generalize P[k] = x at *
     go_wp2_with fail
     refine (ze8 n x wr (HM.out.below HBF.out) HSC.out HLX.out).mono ?_
     rintro e w2 ⟨m2, u, l, b, rfl, hor, hu, how, hb2⟩
     obtain ⟨p, q, rfl⟩ := hu.slice
     have HOR := zuy hor
     have HU := zuy hu
     have HOW := zuy how
     have HB2 := zuy hb2
     have KR2 := zuy (kw hb2 KR.out)
     clear hor hu how hb2 hc
     unfold setV
     have HBY := zuy ((zu1 w2.heap.size w2).alloc (zu0 _) (.cells #[.int .i64 m2, .slice p l.length q] 48))
     rcases b with _ | _
     ·have HR : Hid (V.parP n s = (0, [], 2)) := zuy (HAN.out (HNO.out (by
        rcases HOR.out with ⟨_, h⟩ | ⟨h, _⟩
        · exact h
        · cases h)))
      go_wp2_with (first | (refine zi rfl 48 _ _ rfl w.heap.size #[.int .i64 0, .slice none 0 0] _ (kw HBY.out KR2.out) rfl #[.int .i64 0, .slice none 0 0] rfl rfl (by kernel_rfl) (zr _ _ _ _) ?_; intro W5 hp5; have z0 : W5.cell? ⟨w.heap.size, 0, none⟩ = some (.int .i64 0) := zux hp5.here 0; have z1 : W5.cell? ⟨w.heap.size, 1, none⟩ = some (.slice none 0 0) := zux hp5.here 1) | fail)
      have HB5 := zuy (hp5.below (HBF.out.trans ((HB2.out.trans (HBY.out.mono HB2.out.size)).mono HBF.out.size)) (zu0 _))
      clear hp5
      exact bodyPost_ret (v := .tuple #[.agg #[.int .i64 0, .slice none 0 0], .int .i64 2]) (by simp [results, Tryz.results151, go_sem, z0, z1]) rfl (by rw [HR.out]; exact jd.zero HB5.out _)
     ·exact zvc
    ·obtain rfl : k = P.length := by omega
     have HAX := zuy (V.zih HTO.out)
     have HONE := zuy (V.zeb HSC.out HAX.out).2
     have HUX := zuy (fun h => HUN.out xs HAX.out h)
     have HUY := zuy (fun l h => HUS.out xs l HAX.out h)
     have HXL : Hid (us.length = xs.length) := zuy HROW.out.len
     obtain ⟨va, vc, rfl⟩ := GRow.slice HROW.out.row
     obtain ⟨wo, rfl⟩ : ∃ wo : World, wo = wr := ⟨_, rfl⟩
     have hulen : us.length ≤ 10000 := by have := HKU.out; omega
     have HX0 : Hid ((wo.alloc (.cells #[.int .i64 n, .slice none 0 0] 48)).heap[wo.heap.size]? = some (.cells #[.int .i64 n, .slice none 0 0] 48 (0, 0))) := zuy (by rw [heap_alloc, if_pos rfl])
     have HBX0 := zuy ((zu1 wo.heap.size wo).alloc (zu0 _) (.cells #[.int .i64 n, .slice none 0 0] 48))
     have HZB : Hid (w.heap.size < wo.heap.size) := zuy ((Array.getElem?_eq_some_iff.1 KR.out).1)
     go_wp2_with fail
     go_loopw [50] (fun iv wx => ∃ (k : Nat) (acc : List V.Itv) (u : Value), k ≤ xs.length /\ iv = .int .i64 k /\ V.qo n [] xs = V.qo n acc (xs.drop k) /\ V.Ok n acc /\ wx.heap[wo.heap.size]? = some (.cells #[.int .i64 n, u] 48 (0, 0)) /\ Itvs wx u acc /\ (∀ c, u.ownBlock = some c -> wo.heap.size < c) /\ Below wo.heap.size wo wx) (fun iv _ => us.length - (intOf iv).toNat)
     case atStart => exact ⟨0, [], _, Nat.zero_le _, rfl, rfl, V.zdo HSC.out, HX0.out, Itvs.nil _, (fun c hc => by cases hc), HBX0.out⟩
     case round =>
      obtain ⟨k, acc, u, hk, rfl, heq, hok, hbox, hset, hown, hby⟩ := hrel
      obtain ⟨p, q, rfl⟩ := hset.slice
      have HE := zuy heq
      have HOK := zuy hok
      have HBOX := zuy hbox
      have HSET := zuy hset
      have HOWN := zuy hown
      have HBY := zuy hby
      obtain ⟨x0, x1⟩ := zas hbox
      have HBYW := zuz HBF hby
      have KR1 := zuy (kw hby KR.out)
      have HZR : Hid (wo.heap.size < wr.heap.size) := zuy ((Array.getElem?_eq_some_iff.1 hbox).1)
      clear heq hok hbox hset hown
      by_cases hlt : k < xs.length
      ·have hlu : k < us.length := by have := HXL.out; omega
       have hrow := HROW.out.later hby
       obtain ⟨g, cap, e, _, _, hcell⟩ := GRow.at (zh4 n) hrow.row k hlu
       cases e
       have c0 : wr.cell? ⟨g, k * 2, none⟩ = some (.int .i64 n) := hcell 0 _ rfl
       have c1 : wr.cell? ⟨g, k * 2 + 1, none⟩ = some us[k].v := hcell 1 _ rfl
       have HIT := (hrow.each k hlu hlt).1
       have HON := zuy (HONE.out _ (List.getElem_mem hlt))
       have HNX := zuy (V.zk1 (n := n) (acc := acc) hlt)
       have hi1 : (0 : Int) ≤ (k : Int) := by omega
       have hi2 : (k : Int) < (us.length : Int) := by omega
       clear hrow hcell hby
       generalize us[k].v = uv at *
       generalize xs[k] = y at *
       have HITV := zuy HIT
       obtain ⟨p2, q2, rfl⟩ := HIT.slice
       clear HIT
       have hbA : Below wr.heap.size wr (wr.alloc (.cells #[.int .i64 n, .slice p2 y.length q2] 48)) := (zu1 _ _).alloc (zu0 _) _
       have HBA := zuy hbA
       have y0 := za hbA x0
       have y1 := za hbA x1
       have HCH := zuy (V.zn1 HOK.out HON.out.ok)
       have HOPF : Hid (V.opP V.orF n acc n y = if V.chkP n acc n y = 0 then V.limP n (V.opL n V.orF acc y) else (0, [], V.chkP n acc n y)) := zuy rfl
       clear hbA
       go_wp2_with fail
       refine (zpr n n (.slice p acc.length q) (.slice p2 y.length q2) acc y (wr.alloc (.cells #[.int .i64 n, .slice p2 y.length q2] 48)) (HM.out.below (HBYW.out.trans (HBA.out.mono HBYW.out.size))) (HSET.out.below HBA.out) (HITV.out.below HBA.out) (yo HOK.out) (yo HON.out.ok) (by have := HOK.out.len; unfold maxLen; omega) (by have := HON.out.one; unfold maxLen; omega)).mono ?_
       rintro e w5 ⟨u5, rfl, hu5, how5, hb5⟩
       obtain ⟨p5, q5, rfl⟩ := hu5.slice
       have HB5 := zuz HBA hb5
       have HBOX5 := zuy (kw HB5.out HBOX.out)
       have KR5 := zuy (kw HB5.out KR1.out)
       have HBW5 := zuy (HBYW.out.trans (HB5.out.mono HBYW.out.size))
       have HBO5 := zuy (HBY.out.trans (HB5.out.mono HBY.out.size))
       have HU5 := zuy hu5
       have HOW5 := zuy (fun c hc => by have h1 := how5 c hc; have h2 := HBA.out.size; have h3 := HZR.out; exact (show wo.heap.size < c by omega))
       clear hu5 how5 hb5 x0 x1 y0 y1 c0 c1
       by_cases h32 : (V.opL n V.orF acc y).length ≤ 32
       ·have HOP : Hid (V.opP V.orF n acc n y = (n, V.opL n V.orF acc y, 0)) := zuy (by rw [HOPF.out, if_pos HCH.out]; unfold V.limP; rw [if_pos h32])
        have HOK5 := zuy (V.zii V.orF HOK.out HON.out.ok h32)
        have HEQ : Hid (V.qo n [] xs = V.qo n (V.opL n V.orF acc y) (xs.drop (k + 1))) := zuy (by rw [HE.out, HNX.out, if_pos h32])
        clear h32
        rw [HOP.out] at HU5 HOW5 ⊢
        simp only at HU5 HOW5 ⊢
        unfold setV
        go_wp2_with (first | (refine zi rfl 48 _ _ rfl wo.heap.size _ _ HBOX5.out rfl #[.int .i64 n, .slice p5 (V.opL n V.orF acc y).length q5] rfl rfl (by kernel_rfl) (zr _ _ _ _) ?_; intro W6 hp6) | fail)
        have H6 := zuy hp6.here
        have HI6 := zuy (hp6.itvs HU5.out (fun c hc => by have := HOW5.out c hc; omega))
        have HB6 := zuy (hp6.below HBO5.out (zu0 _))
        clear hp6
        go_roundw
        case rel => exact ⟨k + 1, _, _, by omega, by go_num, HEQ.out, HOK5.out, H6.out, HI6.out, HOW5.out, HB6.out⟩
        case measure => simp [intOf]; omega
       ·have HOP : Hid (V.opP V.orF n acc n y = (0, [], 3)) := zuy (by rw [HOPF.out, if_pos HCH.out]; unfold V.limP; rw [if_neg h32])
        have HR : Hid (V.parP n s = (0, [], 3)) := zuy (HUX.out (by rw [HE.out, HNX.out, if_neg h32]))
        clear h32
        rw [HOP.out] at HU5 HOW5 ⊢
        simp only at HU5 HOW5 ⊢
        unfold setV
        go_wp2_with (first
          | (refine zi rfl 48 _ _ rfl wo.heap.size _ _ HBOX5.out rfl #[.int .i64 0, .slice p5 ([] : List V.Itv).length q5] rfl rfl (by kernel_rfl) (zr _ _ _ _) ?_; intro W6 hp6; have KR6 := zuy (hp6.other KR5.out (by have := HZB.out; omega)); have HB6 := zuy (hp6.below HBW5.out (by have := HZB.out; omega)); clear hp6)
          | (refine zi rfl 48 _ _ rfl w.heap.size #[.int .i64 0, .slice none 0 0] _ KR6.out rfl #[.int .i64 0, .slice none 0 0] rfl rfl (by kernel_rfl) (zr _ _ _ _) ?_; intro W7 hp7; have z0 : W7.cell? ⟨w.heap.size, 0, none⟩ = some (.int .i64 0) := zux hp7.here 0; have z1 : W7.cell? ⟨w.heap.size, 1, none⟩ = some (.slice none 0 0) := zux hp7.here 1)
          | fail)
        have HB7 := zuy (hp7.below HB6.out (zu0 _))
        clear hp7
        exact bodyPost_ret (v := .tuple #[.agg #[.int .i64 0, .slice none 0 0], .int .i64 3]) (by simp [results, Tryz.results151, go_sem, z0, z1]) rfl (by rw [HR.out]; exact jd.zero HB7.out _)
      ·obtain rfl : k = xs.length := by omega
       have HR : Hid (V.parP n s = (n, acc, 0)) := zuy (HUY.out acc (by rw [HE.out, List.drop_length]; rfl))
       have hnl : ¬ (xs.length : Int) < (us.length : Int) := by have := HXL.out; omega
       have hnl2 : ¬ xs.length < us.length := by have := HXL.out; omega
       clear hby
       go_wp2_with fail
       refine (zro (.slice p acc.length q) acc wr HSET.out (by have := HOK.out.len; omega)).mono ?_
       rintro e w5 ⟨u5, rfl, hu5, how5, hb5⟩
       obtain ⟨p5, q5, rfl⟩ := hu5.slice
       have HBOX5 := zuy (kw hb5 HBOX.out)
       have KR5 := zuy (kw hb5 KR1.out)
       have HBW5 := zuz HBYW hb5
       have HU5 := zuy hu5
       have HOW5 := zuy (fun c hc => by have h1 := how5 c hc; have h3 := HZR.out; exact (show wo.heap.size < c by omega))
       clear hu5 how5 hb5 x0 x1
       go_wp2_with (first
         | (refine vv rfl 46 _ _ rfl wo.heap.size 1 #[.int .i64 n, .slice p acc.length q] _ HBOX5.out (by simp) rfl (.slice p5 acc.length q5) rfl zc4 rfl ?_; intro W6 hp6; have x0 : W6.cell? ⟨wo.heap.size, 0, none⟩ = some (.int .i64 n) := zux hp6.here 0; have x1 : W6.cell? ⟨wo.heap.size, 1, none⟩ = some (.slice p5 acc.length q5) := zux hp6.here 1; have KR6 := zuy (hp6.other KR5.out (by have := HZB.out; omega)); have HB6 := zuy (hp6.below HBW5.out (by have := HZB.out; omega)); have HI6 := zuy (hp6.itvs HU5.out (fun c hc => by have := HOW5.out c hc; omega)); clear hp6)
         | (refine zi rfl 48 _ _ rfl w.heap.size #[.int .i64 0, .slice none 0 0] _ KR6.out rfl #[.int .i64 n, .slice p5 acc.length q5] rfl rfl (by kernel_rfl) (zr _ _ _ _) ?_; intro W7 hp7; have z0 : W7.cell? ⟨w.heap.size, 0, none⟩ = some (.int .i64 n) := zux hp7.here 0; have z1 : W7.cell? ⟨w.heap.size, 1, none⟩ = some (.slice p5 acc.length q5) := zux hp7.here 1)
         | fail)
       have HB7 := zuy (hp7.below HB6.out (zu0 _))
       have HI7 := zuy (hp7.itvs HI6.out (fun c hc => by have := HOW5.out c hc; have := HZB.out; omega))
       clear hp7
       exact bodyPost_ret (v := .tuple #[.agg #[.int .i64 n, .slice p5 acc.length q5], .int .i64 0]) (by simp [results, Tryz.results151, go_sem, z0, z1]) rfl (by rw [HR.out]; exact ⟨_, rfl, HI7.out, (fun c hc => by have := HOW5.out c hc; have := HZB.out; omega), HB7.out⟩)
  ·have HR := zuy (V.zma HSC.out hlong)
   have hq : 8192 < S.size := by omega
   have hq2 : (8192 : Int) < (S.size : Int) := by omega
   clear hlong
   go_wp2_with (first | (refine zi rfl 48 _ _ rfl w.heap.size #[.int .i64 0, .slice none 0 0] _ K0.out rfl #[.int .i64 0, .slice none 0 0] rfl rfl (by kernel_rfl) (zr _ _ _ _) ?_; intro W2 hp2; have z0 : W2.cell? ⟨w.heap.size, 0, none⟩ = some (.int .i64 0) := zux hp2.here 0; have z1 : W2.cell? ⟨w.heap.size, 1, none⟩ = some (.slice none 0 0) := zux hp2.here 1) | fail)
   have HBF := zuy (hp2.below HB0.out (zu0 _))
   clear hp2
   exact bodyPost_ret (v := .tuple #[.agg #[.int .i64 0, .slice none 0 0], .int .i64 3]) (by simp [results, Tryz.results151, go_sem, z0, z1]) rfl (by rw [HR.out]; exact jd.zero HBF.out _)
end Go.Proofs.YtnhfaincdabdkaaGreatDoor
