/-
  Lemmas for the law.
-/
import Derived.Test.YtiloljoancdcbaaGreatDoorC40x17
import Derived.Test.YtiloljoancdcbaaGreatDoorC40x16
import Derived.Test.YtiloljoancdcbaaGreatDoorC40x22
import Derived.Test.YtiloljoancdcbaaGreatDoorC40x37
set_option linter.all false
set_option maxRecDepth 100000
set_option maxHeartbeats 1600000
namespace Go.Proofs.YtiloljoancdcbaaGreatDoor
open Go.RowKit
namespace V
def yq (s : Bs) : Bool := s.all fun c => decide (48 ≤ c.toNat) && decide (c.toNat ≤ 57)
def valD (s : Bs) : Nat := s.foldl (fun n c => 10 * n + (c.toNat - 48)) 0
def numP (s : Bs) : Int × Bool := if 1 ≤ s.length /\ s.length ≤ 13 /\ ¬ (1 < s.length /\ s.head? = some 48) /\ yq s = true /\ valD s ≤ 1099511627776 then ((valD s : Nat), true) else (0, false)
theorem zhl {s : Bs} {k : Nat} (h : k < s.length) : valD (s.take (k + 1)) = 10 * valD (s.take k) + (s[k].toNat - 48) := by
 unfold valD
 rw [List.take_succ_eq_append_getElem h, List.foldl_append]
 rfl
theorem zow {s : Bs} (hd : yq s = true) : ∀ k, k ≤ s.length -> valD (s.take k) < 10 ^ k
 | 0, _ => by simp [valD]
 | k + 1, h => by
  rw [zhl (by omega), Nat.pow_succ]
  have h1 := zow hd k (by omega)
  unfold yq at hd
  rw [List.all_eq_true] at hd
  have h2 := hd _ (List.getElem_mem (show k < s.length by omega))
  simp at h2
  omega
theorem zij {s : Bs} {k : Nat} (h : k < s.length) : yq (s.take (k + 1)) = (yq (s.take k) && (decide (48 ≤ s[k].toNat) && decide (s[k].toNat ≤ 57))) := by
 unfold yq
 rw [List.take_succ_eq_append_getElem h, List.all_append]
 simp
theorem znb {s : Bs} {k : Nat} (h : k < s.length) (hd : s[k].toNat < 48 ∨ 57 < s[k].toNat) : yq s = false := by
 unfold yq
 rw [List.all_eq_false]
 exact ⟨_, List.getElem_mem h, by simp; omega⟩
theorem zg0 {s : Bs} (h : s.length = 0 ∨ 13 < s.length ∨ (1 < s.length /\ s.head? = some 48)) : numP s = (0, false) := by
 unfold numP
 rw [if_neg]
 rintro ⟨h1, h2, h3, _⟩
 rcases h with h | h | h
 ·omega
 ·omega
 ·exact h3 h
theorem znk {s : Bs} (h1 : 1 ≤ s.length) (h2 : s.length ≤ 13) (h3 : ¬ (1 < s.length /\ s.head? = some 48)) : numP s = if yq s = true /\ valD s ≤ 1099511627776 then (((valD s : Nat) : Int), true) else (0, false) := by
 unfold numP
 by_cases hd : yq s = true /\ valD s ≤ 1099511627776
 ·rw [if_pos hd, if_pos ⟨h1, h2, h3, hd.1, hd.2⟩]
 ·rw [if_neg hd, if_neg (fun e => hd ⟨e.2.2.2.1, e.2.2.2.2⟩)]
end V
theorem zv0 {P : Prop} (h : P := by
 obtain ⟨k, hk, rfl, rfl, hd⟩ := hrel
 have HD := zvq hd
 clear hd
 by_cases hlt : k < s.size
 ·have he : s.data.toList[k]'(by omega) = s[k] := by simp; rfl
  have HST := zvq (V.zhl (s := s.data.toList) (k := k) (by omega))
  have HDT := zvq (V.zij (s := s.data.toList) (k := k) (by omega))
  have HNO := zvq (V.znb (s := s.data.toList) (k := k) (by omega))
  have hb : V.valD (s.data.toList.take k) < 10000000000000 := by
   have h1 := V.zow (s := s.data.toList.take k) HD.out k (by rw [List.length_take]; omega)
   rw [List.take_take, Nat.min_self] at h1
   have h2 : 10 ^ k ≤ 10 ^ 13 := Nat.pow_le_pow_right (by decide) (by omega)
   omega
  rw [he] at HST HDT HNO
  have hs1 : (0 : Int) ≤ (k : Int) := by omega
  have hs2 : (k : Int) < (s.size : Int) := by omega
  obtain ⟨N, hN⟩ : ∃ N, N = V.valD (s.data.toList.take k) := ⟨_, rfl⟩
  rw [← hN] at HST hb ⊢
  clear hN he
  by_cases hdg : s[k].toNat < 48 ∨ 57 < s[k].toNat
  ·have HP : Hid (V.numP s.data.toList = (0, false)) := zvq (by rw [HG.out, if_neg (fun e => by rw [HNO.out hdg] at e; cases e.1)])
   rcases hdg with hdg | hdg
   ·have q6 : (s[k].toNat : Int) < 48 := by omega
    go_wp2
    go_ret2
    exact ⟨by rw [HP.out]; rfl, rfl⟩
   ·have q6 : ¬ (s[k].toNat : Int) < 48 := by omega
    have q7 : (57 : Int) < (s[k].toNat : Int) := by omega
    go_wp2
    go_ret2
    exact ⟨by rw [HP.out]; rfl, rfl⟩
  ·have q6 : ¬ (s[k].toNat : Int) < 48 := by omega
   have q7 : ¬ (57 : Int) < (s[k].toNat : Int) := by omega
   have w1 : IntKind.i64.wrap (10 * (N : Int)) = 10 * (N : Int) := by unfold IntKind.wrap; simp [IntKind.signed, IntKind.bits]; omega
   have w2 : IntKind.u8.wrap ((s[k].toNat : Int) - 48) = (s[k].toNat : Int) - 48 := by unfold IntKind.wrap; simp [IntKind.signed, IntKind.bits]; omega
   have w3 : IntKind.i64.wrap ((s[k].toNat : Int) - 48) = (s[k].toNat : Int) - 48 := by unfold IntKind.wrap; simp [IntKind.signed, IntKind.bits]; omega
   have w4 : IntKind.i64.wrap (10 * (N : Int) + ((s[k].toNat : Int) - 48)) = 10 * (N : Int) + ((s[k].toNat : Int) - 48) := by unfold IntKind.wrap; simp [IntKind.signed, IntKind.bits]; omega
   have HN2 : Hid ((V.yq (s.data.toList.take (k + 1)) = true) /\ 10 * (N : Int) + ((s[k].toNat : Int) - 48) = ((V.valD (s.data.toList.take (k + 1)) : Nat) : Int)) := zvq ⟨by rw [HDT.out, HD.out]; simp; omega, by rw [HST.out]; omega⟩
   go_wp2
   go_round
   case rel => exact ⟨k + 1, by omega, by go_num, congrArg (Value.int .i64) HN2.out.2, HN2.out.1⟩
   case measure => simp [intOf]; omega
 ·obtain rfl : k = s.size := by omega
  have ht : s.data.toList.take s.size = s.data.toList := List.take_of_length_le (by omega)
  rw [ht] at HD ⊢
  by_cases hmx : V.valD s.data.toList ≤ 1099511627776
  ·have HP : Hid (V.numP s.data.toList = (((V.valD s.data.toList : Nat) : Int), true)) := zvq (by rw [HG.out, if_pos ⟨HD.out, hmx⟩])
   have q8 : ¬ (1099511627776 : Int) < ((V.valD s.data.toList : Nat) : Int) := by omega
   clear hl ht
   go_wp2
   go_ret2
   exact ⟨by rw [HP.out]; rfl, rfl⟩
  ·have HP : Hid (V.numP s.data.toList = (0, false)) := zvq (by rw [HG.out, if_neg (fun e => hmx e.2)])
   have q8 : (1099511627776 : Int) < ((V.valD s.data.toList : Nat) : Int) := by omega
   clear hl ht
   go_wp2
   go_ret2
   exact ⟨by rw [HP.out]; rfl, rfl⟩) : P := h
theorem zxl {P : Prop} (h : P := by
 have hne : ¬ s[0] = 48 -> (¬ ((s[0].toNat : Int) = 48) /\ ((s[0].toNat : Int) == 48) = false) := fun h => by
  have : ¬ ((s[0].toNat : Int) = 48) := fun e => h (by apply UInt8.toNat_inj.1; have : s[0].toNat = 48 := by omega
                                                       rw [this]; rfl)
  exact ⟨this, by rw [zvu]; exact this⟩
 by_cases h1 : 1 < s.size
 ·exact .inr (.inr ⟨by omega, hne (fun e => hz ⟨h1, by rw [HC0.out]; exact e⟩)⟩)
 ·by_cases h2 : s[0] = 48
  ·exact .inl ⟨by omega, h2⟩
  ·exact .inr (.inl ⟨by omega, hne h2⟩)) : P := h
theorem zys {P : Prop} (h : P := by
 go_wp2
 go_ret2
 exact ⟨by rw [HP.out]; rfl, rfl⟩) : P := h
theorem z1b {P : Prop} (h : P := by
 rw [Lib.toList_data]
 cases hq : s.data.toList with
 | nil => rw [hq] at hl; exact absurd hl.symm h0
 | cons c r => rfl) : P := h
theorem zbt (s : ByteArray) (w : World) (hs : s.size ≤ maxLen) : Calls Tryz.prog 68 #[.string s] w fun e w' => e = .returned (.tuple #[.int .i64 (V.numP s.data.toList).1, .bool (V.numP s.data.toList).2]) /\ w' = w := by
 have hl := zf s
 unfold maxLen at hs
 by_cases h0 : s.size = 0
 ·have hs0 : s = ⟨#[]⟩ := jj (by rw [List.length_eq_zero_iff.1 (by omega : s.data.toList.length = 0)])
  subst hs0
  go_enter Tryz.func68, Tryz.ntmps68
  go_wp2
  go_ret2
  exact ⟨rfl, rfl⟩
 have q1 : ¬ (s.size : Int) < 1 := by omega
 have h00 : 0 < s.size := by omega
 have he0 : s.data.toList[0]'(by omega) = s[0] := by simp; rfl
 have hhead : s.data.toList.head? = some (s[0]) := by rw [← he0, List.head?_eq_getElem?, List.getElem?_eq_getElem]
 obtain ⟨c0, hc0⟩ : ∃ c0, c0 = s[0] := ⟨_, rfl⟩
 rw [← hc0] at hhead
 have HC0 := zvq hc0
 clear he0 hc0
 by_cases h13 : 13 < s.size
 ·have HP := zvq (V.zg0 (s := s.data.toList) (.inr (.inl (by omega))))
  have q2 : (13 : Int) < (s.size : Int) := by omega
  clear hl
  go_enter Tryz.func68, Tryz.ntmps68
  exact zys
 have q2 : ¬ (13 : Int) < (s.size : Int) := by omega
 by_cases hz : 1 < s.size /\ c0 = 48
 ·have HP := zvq (V.zg0 (s := s.data.toList) (.inr (.inr ⟨by omega, by rw [hhead, hz.2]⟩)))
  have q3 : (1 : Int) < (s.size : Int) := by omega
  have q4 : s[0] = 48 := by rw [← HC0.out]; exact hz.2
  clear hl hhead hz
  go_enter Tryz.func68, Tryz.ntmps68
  exact zys
 have HG := zvq (V.znk (s := s.data.toList) (by omega) (by omega) (fun e => hz ⟨by omega, by rw [hhead] at e; exact Option.some.inj e.2⟩))
 have hsz13 : s.size ≤ 13 := by omega
 have hcase : (¬ (1 : Int) < (s.size : Int) /\ s[0] = 48) ∨ (¬ (1 : Int) < (s.size : Int) /\ (¬ ((s[0].toNat : Int) = 48) /\ ((s[0].toNat : Int) == 48) = false)) ∨ ((1 : Int) < (s.size : Int) /\ (¬ ((s[0].toNat : Int) = 48) /\ ((s[0].toNat : Int) == 48) = false)) := by
  exact zxl
 have hse : s.toList.isEmpty = false := by
  exact z1b
 clear hz hhead
 rcases hcase with ⟨q3, q4⟩ | ⟨q3, q4, q5⟩ | ⟨q3, q4, q5⟩
 all_goals
  go_enter Tryz.func68, Tryz.ntmps68
  go_wp2
  go_loop [4, 5] (fun nv iv => ∃ k : Nat, k ≤ s.size /\ iv = .int .i64 k /\ nv = .int .i64 ((V.valD (s.data.toList.take k) : Nat) : Int) /\ V.yq (s.data.toList.take k) = true) (fun _ iv => s.size - (intOf iv).toNat)
  case atStart => exact ⟨0, Nat.zero_le _, rfl, rfl, rfl⟩
  case round =>
   exact zv0
theorem zay (s : ByteArray) (w : World) (hs : s.size ≤ maxLen) : Calls Tryz.prog 44 #[.string s] w fun e w' => e = .returned (.tuple #[.int .i64 (V.numP s.data.toList).1, .bool (V.numP s.data.toList).2]) /\ w' = w := by
 have hl := zf s
 unfold maxLen at hs
 by_cases h0 : s.size = 0
 ·have hs0 : s = ⟨#[]⟩ := jj (by rw [List.length_eq_zero_iff.1 (by omega : s.data.toList.length = 0)])
  subst hs0
  go_enter Tryz.func44, Tryz.ntmps44
  go_wp2
  go_ret2
  exact ⟨rfl, rfl⟩
 have hse : s.toList.isEmpty = false := by
  exact z1b
 have q1 : ¬ (s.size : Int) < 1 := by omega
 have h00 : 0 < s.size := by omega
 have he0 : s.data.toList[0]'(by omega) = s[0] := by simp; rfl
 have hhead : s.data.toList.head? = some (s[0]) := by rw [← he0, List.head?_eq_getElem?, List.getElem?_eq_getElem]
 obtain ⟨c0, hc0⟩ : ∃ c0, c0 = s[0] := ⟨_, rfl⟩
 rw [← hc0] at hhead
 have HC0 := zvq hc0
 clear he0 hc0
 by_cases h13 : 13 < s.size
 ·have HP := zvq (V.zg0 (s := s.data.toList) (.inr (.inl (by omega))))
  have q2 : (13 : Int) < (s.size : Int) := by omega
  clear hl
  go_enter Tryz.func44, Tryz.ntmps44
  exact zys
 have q2 : ¬ (13 : Int) < (s.size : Int) := by omega
 by_cases hz : 1 < s.size /\ c0 = 48
 ·have HP := zvq (V.zg0 (s := s.data.toList) (.inr (.inr ⟨by omega, by rw [hhead, hz.2]⟩)))
  have q3 : (1 : Int) < (s.size : Int) := by omega
  have q4 : s[0] = 48 := by rw [← HC0.out]; exact hz.2
  clear hl hhead hz
  go_enter Tryz.func44, Tryz.ntmps44
  exact zys
 have HG := zvq (V.znk (s := s.data.toList) (by omega) (by omega) (fun e => hz ⟨by omega, by rw [hhead] at e; exact Option.some.inj e.2⟩))
 have hsz13 : s.size ≤ 13 := by omega
 have hcase : (¬ (1 : Int) < (s.size : Int) /\ s[0] = 48) ∨ (¬ (1 : Int) < (s.size : Int) /\ (¬ ((s[0].toNat : Int) = 48) /\ ((s[0].toNat : Int) == 48) = false)) ∨ ((1 : Int) < (s.size : Int) /\ (¬ ((s[0].toNat : Int) = 48) /\ ((s[0].toNat : Int) == 48) = false)) := by
  exact zxl
 clear hz hhead
 rcases hcase with ⟨q3, q4⟩ | ⟨q3, q4, q5⟩ | ⟨q3, q4, q5⟩
 all_goals
  go_enter Tryz.func44, Tryz.ntmps44
  go_wp2
  go_loop [4, 5] (fun nv iv => ∃ k : Nat, k ≤ s.size /\ iv = .int .i64 k /\ nv = .int .i64 ((V.valD (s.data.toList.take k) : Nat) : Int) /\ V.yq (s.data.toList.take k) = true) (fun _ iv => s.size - (intOf iv).toNat)
  case atStart => exact ⟨0, Nat.zero_le _, rfl, rfl, rfl⟩
  case round =>
   exact zv0
open Go.RowKit
namespace V
theorem zt1 : ∀ n : Fin 16, hexV (digU.getD n.val 0) = some n.val := by decide +kernel
theorem u8_parts (c : UInt8) : UInt8.ofNat (16 * (c.toNat / 16) + c.toNat % 16) = c := by
 rw [Nat.div_add_mod]; exact UInt8.ofNat_toNat
theorem zfs : ∀ w : Bs, qv (w.flatMap encB) = some w
 | [] => rfl
 | c :: w => by
  rw [List.flatMap_cons, encB]
  by_cases hp : jd c = true
  ·rw [if_pos hp, List.cons_append, List.nil_append, zdx hp, zfs w]; rfl
  ·rw [if_neg hp]
   have hc := c.toNat_lt
   have h1 := zt1 ⟨c.toNat / 16, by omega⟩
   have h2 := zt1 ⟨c.toNat % 16, by omega⟩
   show qv (37 :: digU.getD (c.toNat / 16) 0 :: digU.getD (c.toNat % 16) 0 :: w.flatMap encB) = _
   rw [zhh h1 h2, u8_parts, if_neg hp, zfs w]; rfl
theorem zqv : ∀ n : Fin 16, 48 ≤ (digU.getD n.val 0).toNat /\ (digU.getD n.val 0).toNat ≤ 70 := by decide +kernel
theorem zp4 {c b : UInt8} (h : b ∈ encB c) : 33 ≤ b.toNat /\ b.toNat ≤ 125 := by
 unfold encB at h
 have hc := c.toNat_lt
 split at h
 ·rename_i hp
  simp only [List.mem_singleton] at h
  subst h
  simp [jd] at hp
  omega
 ·have h1 := zqv ⟨c.toNat / 16, by omega⟩
  have h2 := zqv ⟨c.toNat % 16, by omega⟩
  simp only at h1 h2
  simp only [List.mem_cons, List.not_mem_nil, or_false] at h
  rcases h with rfl | rfl | rfl
  ·decide
  ·omega
  ·omega
theorem zri {w : Bs} {b : UInt8} (h : b ∈ word w) : 33 ≤ b.toNat /\ b.toNat ≤ 126 := by
 unfold word at h
 split at h
 ·simp only [List.mem_singleton] at h; subst h; decide
 ·obtain ⟨c, _, hb⟩ := List.mem_flatMap.1 h
  have := zp4 hb
  omega
theorem unwR_w (w : Bs) : unwR (word w) = some w := by
 unfold word
 cases w with
 | nil => rfl
 | cons c w =>
  rw [if_neg (by simp)]
  unfold unwR
  have hne : ¬ (c :: w).flatMap encB = [126] := by
   intro e
   have hb : (126 : UInt8) ∈ (c :: w).flatMap encB := by rw [e]; simp
   obtain ⟨d, _, hd⟩ := List.mem_flatMap.1 hb
   have := zp4 hd
   have e2 : (126 : UInt8).toNat = 126 := rfl
   omega
  rw [if_neg hne, zfs]
  simp
theorem zd5 (c : UInt8) : ∀ x y : Bs, zd c (x ++ c :: y) = zd c x ++ zd c y
 | [], y => by simp [zd]
 | a :: x, y => by
  rw [List.cons_append, zd, zd, zd5 c x y]
  split
  ·rfl
  ·cases hq : zd c x with
   | nil => exact absurd hq (zby c x)
   | cons z r => rfl
theorem ztu {w : Bs} {c : UInt8} (h : c.toNat < 33) : c ∉ word w := fun hc => by have := zri hc; omega
theorem zlj {l : List Bs} : ∀ k, k + 1 ≤ l.length -> zd 32 (jr l (k + 1)) = (l.take (k + 1)).map word
 | 0, h => by
  rw [zan, if_pos rfl]
  show zd 32 ([] ++ ([] ++ word (l.getD 0 []))) = _
  rw [List.nil_append, List.nil_append, jy (ztu (by decide))]
  cases l with
  | nil => simp at h
  | cons a l => simp
 | k + 1, h => by
  rw [zan, if_neg (by omega), List.singleton_append, zd5, zlj k (by omega), jy (ztu (by decide)), List.take_succ_eq_append_getElem (show k + 1 < l.length by omega), List.map_append]
  simp [List.getD_eq_getElem?_getD, List.getElem?_eq_getElem (show k + 1 < l.length by omega)]
theorem zld : ∀ l : List Bs, qg (l.map word) = some l
 | [] => rfl
 | w :: l => by rw [List.map_cons, qg, unwR_w, zld l]; rfl
def zh9 (l : List Bs) : Bs := jr l l.length
theorem zqc {l : List Bs} (h : 0 < l.length) : qg (zd 32 (zh9 l)) = some l := by
 obtain ⟨k, hk⟩ : ∃ k, l.length = k + 1 := ⟨l.length - 1, by omega⟩
 unfold zh9
 rw [hk, zlj k (by omega), ← hk, List.take_length, zld]
theorem lineB_no (l : List Bs) : (10 : UInt8) ∉ zh9 l := by
 unfold zh9 jr
 intro h
 obtain ⟨i, _, hi⟩ := List.mem_flatMap.1 h
 rw [List.mem_append] at hi
 rcases hi with hi | hi
 ·split at hi
  ·simp at hi
  ·simp at hi
 ·have := zri hi
  have e : (10 : UInt8).toNat = 10 := rfl
  omega
theorem zm2 : ∀ ls : List (List Bs), zd 10 (doc ls) = ls.map zh9 ++ [[]]
 | [] => rfl
 | l :: ls => by
  have e : doc (l :: ls) = zh9 l ++ 10 :: doc ls := by simp [doc, line, zh9]
  rw [e, zd5, jy (lineB_no l), zm2 ls]
  rfl
theorem znj : ∀ {ls : List (List Bs)}, (∀ l ∈ ls, 0 < l.length) -> kz (ls.map zh9) = some ls
 | [], _ => rfl
 | l :: ls, h => by
  rw [List.map_cons, kz, zqc (h l (by simp)), znj (fun x hx => h x (by simp [hx]))]
  rfl
theorem decP_doc {ls : List (List Bs)} (h : DocOk ls) : decP (doc ls) = (ls, 0) := by
 have h0 : ∀ l ∈ ls, 0 < l.length := fun l hl => (h.line l hl).1
 have hlen : (doc ls).length = jl ls ls.length := by rw [← ze0]; exact zeq h0 _ (zvs _)
 have hf : zw ls = 0 := ui.2 fun l hl => zcw.2 (h.line l hl)
 unfold decP
 rw [if_neg (by rw [hlen]; have := h.size; omega), zm2, zdu, znj h0]
 simp only [hf, if_true]
 rw [if_pos h.lines]
theorem dec_next {n : Nat} (h : ¬ n < 10) : Lib.decDigits n = Lib.decDigits (n / 10) ++ [UInt8.ofNat (48 + n % 10)] := by
 rw [Lib.decDigits, dif_neg h]
theorem u8_dig {n : Nat} (h : n < 10) : (UInt8.ofNat (48 + n)).toNat = 48 + n := by
 rw [UInt8.toNat_ofNat']; omega
theorem zuk : ∀ n : Nat, yq (Lib.decDigits n) = true /\ valD (Lib.decDigits n) = n /\ 1 ≤ (Lib.decDigits n).length /\ (0 < n -> (Lib.decDigits n).head? ≠ some 48) := by
 intro n
 induction n using Nat.strongRecOn with
 | _ n ih =>
  by_cases h : n < 10
  ·rw [Lib.decDigits_one h]
   have e := u8_dig h
   refine ⟨?_, ?_, by simp, fun h0 => ?_⟩
   ·simp [yq, e]; omega
   ·show 10 * 0 + ((UInt8.ofNat (48 + n)).toNat - 48) = n
    rw [e]; omega
   ·intro e2
    simp only [List.head?_cons, Option.some.injEq] at e2
    rw [e2] at e
    have : (48 : UInt8).toNat = 48 := rfl
    omega
  ·rw [dec_next h]
   obtain ⟨h1, h2, h3, h4⟩ := ih (n / 10) (by omega)
   have e := u8_dig (n := n % 10) (by omega)
   refine ⟨?_, ?_, by simp, fun h0 => ?_⟩
   ·unfold yq at h1 ⊢
    rw [List.all_append, h1]
    simp [e]; omega
   ·unfold valD at h2 ⊢
    rw [List.foldl_append, h2]
    simp [e]; omega
   ·have h5 := h4 (by omega)
    cases hd : Lib.decDigits (n / 10) with
    | nil => rw [hd] at h3; simp at h3
    | cons a r => rw [hd] at h5; simpa using h5
theorem zro {n : Nat} (h : n ≤ 1099511627776) : numP (Lib.decDigits n) = ((n : Int), true) := by
 obtain ⟨h1, h2, h3, h4⟩ := zuk n
 have h5 := zi1 (n := n) (by omega)
 have h6 : ¬ (1 < (Lib.decDigits n).length /\ (Lib.decDigits n).head? = some 48) := by
  rintro ⟨h6, h7⟩
  by_cases h0 : 0 < n
  ·exact h4 h0 h7
  ·obtain rfl : n = 0 := by omega
   rw [Lib.decDigits_one (by omega)] at h6
   simp at h6
 unfold numP
 rw [if_pos ⟨h3, h5, h6, h1, by omega⟩, h2]
end V
open Go.RowKit
namespace V
def vh : List Bs -> Aff × Bool
 | [a, s, n, r] => if a = affW then (⟨qh s, n, (parP (qh s) r).1, (parP (qh s) r).2.1⟩, decide (0 < qh s) && decide ((parP (qh s) r).2.2 = 0)) else (zA, false)
 | _ => (zA, false)
theorem zms {l : List Bs} (h : l.length ≠ 4) : vh l = (zA, false) := by
 unfold vh
 split
 ·simp at h
 ·rfl
theorem zj1 {a s n r : Bs} (h : ¬ a = affW) : vh [a, s, n, r] = (zA, false) := by simp [vh, h]
theorem zfw (s n r : Bs) : vh [affW, s, n, r] = (⟨qh s, n, (parP (qh s) r).1, (parP (qh s) r).2.1⟩, decide (0 < qh s) && decide ((parP (qh s) r).2.2 = 0)) := by simp [vh]
def ks : List (List Bs) -> Option (List Aff)
 | [] => some []
 | l :: r => if (vh l).2 = true then (ks r).map ((vh l).1 :: ·) else none
def vx (R : List (List Bs)) (k : Nat) (out : List Aff) : Prop := ks R = (ks (R.drop k)).map (out ++ ·)
theorem zgr (R : List (List Bs)) : vx R 0 [] := by
 unfold vx
 rw [List.drop_zero]
 cases ks R <;> rfl
theorem zkz {R : List (List Bs)} {k : Nat} {out : List Aff} (h : vx R k out) (hk : k < R.length) (hr : (vh R[k]).2 = false) : ks R = none := by
 unfold vx at h
 rw [h, List.drop_eq_getElem_cons hk, ks, hr]
 rfl
theorem zgq {R : List (List Bs)} {k : Nat} {out : List Aff} (h : vx R k out) (hk : k < R.length) (hr : (vh R[k]).2 = true) : vx R (k + 1) (out ++ [(vh R[k]).1]) := by
 unfold vx at h ⊢
 rw [h, List.drop_eq_getElem_cons hk, ks, hr]
 cases ks (R.drop (k + 1)) with
 | none => rfl
 | some ys => simp
theorem zii {R : List (List Bs)} {out : List Aff} (h : vx R R.length out) : ks R = some out := by
 unfold vx at h
 rw [h, List.drop_length]
 simp [ks]
def jk : List (List Bs) -> Option Adv
 | [a, i, r, s] :: rest => if a = advW /\ (numP r).2 = true /\ (numP s).2 = true then (ks rest).map fun l => ⟨i, (numP r).1, (numP s).1, l⟩ else none
 | _ => none
theorem zne {l : List Bs} {rest : List (List Bs)} (h : ¬ l.length = 4) : jk (l :: rest) = none := by
 match l, h with
 | [], _ => rfl
 | [_], _ => rfl
 | [_, _], _ => rfl
 | [_, _, _], _ => rfl
 | [_, _, _, _], h => exact absurd rfl h
 | _ :: _ :: _ :: _ :: _ :: _, _ => rfl
theorem zbr (a i r s : Bs) (rest : List (List Bs)) : jk ([a, i, r, s] :: rest) = if a = advW /\ (numP r).2 = true /\ (numP s).2 = true then (ks rest).map fun l => ⟨i, (numP r).1, (numP s).1, l⟩ else none := rfl
def decV (b : Bs) : Adv × Int := if (decP b).2 ≠ 0 then (zV, (decP b).2) else
 match jk (decP b).1 with
 | none => (zV, 2)
 | some x => if (encV x).2 = 0 /\ (encV x).1 = b then (x, 0) else (zV, 1)
theorem zkt {b : Bs} {ls : List (List Bs)} {c : Int} (h : decP b = (ls, c)) (hc : ¬ c = 0) : decV b = (zV, c) := by
 unfold decV; rw [h]; simp [hc]
theorem zhp {b : Bs} {ls : List (List Bs)} (h : decP b = (ls, 0)) (hr : jk ls = none) : decV b = (zV, 2) := by
 unfold decV; rw [h]; simp [hr]
theorem ze1 {b : Bs} {ls : List (List Bs)} {x : Adv} (h : decP b = (ls, 0)) (hr : jk ls = some x) : decV b = if (encV x).2 = 0 /\ (encV x).1 = b then (x, 0) else (zV, 1) := by
 unfold decV; rw [h]; simp only [ne_eq, not_true_eq_false, if_false, hr]
theorem zr7 {a : Aff} (h : kt a = true) : vh (uk a) = (a, true) := by
 obtain ⟨_, h2, _, h4⟩ := yk h
 have hs := okR_sch h4
 have hp : parP a.sch (xl a.its) = (a.sch, a.its, 0) := zvc (zsg (zca h4))
 obtain ⟨s, n, r, its⟩ := a
 simp only at h2 h4 hs hp
 subst h2
 unfold uk
 simp only
 rw [zfw, zhv hs, hp]
 have : (0 : Int) < r := by omega
 simp [this]
theorem zfy : ∀ {l : List Aff}, (∀ a ∈ l, kt a = true) -> ks (l.map uk) = some l
 | [], _ => rfl
 | a :: l, h => by
  rw [List.map_cons, ks, zr7 (h a (by simp)), zfy (fun x hx => h x (by simp [hx]))]
  rfl
theorem zux {x : Adv} (h : qp x = true) : jk (qi x) = some x := by
 have hp := jh h
 obtain ⟨i, r, s, l⟩ := x
 have e1 := hp.rev0
 have e2 := hp.rev1
 have e3 := hp.sev0
 have e4 := hp.sev1
 simp only at e1 e2 e3 e4
 show jk (xo ⟨i, r, s, l⟩ :: (l.take l.length).map uk) = _
 unfold xo
 simp only
 rw [zbr, List.take_length, zfy (fun a ha => hp.sound ha), zro (by omega), zro (by omega)]
 have f1 : ((r.toNat : Nat) : Int) = r := by omega
 have f2 : ((s.toNat : Nat) : Int) = s := by omega
 simp [f1, f2]
theorem zi7 {x : Adv} (h : (encV x).2 = 0) : qp x = true /\ encE (qi x) = 0 /\ (encV x).1 = doc (qi x) := by
 unfold encV at h ⊢
 split at h
 ·rename_i h1
  split at h
  ·rename_i h2
   rw [if_pos h1, if_pos h2]
   exact ⟨h1, h2, rfl⟩
  ·rename_i h2
   exact absurd h h2
 ·cases h
theorem decV_enc {x : Adv} (h : (encV x).2 = 0) : decV (encV x).1 = (x, 0) := by
 obtain ⟨h1, h2, h3⟩ := zi7 h
 rw [h3, ze1 (decP_doc (zen h2)) (zux h1), if_pos ⟨h, h3⟩]
end V
end Go.Proofs.YtiloljoancdcbaaGreatDoor
