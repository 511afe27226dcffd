import Derived.Test.YtcfbkcapbbhmpaaGreatDoorC39x10
import Derived.Test.YtcfbkcapbbhmpaaGreatDoorC39x09
import Derived.Test.YtcfbkcapbbhmpaaGreatDoorC39x13
import Derived.Test.YtcfbkcapbbhmpaaGreatDoorC39x22
import Derived.Test.YtcfbkcapbbhmpaaGreatDoorC39x11
import Derived.Outline
set_option linter.all false
set_option maxRecDepth 100000
set_option maxHeartbeats 12800000
namespace Go.Proofs.YtcfbkcapbbhmpaaGreatDoor
open Go.RowKit
namespace V
def yz (s : Bs) : Bool := s.all fun c => decide (48 ≤ c.toNat) && decide (c.toNat ≤ 57)
def valD (s : Bs) : Nat := s.foldl (fun n c => 10 * n + (c.toNat - 48)) 0
def numP (s : Bs) : Int × Bool := if 1 ≤ s.length /\ s.length ≤ 13 /\ ¬ (1 < s.length /\ s.head? = some 48) /\ yz s = true /\ valD s ≤ 1099511627776 then ((valD s : Nat), true) else (0, false)
theorem zhy {s : Bs} {k : Nat} (h : k < s.length) : valD (s.take (k + 1)) = 10 * valD (s.take k) + (s[k].toNat - 48) := by
 unfold valD
 rw [List.take_succ_eq_append_getElem h, List.foldl_append]
 rfl
theorem zpl {s : Bs} (hd : yz s = true) : ∀ k, k ≤ s.length -> valD (s.take k) < 10 ^ k
 | 0, _ => by simp [valD]
 | k + 1, h => by
  rw [zhy (by omega), Nat.pow_succ]
  have h1 := zpl hd k (by omega)
  unfold yz at hd
  rw [List.all_eq_true] at hd
  have h2 := hd _ (List.getElem_mem (show k < s.length by omega))
  simp at h2
  omega
theorem ziy {s : Bs} {k : Nat} (h : k < s.length) : yz (s.take (k + 1)) = (yz (s.take k) && (decide (48 ≤ s[k].toNat) && decide (s[k].toNat ≤ 57))) := by
 unfold yz
 rw [List.take_succ_eq_append_getElem h, List.all_append]
 simp
theorem znu {s : Bs} {k : Nat} (h : k < s.length) (hd : s[k].toNat < 48 ∨ 57 < s[k].toNat) : yz s = false := by
 unfold yz
 rw [List.all_eq_false]
 exact ⟨_, List.getElem_mem h, by simp; omega⟩
theorem zhf {s : Bs} (h : s.length = 0 ∨ 13 < s.length ∨ (1 < s.length /\ s.head? = some 48)) : numP s = (0, false) := by
 unfold numP
 rw [if_neg]
 rintro ⟨h1, h2, h3, _⟩
 rcases h with h | h | h
 ·omega
 ·omega
 ·exact h3 h
theorem zn3 {s : Bs} (h1 : 1 ≤ s.length) (h2 : s.length ≤ 13) (h3 : ¬ (1 < s.length /\ s.head? = some 48)) : numP s = if yz s = true /\ valD s ≤ 1099511627776 then (((valD s : Nat) : Int), true) else (0, false) := by
 unfold numP
 by_cases hd : yz s = true /\ valD s ≤ 1099511627776
 ·rw [if_pos hd, if_pos ⟨h1, h2, h3, hd.1, hd.2⟩]
 ·rw [if_neg hd, if_neg (fun e => hd ⟨e.2.2.2.1, e.2.2.2.2⟩)]
end V
theorem zwr {P : Prop} (h : P := by
 obtain ⟨k, hk, rfl, rfl, hd⟩ := hrel
 have HD := zwe hd
 clear hd
 by_cases hlt : k < s.size
 ·have he : s.data.toList[k]'(by omega) = s[k] := by simp; rfl
  have HST := zwe (V.zhy (s := s.data.toList) (k := k) (by omega))
  have HDT := zwe (V.ziy (s := s.data.toList) (k := k) (by omega))
  have HNO := zwe (V.znu (s := s.data.toList) (k := k) (by omega))
  have hb : V.valD (s.data.toList.take k) < 10000000000000 := by
   have h1 := V.zpl (s := s.data.toList.take k) HD.out k (by rw [List.length_take]; omega)
   rw [List.take_take, Nat.min_self] at h1
   have h2 : 10 ^ k ≤ 10 ^ 13 := Nat.pow_le_pow_right (by decide) (by omega)
   omega
  rw [he] at HST HDT HNO
  have hs1 : (0 : Int) ≤ (k : Int) := by omega
  have hs2 : (k : Int) < (s.size : Int) := by omega
  obtain ⟨N, hN⟩ : ∃ N, N = V.valD (s.data.toList.take k) := ⟨_, rfl⟩
  rw [← hN] at HST hb ⊢
  clear hN he
  by_cases hdg : s[k].toNat < 48 ∨ 57 < s[k].toNat
  ·have HP : Hid (V.numP s.data.toList = (0, false)) := zwe (by rw [HG.out, if_neg (fun e => by rw [HNO.out hdg] at e; cases e.1)])
   rcases hdg with hdg | hdg
   ·have q6 : (s[k].toNat : Int) < 48 := by omega
    go_wp2
    go_ret2
    exact ⟨by rw [HP.out]; rfl, rfl⟩
   ·have q6 : ¬ (s[k].toNat : Int) < 48 := by omega
    have q7 : (57 : Int) < (s[k].toNat : Int) := by omega
    go_wp2
    go_ret2
    exact ⟨by rw [HP.out]; rfl, rfl⟩
  ·have q6 : ¬ (s[k].toNat : Int) < 48 := by omega
   have q7 : ¬ (57 : Int) < (s[k].toNat : Int) := by omega
   have w1 : IntKind.i64.wrap (10 * (N : Int)) = 10 * (N : Int) := by unfold IntKind.wrap; simp [IntKind.signed, IntKind.bits]; omega
   have w2 : IntKind.u8.wrap ((s[k].toNat : Int) - 48) = (s[k].toNat : Int) - 48 := by unfold IntKind.wrap; simp [IntKind.signed, IntKind.bits]; omega
   have w3 : IntKind.i64.wrap ((s[k].toNat : Int) - 48) = (s[k].toNat : Int) - 48 := by unfold IntKind.wrap; simp [IntKind.signed, IntKind.bits]; omega
   have w4 : IntKind.i64.wrap (10 * (N : Int) + ((s[k].toNat : Int) - 48)) = 10 * (N : Int) + ((s[k].toNat : Int) - 48) := by unfold IntKind.wrap; simp [IntKind.signed, IntKind.bits]; omega
   have HN2 : Hid ((V.yz (s.data.toList.take (k + 1)) = true) /\ 10 * (N : Int) + ((s[k].toNat : Int) - 48) = ((V.valD (s.data.toList.take (k + 1)) : Nat) : Int)) := zwe ⟨by rw [HDT.out, HD.out]; simp; omega, by rw [HST.out]; omega⟩
   go_wp2
   go_round
   case rel => exact ⟨k + 1, by omega, by go_num, congrArg (Value.int .i64) HN2.out.2, HN2.out.1⟩
   case measure => simp [intOf]; omega
 ·obtain rfl : k = s.size := by omega
  have ht : s.data.toList.take s.size = s.data.toList := List.take_of_length_le (by omega)
  rw [ht] at HD ⊢
  by_cases hmx : V.valD s.data.toList ≤ 1099511627776
  ·have HP : Hid (V.numP s.data.toList = (((V.valD s.data.toList : Nat) : Int), true)) := zwe (by rw [HG.out, if_pos ⟨HD.out, hmx⟩])
   have q8 : ¬ (1099511627776 : Int) < ((V.valD s.data.toList : Nat) : Int) := by omega
   clear hl ht
   go_wp2
   go_ret2
   exact ⟨by rw [HP.out]; rfl, rfl⟩
  ·have HP : Hid (V.numP s.data.toList = (0, false)) := zwe (by rw [HG.out, if_neg (fun e => hmx e.2)])
   have q8 : (1099511627776 : Int) < ((V.valD s.data.toList : Nat) : Int) := by omega
   clear hl ht
   go_wp2
   go_ret2
   exact ⟨by rw [HP.out]; rfl, rfl⟩) : P := h
theorem zx3 {P : Prop} (h : P := by
 have hne : ¬ s[0] = 48 -> (¬ ((s[0].toNat : Int) = 48) /\ ((s[0].toNat : Int) == 48) = false) := fun h => by
  have : ¬ ((s[0].toNat : Int) = 48) := fun e => h (by apply UInt8.toNat_inj.1; have : s[0].toNat = 48 := by omega
                                                       rw [this]; rfl)
  exact ⟨this, by rw [zwi]; exact this⟩
 by_cases h1 : 1 < s.size
 ·exact .inr (.inr ⟨by omega, hne (fun e => hz ⟨h1, by rw [HC0.out]; exact e⟩)⟩)
 ·by_cases h2 : s[0] = 48
  ·exact .inl ⟨by omega, h2⟩
  ·exact .inr (.inl ⟨by omega, hne h2⟩)) : P := h
theorem zy9 {P : Prop} (h : P := by
 go_wp2
 go_ret2
 exact ⟨by rw [HP.out]; rfl, rfl⟩) : P := h
theorem z1u {P : Prop} (h : P := by
 rw [Lib.toList_data]
 cases hq : s.data.toList with
 | nil => rw [hq] at hl; exact absurd hl.symm h0
 | cons c r => rfl) : P := h
theorem zb2 (s : ByteArray) (w : World) (hs : s.size ≤ maxLen) : Calls Tryz.prog 52 #[.string s] w fun e w' => e = .returned (.tuple #[.int .i64 (V.numP s.data.toList).1, .bool (V.numP s.data.toList).2]) /\ w' = w := by
 have hl := zf s
 unfold maxLen at hs
 by_cases h0 : s.size = 0
 ·have hs0 : s = ⟨#[]⟩ := jk (by rw [List.length_eq_zero_iff.1 (by omega : s.data.toList.length = 0)])
  subst hs0
  go_enter Tryz.func52, Tryz.ntmps52
  go_wp2
  go_ret2
  exact ⟨rfl, rfl⟩
 have q1 : ¬ (s.size : Int) < 1 := by omega
 have h00 : 0 < s.size := by omega
 have he0 : s.data.toList[0]'(by omega) = s[0] := by simp; rfl
 have hhead : s.data.toList.head? = some (s[0]) := by rw [← he0, List.head?_eq_getElem?, List.getElem?_eq_getElem]
 obtain ⟨c0, hc0⟩ : ∃ c0, c0 = s[0] := ⟨_, rfl⟩
 rw [← hc0] at hhead
 have HC0 := zwe hc0
 clear he0 hc0
 by_cases h13 : 13 < s.size
 ·have HP := zwe (V.zhf (s := s.data.toList) (.inr (.inl (by omega))))
  have q2 : (13 : Int) < (s.size : Int) := by omega
  clear hl
  go_enter Tryz.func52, Tryz.ntmps52
  exact zy9
 have q2 : ¬ (13 : Int) < (s.size : Int) := by omega
 by_cases hz : 1 < s.size /\ c0 = 48
 ·have HP := zwe (V.zhf (s := s.data.toList) (.inr (.inr ⟨by omega, by rw [hhead, hz.2]⟩)))
  have q3 : (1 : Int) < (s.size : Int) := by omega
  have q4 : s[0] = 48 := by rw [← HC0.out]; exact hz.2
  clear hl hhead hz
  go_enter Tryz.func52, Tryz.ntmps52
  exact zy9
 have HG := zwe (V.zn3 (s := s.data.toList) (by omega) (by omega) (fun e => hz ⟨by omega, by rw [hhead] at e; exact Option.some.inj e.2⟩))
 have hsz13 : s.size ≤ 13 := by omega
 have hcase : (¬ (1 : Int) < (s.size : Int) /\ s[0] = 48) ∨ (¬ (1 : Int) < (s.size : Int) /\ (¬ ((s[0].toNat : Int) = 48) /\ ((s[0].toNat : Int) == 48) = false)) ∨ ((1 : Int) < (s.size : Int) /\ (¬ ((s[0].toNat : Int) = 48) /\ ((s[0].toNat : Int) == 48) = false)) := by
  exact zx3
 have hse : s.toList.isEmpty = false := by
  exact z1u
 clear hz hhead
 rcases hcase with ⟨q3, q4⟩ | ⟨q3, q4, q5⟩ | ⟨q3, q4, q5⟩
 all_goals
  go_enter Tryz.func52, Tryz.ntmps52
  go_wp2
  go_loop [4, 5] (fun nv iv => ∃ k : Nat, k ≤ s.size /\ iv = .int .i64 k /\ nv = .int .i64 ((V.valD (s.data.toList.take k) : Nat) : Int) /\ V.yz (s.data.toList.take k) = true) (fun _ iv => s.size - (intOf iv).toNat)
  case atStart => exact ⟨0, Nat.zero_le _, rfl, rfl, rfl⟩
  case round =>
   exact zwr
theorem za5 (s : ByteArray) (w : World) (hs : s.size ≤ maxLen) : Calls Tryz.prog 28 #[.string s] w fun e w' => e = .returned (.tuple #[.int .i64 (V.numP s.data.toList).1, .bool (V.numP s.data.toList).2]) /\ w' = w := by
 have hl := zf s
 unfold maxLen at hs
 by_cases h0 : s.size = 0
 ·have hs0 : s = ⟨#[]⟩ := jk (by rw [List.length_eq_zero_iff.1 (by omega : s.data.toList.length = 0)])
  subst hs0
  go_enter Tryz.func28, Tryz.ntmps28
  go_wp2
  go_ret2
  exact ⟨rfl, rfl⟩
 have hse : s.toList.isEmpty = false := by
  exact z1u
 have q1 : ¬ (s.size : Int) < 1 := by omega
 have h00 : 0 < s.size := by omega
 have he0 : s.data.toList[0]'(by omega) = s[0] := by simp; rfl
 have hhead : s.data.toList.head? = some (s[0]) := by rw [← he0, List.head?_eq_getElem?, List.getElem?_eq_getElem]
 obtain ⟨c0, hc0⟩ : ∃ c0, c0 = s[0] := ⟨_, rfl⟩
 rw [← hc0] at hhead
 have HC0 := zwe hc0
 clear he0 hc0
 by_cases h13 : 13 < s.size
 ·have HP := zwe (V.zhf (s := s.data.toList) (.inr (.inl (by omega))))
  have q2 : (13 : Int) < (s.size : Int) := by omega
  clear hl
  go_enter Tryz.func28, Tryz.ntmps28
  exact zy9
 have q2 : ¬ (13 : Int) < (s.size : Int) := by omega
 by_cases hz : 1 < s.size /\ c0 = 48
 ·have HP := zwe (V.zhf (s := s.data.toList) (.inr (.inr ⟨by omega, by rw [hhead, hz.2]⟩)))
  have q3 : (1 : Int) < (s.size : Int) := by omega
  have q4 : s[0] = 48 := by rw [← HC0.out]; exact hz.2
  clear hl hhead hz
  go_enter Tryz.func28, Tryz.ntmps28
  exact zy9
 have HG := zwe (V.zn3 (s := s.data.toList) (by omega) (by omega) (fun e => hz ⟨by omega, by rw [hhead] at e; exact Option.some.inj e.2⟩))
 have hsz13 : s.size ≤ 13 := by omega
 have hcase : (¬ (1 : Int) < (s.size : Int) /\ s[0] = 48) ∨ (¬ (1 : Int) < (s.size : Int) /\ (¬ ((s[0].toNat : Int) = 48) /\ ((s[0].toNat : Int) == 48) = false)) ∨ ((1 : Int) < (s.size : Int) /\ (¬ ((s[0].toNat : Int) = 48) /\ ((s[0].toNat : Int) == 48) = false)) := by
  exact zx3
 clear hz hhead
 rcases hcase with ⟨q3, q4⟩ | ⟨q3, q4, q5⟩ | ⟨q3, q4, q5⟩
 all_goals
  go_enter Tryz.func28, Tryz.ntmps28
  go_wp2
  go_loop [4, 5] (fun nv iv => ∃ k : Nat, k ≤ s.size /\ iv = .int .i64 k /\ nv = .int .i64 ((V.valD (s.data.toList.take k) : Nat) : Int) /\ V.yz (s.data.toList.take k) = true) (fun _ iv => s.size - (intOf iv).toNat)
  case atStart => exact ⟨0, Nat.zero_le _, rfl, rfl, rfl⟩
  case round =>
   exact zwr
open Go.RowKit
namespace V
theorem zuq : ∀ n : Fin 16, hexV (digU.getD n.val 0) = some n.val := by decide +kernel
theorem u8_parts (c : UInt8) : UInt8.ofNat (16 * (c.toNat / 16) + c.toNat % 16) = c := by
 rw [Nat.div_add_mod]; exact UInt8.ofNat_toNat
theorem zf6 : ∀ w : Bs, qv (w.flatMap encB) = some w
 | [] => rfl
 | c :: w => by
  rw [List.flatMap_cons, encB]
  by_cases hp : jd c = true
  ·rw [if_pos hp, List.cons_append, List.nil_append, zd9 hp, zf6 w]; rfl
  ·rw [if_neg hp]
   have hc := c.toNat_lt
   have h1 := zuq ⟨c.toNat / 16, by omega⟩
   have h2 := zuq ⟨c.toNat % 16, by omega⟩
   show qv (37 :: digU.getD (c.toNat / 16) 0 :: digU.getD (c.toNat % 16) 0 :: w.flatMap encB) = _
   rw [zhw h1 h2, u8_parts, if_neg hp, zf6 w]; rfl
theorem zrm : ∀ n : Fin 16, 48 ≤ (digU.getD n.val 0).toNat /\ (digU.getD n.val 0).toNat ≤ 70 := by decide +kernel
theorem zqs {c b : UInt8} (h : b ∈ encB c) : 33 ≤ b.toNat /\ b.toNat ≤ 125 := by
 unfold encB at h
 have hc := c.toNat_lt
 split at h
 ·rename_i hp
  simp only [List.mem_singleton] at h
  subst h
  simp [jd] at hp
  omega
 ·have h1 := zrm ⟨c.toNat / 16, by omega⟩
  have h2 := zrm ⟨c.toNat % 16, by omega⟩
  simp only at h1 h2
  simp only [List.mem_cons, List.not_mem_nil, or_false] at h
  rcases h with rfl | rfl | rfl
  ·decide
  ·omega
  ·omega
theorem zr9 {w : Bs} {b : UInt8} (h : b ∈ word w) : 33 ≤ b.toNat /\ b.toNat ≤ 126 := by
 unfold word at h
 split at h
 ·simp only [List.mem_singleton] at h; subst h; decide
 ·obtain ⟨c, _, hb⟩ := List.mem_flatMap.1 h
  have := zqs hb
  omega
theorem unwR_w (w : Bs) : unwR (word w) = some w := by
 unfold word
 cases w with
 | nil => rfl
 | cons c w =>
  rw [if_neg (by simp)]
  unfold unwR
  have hne : ¬ (c :: w).flatMap encB = [126] := by
   intro e
   have hb : (126 : UInt8) ∈ (c :: w).flatMap encB := by rw [e]; simp
   obtain ⟨d, _, hd⟩ := List.mem_flatMap.1 hb
   have := zqs hd
   have e2 : (126 : UInt8).toNat = 126 := rfl
   omega
  rw [if_neg hne, zf6]
  simp
theorem zei (c : UInt8) : ∀ x y : Bs, zd c (x ++ c :: y) = zd c x ++ zd c y
 | [], y => by simp [zd]
 | a :: x, y => by
  rw [List.cons_append, zd, zd, zei c x y]
  split
  ·rfl
  ·cases hq : zd c x with
   | nil => exact absurd hq (zb5 c x)
   | cons z r => rfl
theorem zuj {w : Bs} {c : UInt8} (h : c.toNat < 33) : c ∉ word w := fun hc => by have := zr9 hc; omega
theorem zl2 {l : List Bs} : ∀ k, k + 1 ≤ l.length -> zd 32 (jt l (k + 1)) = (l.take (k + 1)).map word
 | 0, h => by
  rw [zav, if_pos rfl]
  show zd 32 ([] ++ ([] ++ word (l.getD 0 []))) = _
  rw [List.nil_append, List.nil_append, ka (zuj (by decide))]
  cases l with
  | nil => simp at h
  | cons a l => simp
 | k + 1, h => by
  rw [zav, if_neg (by omega), List.singleton_append, zei, zl2 k (by omega), ka (zuj (by decide)), List.take_succ_eq_append_getElem (show k + 1 < l.length by omega), List.map_append]
  simp [List.getD_eq_getElem?_getD, List.getElem?_eq_getElem (show k + 1 < l.length by omega)]
theorem zlx : ∀ l : List Bs, qg (l.map word) = some l
 | [] => rfl
 | w :: l => by rw [List.map_cons, qg, unwR_w, zlx l]; rfl
def zim (l : List Bs) : Bs := jt l l.length
theorem zq1 {l : List Bs} (h : 0 < l.length) : qg (zd 32 (zim l)) = some l := by
 obtain ⟨k, hk⟩ : ∃ k, l.length = k + 1 := ⟨l.length - 1, by omega⟩
 unfold zim
 rw [hk, zl2 k (by omega), ← hk, List.take_length, zlx]
theorem lineB_no (l : List Bs) : (10 : UInt8) ∉ zim l := by
 unfold zim jt
 intro h
 obtain ⟨i, _, hi⟩ := List.mem_flatMap.1 h
 rw [List.mem_append] at hi
 rcases hi with hi | hi
 ·split at hi
  ·simp at hi
  ·simp at hi
 ·have := zr9 hi
  have e : (10 : UInt8).toNat = 10 := rfl
  omega
theorem znl : ∀ ls : List (List Bs), zd 10 (doc ls) = ls.map zim ++ [[]]
 | [] => rfl
 | l :: ls => by
  have e : doc (l :: ls) = zim l ++ 10 :: doc ls := by simp [doc, line, zim]
  rw [e, zei, ka (lineB_no l), znl ls]
  rfl
theorem zn2 : ∀ {ls : List (List Bs)}, (∀ l ∈ ls, 0 < l.length) -> xd (ls.map zim) = some ls
 | [], _ => rfl
 | l :: ls, h => by
  rw [List.map_cons, xd, zq1 (h l (by simp)), zn2 (fun x hx => h x (by simp [hx]))]
  rfl
theorem decP_doc {ls : List (List Bs)} (h : DocOk ls) : decP (doc ls) = (ls, 0) := by
 have h0 : ∀ l ∈ ls, 0 < l.length := fun l hl => (h.line l hl).1
 have hlen : (doc ls).length = jp ls ls.length := by rw [← zfb]; exact ze3 h0 _ (zwg _)
 have hf : zx ls = 0 := ut.2 fun l hl => zc5.2 (h.line l hl)
 unfold decP
 rw [if_neg (by rw [hlen]; have := h.size; omega), znl, zd6, zn2 h0]
 simp only [hf, if_true]
 rw [if_pos h.lines]
theorem dec_next {n : Nat} (h : ¬ n < 10) : Lib.decDigits n = Lib.decDigits (n / 10) ++ [UInt8.ofNat (48 + n % 10)] := by
 rw [Lib.decDigits, dif_neg h]
theorem u8_dig {n : Nat} (h : n < 10) : (UInt8.ofNat (48 + n)).toNat = 48 + n := by
 rw [UInt8.toNat_ofNat']; omega
theorem zu9 : ∀ n : Nat, yz (Lib.decDigits n) = true /\ valD (Lib.decDigits n) = n /\ 1 ≤ (Lib.decDigits n).length /\ (0 < n -> (Lib.decDigits n).head? ≠ some 48) := by
 intro n
 induction n using Nat.strongRecOn with
 | _ n ih =>
  by_cases h : n < 10
  ·rw [Lib.decDigits_one h]
   have e := u8_dig h
   refine ⟨?_, ?_, by simp, fun h0 => ?_⟩
   ·simp [yz, e]; omega
   ·show 10 * 0 + ((UInt8.ofNat (48 + n)).toNat - 48) = n
    rw [e]; omega
   ·intro e2
    simp only [List.head?_cons, Option.some.injEq] at e2
    rw [e2] at e
    have : (48 : UInt8).toNat = 48 := rfl
    omega
  ·rw [dec_next h]
   obtain ⟨h1, h2, h3, h4⟩ := ih (n / 10) (by omega)
   have e := u8_dig (n := n % 10) (by omega)
   refine ⟨?_, ?_, by simp, fun h0 => ?_⟩
   ·unfold yz at h1 ⊢
    rw [List.all_append, h1]
    simp [e]; omega
   ·unfold valD at h2 ⊢
    rw [List.foldl_append, h2]
    simp [e]; omega
   ·have h5 := h4 (by omega)
    cases hd : Lib.decDigits (n / 10) with
    | nil => rw [hd] at h3; simp at h3
    | cons a r => rw [hd] at h5; simpa using h5
theorem zsg {n : Nat} (h : n ≤ 1099511627776) : numP (Lib.decDigits n) = ((n : Int), true) := by
 obtain ⟨h1, h2, h3, h4⟩ := zu9 n
 have h5 := zjf (n := n) (by omega)
 have h6 : ¬ (1 < (Lib.decDigits n).length /\ (Lib.decDigits n).head? = some 48) := by
  rintro ⟨h6, h7⟩
  by_cases h0 : 0 < n
  ·exact h4 h0 h7
  ·obtain rfl : n = 0 := by omega
   rw [Lib.decDigits_one (by omega)] at h6
   simp at h6
 unfold numP
 rw [if_pos ⟨h3, h5, h6, h1, by omega⟩, h2]
end V
open Go.RowKit
namespace V
def vs : List Bs -> Aff × Bool
 | [a, s, n, r] => if a = affW then (⟨qh s, n, (parP (qh s) r).1, (parP (qh s) r).2.1⟩, decide (0 < qh s) && decide ((parP (qh s) r).2.2 = 0)) else (zA, false)
 | _ => (zA, false)
theorem zna {l : List Bs} (h : l.length ≠ 4) : vs l = (zA, false) := by
 unfold vs
 split
 ·simp at h
 ·rfl
theorem zkj {a s n r : Bs} (h : ¬ a = affW) : vs [a, s, n, r] = (zA, false) := by simp [vs, h]
theorem zgb (s n r : Bs) : vs [affW, s, n, r] = (⟨qh s, n, (parP (qh s) r).1, (parP (qh s) r).2.1⟩, decide (0 < qh s) && decide ((parP (qh s) r).2.2 = 0)) := by simp [vs]
def kw : List (List Bs) -> Option (List Aff)
 | [] => some []
 | l :: r => if (vs l).2 = true then (kw r).map ((vs l).1 :: ·) else none
def wm (R : List (List Bs)) (k : Nat) (out : List Aff) : Prop := kw R = (kw (R.drop k)).map (out ++ ·)
theorem zg6 (R : List (List Bs)) : wm R 0 [] := by
 unfold wm
 rw [List.drop_zero]
 cases kw R <;> rfl
theorem zlh {R : List (List Bs)} {k : Nat} {out : List Aff} (h : wm R k out) (hk : k < R.length) (hr : (vs R[k]).2 = false) : kw R = none := by
 unfold wm at h
 rw [h, List.drop_eq_getElem_cons hk, kw, hr]
 rfl
theorem zg4 {R : List (List Bs)} {k : Nat} {out : List Aff} (h : wm R k out) (hk : k < R.length) (hr : (vs R[k]).2 = true) : wm R (k + 1) (out ++ [(vs R[k]).1]) := by
 unfold wm at h ⊢
 rw [h, List.drop_eq_getElem_cons hk, kw, hr]
 cases kw (R.drop (k + 1)) with
 | none => rfl
 | some ys => simp
theorem zix {R : List (List Bs)} {out : List Aff} (h : wm R R.length out) : kw R = some out := by
 unfold wm at h
 rw [h, List.drop_length]
 simp [kw]
def jm : List (List Bs) -> Option Adv
 | [a, i, r, s] :: rest => if a = advW /\ (numP r).2 = true /\ (numP s).2 = true then (kw rest).map fun l => ⟨i, (numP r).1, (numP s).1, l⟩ else none
 | _ => none
theorem znx {l : List Bs} {rest : List (List Bs)} (h : ¬ l.length = 4) : jm (l :: rest) = none := by
 match l, h with
 | [], _ => rfl
 | [_], _ => rfl
 | [_, _], _ => rfl
 | [_, _, _], _ => rfl
 | [_, _, _, _], h => exact absurd rfl h
 | _ :: _ :: _ :: _ :: _ :: _, _ => rfl
theorem zb0 (a i r s : Bs) (rest : List (List Bs)) : jm ([a, i, r, s] :: rest) = if a = advW /\ (numP r).2 = true /\ (numP s).2 = true then (kw rest).map fun l => ⟨i, (numP r).1, (numP s).1, l⟩ else none := rfl
def decV (b : Bs) : Adv × Int := if (decP b).2 ≠ 0 then (zV, (decP b).2) else
 match jm (decP b).1 with
 | none => (zV, 2)
 | some x => if (encV x).2 = 0 /\ (encV x).1 = b then (x, 0) else (zV, 1)
theorem zlb {b : Bs} {ls : List (List Bs)} {c : Int} (h : decP b = (ls, c)) (hc : ¬ c = 0) : decV b = (zV, c) := by
 unfold decV; rw [h]; simp [hc]
theorem zh2 {b : Bs} {ls : List (List Bs)} (h : decP b = (ls, 0)) (hr : jm ls = none) : decV b = (zV, 2) := by
 unfold decV; rw [h]; simp [hr]
theorem zfc {b : Bs} {ls : List (List Bs)} {x : Adv} (h : decP b = (ls, 0)) (hr : jm ls = some x) : decV b = if (encV x).2 = 0 /\ (encV x).1 = b then (x, 0) else (zV, 1) := by
 unfold decV; rw [h]; simp only [ne_eq, not_true_eq_false, if_false, hr]
theorem zs0 {a : Aff} (h : kh a = true) : vs (uw a) = (a, true) := by
 obtain ⟨_, h2, _, h4⟩ := yq h
 have hs := okR_sch h4
 have hp : parP a.sch (xm a.its) = (a.sch, a.its, 0) := zv2 (zs9 (zab h4))
 obtain ⟨s, n, r, its⟩ := a
 simp only at h2 h4 hs hp
 subst h2
 unfold uw
 simp only
 rw [zgb, zh8 hs, hp]
 have : (0 : Int) < r := by omega
 simp [this]
theorem zgd : ∀ {l : List Aff}, (∀ a ∈ l, kh a = true) -> kw (l.map uw) = some l
 | [], _ => rfl
 | a :: l, h => by
  rw [List.map_cons, kw, zs0 (h a (by simp)), zgd (fun x hx => h x (by simp [hx]))]
  rfl
theorem zvo {x : Adv} (h : qp x = true) : jm (qi x) = some x := by
 have hp := jh h
 obtain ⟨i, r, s, l⟩ := x
 have e1 := hp.rev0
 have e2 := hp.rev1
 have e3 := hp.sev0
 have e4 := hp.sev1
 simp only at e1 e2 e3 e4
 show jm (xp ⟨i, r, s, l⟩ :: (l.take l.length).map uw) = _
 unfold xp
 simp only
 rw [zb0, List.take_length, zgd (fun a ha => hp.sound ha), zsg (by omega), zsg (by omega)]
 have f1 : ((r.toNat : Nat) : Int) = r := by omega
 have f2 : ((s.toNat : Nat) : Int) = s := by omega
 simp [f1, f2]
theorem zjl {x : Adv} (h : (encV x).2 = 0) : qp x = true /\ encE (qi x) = 0 /\ (encV x).1 = doc (qi x) := by
 unfold encV at h ⊢
 split at h
 ·rename_i h1
  split at h
  ·rename_i h2
   rw [if_pos h1, if_pos h2]
   exact ⟨h1, h2, rfl⟩
  ·rename_i h2
   exact absurd h h2
 ·cases h
theorem decV_enc {x : Adv} (h : (encV x).2 = 0) : decV (encV x).1 = (x, 0) := by
 obtain ⟨h1, h2, h3⟩ := zjl h
 rw [h3, zfc (decP_doc (zho h2)) (zvo h1), if_pos ⟨h, h3⟩]
theorem zvc {b : Bs} (h : (decV b).2 = 0) : encV (decV b).1 = (b, 0) := by
 unfold decV at h ⊢
 split at h
 ·rename_i h1
  exact absurd h h1
 ·rename_i h1
  rw [if_neg h1]
  split at h
  ·cases h
  ·rename_i x hx
   split at h
   ·rename_i h2
    rw [if_pos h2]
    exact Prod.ext h2.2 h2.1
   ·cases h
end V
open Go.RowKit
theorem zaj {W : World} {X : Nat} {n : Int} {p : Option Addr} {m q : Nat} (h : W.heap[X]? = some (.cells #[.int .i64 n, .slice p m q] 45 (0, 0))) : W.cell? ⟨X, 0, none⟩ = some (.int .i64 n) /\ W.cell? ⟨X, 1, none⟩ = some (.slice p m q) :=
 ⟨zwd h 0, zwd h 1⟩
theorem zwy {P : Prop} (h : P := by
 have hor2 : m2 = n /\ V.altP n x = some l := by
  rcases HOR.out with ⟨h, _⟩ | ⟨_, h1, h2⟩
  ·cases h
  ·exact ⟨h1, h2⟩
 obtain ⟨rfl, hal⟩ := hor2
 have HAL := zwe hal
 have hbZ : Below w2.heap.size w2 ((w2.alloc (.cells #[.int .i64 m2, .slice p l.length q] 45)).alloc (.cells #[.int .i64 m2, .slice p l.length q] 45)) := ((zwh _ _).alloc (zwg _) _).alloc (by simp) _
 have HBZ := zwf HB2 hbZ
 have HUZ := zwe (HU.out.below hbZ)
 have HRZ := zwe (HROW.out.later HBZ.out)
 have HKL : Hid (us.length ≤ 10000) := zwe (by have := HKU.out; omega)
 have HSEP : Hid (l ≠ [] -> ∀ c, (Value.slice p l.length q).ownBlock = some c -> ∀ v, SetRow m2 W0.heap.size wr v us xs -> v.ownBlock ≠ some c) := zwe (fun _ c hc v hv e => by
   have h1 := HOW.out c hc
   have h2 := GRow.lt hv.row c e
   omega)
 clear hal hbZ
 go_wp2_with (first | (refine zd4 (zjs m2) (by decide) (zuy m2) zuc (by decide) rfl _ _ 97 rfl Tryz.underlying97 W0.heap.size _ us rfl HRZ.out.row (w2.heap.size + 1) ⟨p, l.length, q⟩ rfl (fun j u hj => by rw [ze]; simpa [slE, Sl.v] using hj) (by have := HKL.out; omega) (by have := HBX.out.size; have := HBZ.out.size; omega) ?_; intro v3 W3 hr3 hg3 ho3) | fail)
 have HR3 := zwe (HRZ.out.add (u := ⟨p, l.length, q⟩) hr3 hg3 ho3 HUZ.out (fun hl c hc => HSEP.out hl c hc _ HROW.out))
 have HB3 : Hid (Below W0.heap.size W0 W3) := zwe ((HBX.out.trans (HBZ.out.mono HBX.out.size)).trans ⟨hg3.os, hg3.tape, hg3.output, hg3.size, fun i hi => hg3.block i (by have := HBX.out.size; have := HBZ.out.size; omega) (fun e => by have := GRow.block HRZ.out.row i e.symm; omega)⟩)
 have HT3 := zwe (HST.out l HAL.out)
 clear hr3 hg3 ho3
 go_wp2_with fail
 go_roundw
 case rel => exact ⟨k + 1, _, _, by omega, by go_num, by rw [List.length_append, HKU.out]; rfl, HT3.out, HR3.out, HB3.out⟩
 case measure => simp [intOf]; omega) : P := h
theorem zso (n : Int) (s : V.Bs) (w : World) (hm : zg w) (hs : s.length ≤ maxLen) :
  Calls Tryz.prog 81 #[.int .i64 n, .string ⟨s.toArray⟩] w (ju (V.parP n s) w) := by
 have HM := zwe hm
 have hsz : (ByteArray.mk s.toArray).size = s.length := by simp [ByteArray.size]
 have HSD : Hid ((ByteArray.mk s.toArray).data.toList = s) := zwe rfl
 have hb0 : Below w.heap.size w (w.alloc (.cells #[.int .i64 0, .slice none 0 0] 45)) := (zwh _ w).alloc (zwg _) _
 have K0 : Hid ((w.alloc (.cells #[.int .i64 0, .slice none 0 0] 45)).heap[w.heap.size]? = some (.cells #[.int .i64 0, .slice none 0 0] 45 (0, 0))) := zwe (by rw [heap_alloc, if_pos rfl])
 have HB0 := zwe hb0
 have HZ0 : Hid ((w.alloc (.cells #[.int .i64 0, .slice none 0 0] 45)).heap.size = w.heap.size + 1) := zwe (by simp)
 unfold maxLen at hs
 clear hb0 hm
 generalize (ByteArray.mk s.toArray) = S at *
 go_enter Tryz.func81, Tryz.ntmps81
 go_wp2_with fail
 generalize w.alloc (.cells #[.int .i64 0, .slice none 0 0] 45) = w0 at *
 refine (za7 n w0).mono ?_
 rintro e w' ⟨rfl, rfl⟩
 rcases hsc : V.scheme n with _ | _
 ·have HR := zwe (V.zib (s := s) hsc)
  clear hsc
  go_wp2_with (first | (refine zi rfl 45 _ _ rfl w.heap.size #[.int .i64 0, .slice none 0 0] _ K0.out rfl #[.int .i64 0, .slice none 0 0] rfl rfl (by kernel_rfl) (zt _ _ _ _) ?_; intro W2 hp2; have z0 : W2.cell? ⟨w.heap.size, 0, none⟩ = some (.int .i64 0) := zwd hp2.here 0; have z1 : W2.cell? ⟨w.heap.size, 1, none⟩ = some (.slice none 0 0) := zwd hp2.here 1) | fail)
  have HBF := zwe (hp2.below HB0.out (zwg _))
  clear hp2
  exact bodyPost_ret (v := .tuple #[.agg #[.int .i64 0, .slice none 0 0], .int .i64 14]) (by simp [results, Tryz.results81, go_sem, z0, z1]) rfl (by rw [HR.out]; exact ju.zero HBF.out _)
 ·have HSC := zwe hsc
  clear hsc
  by_cases hlong : s.length ≤ 8192
  ·have HL := zwe hlong
   have hq : ¬ 8192 < S.size := by omega
   have hq2 : ¬ (8192 : Int) < (S.size : Int) := by omega
   have HS : Hid (S.size < 4294967281) := zwe (by omega)
   have HPL : Hid (∀ x ∈ Lib.split s V.orT, x.length ≤ 100000) := zwe (fun x hx => by
     have := zhu V.orT _ s x hx
     omega)
   have HLL : Hid ((Lib.split s V.orT).length ≤ 10000) := zwe (by have := zh9 s; omega)
   have HAN : Hid (V.ya n (Lib.split s V.orT) = none -> V.parP n s = (0, [], 2)) := zwe (fun h => V.zns HSC.out HL.out h)
   have HUN : Hid (∀ xs, V.ya n (Lib.split s V.orT) = some xs -> V.jb n [] xs = none -> V.parP n s = (0, [], 3)) := zwe (fun xs h g => V.zkr HSC.out HL.out h g)
   have HUS : Hid (∀ xs l, V.ya n (Lib.split s V.orT) = some xs -> V.jb n [] xs = some l -> V.parP n s = (n, l, 0)) := zwe (fun xs l h g => V.zuo HSC.out HL.out h g)
   clear hlong hs hsz
   go_wp2_with fail
   refine (ziz S w' (HM.out.below HB0.out) HS.out).mono ?_
   rintro e W0 ⟨rfl, hW0⟩
   rw [HSD.out] at hW0 ⊢
   have hb1 : Below w'.heap.size w' W0 := by rw [hW0]; exact (zwh _ _).alloc (zwg _) _
   have HB1 := zwf HB0 hb1
   have K1 := zwe (ku hb1 K0.out)
   have hz0 : w'.heap.size = w.heap.size + 1 := HZ0.out
   have HTX : Hid (∀ j (h : j < (Lib.split s V.orT).length), W0.cell? ⟨w.heap.size + 1, j, none⟩ = some (.string ⟨(Lib.split s V.orT)[j].toArray⟩)) := zwe (fun j hj => by
     rw [hW0, ← hz0, World.cell?_alloc_new]; exact yp _ j hj)
   have HZ1 : Hid (W0.heap.size = w.heap.size + 2) := zwe (by rw [hW0]; simp; omega)
   clear hb1 hW0
   rw [hz0]
   clear hz0
   have hll : (Lib.split s V.orT).length ≤ 10000 := HLL.out
   have HA0 := zwe (V.zh7 n (Lib.split s V.orT))
   generalize Lib.split s V.orT = P at *
   go_wp2_with fail
   go_loopw [6, 28] (fun v iv wx => ∃ (k : Nat) (us : List Sl) (xs : List (List V.Itv)), k ≤ P.length /\ iv = .int .i64 k /\ us.length = k /\ V.zbx n P k xs /\ SetRow n W0.heap.size wx v us xs /\ Below W0.heap.size W0 wx) (fun _ iv _ => P.length - (intOf iv).toNat)
   case atStart => exact ⟨0, [], [], Nat.zero_le _, rfl, rfl, HA0.out, SetRow.nil _ _ _, zwh _ _⟩
   case round =>
    obtain ⟨k, us, xs, hk, rfl, hku, hto, hrow, hbx⟩ := hrel
    have HTO := zwe hto
    have HROW := zwe hrow
    have HKU := zwe hku
    have HBX := zwe hbx
    have HBF := zwf HB1 hbx
    have KR := zwe (ku (hbx.mono (zwg _)) K1.out)
    clear hto hrow hku hbx
    by_cases hlt : k < P.length
    ·have hc := za HBX.out (HTX.out k hlt)
     have hi1 : (0 : Int) ≤ (k : Int) := by omega
     have hi2 : (k : Int) < (P.length : Int) := by omega
     have HLX := zwe (HPL.out _ (List.getElem_mem hlt))
     have HST := zwe (fun (y : List V.Itv) hy => V.zif (x := y) HTO.out hlt hy)
     have HNO := zwe (fun hy => V.zik HTO.out hlt hy)
     generalize P[k] = x at *
     go_wp2_with fail
     refine (zge n x wr (HM.out.below HBF.out) HSC.out HLX.out).mono ?_
     rintro e w2 ⟨m2, u, l, b, rfl, hor, hu, how, hb2⟩
     obtain ⟨p, q, rfl⟩ := hu.slice
     have HOR := zwe hor
     have HU := zwe hu
     have HOW := zwe how
     have HB2 := zwe hb2
     have KR2 := zwe (ku hb2 KR.out)
     clear hor hu how hb2 hc
     unfold setV
     have HBY := zwe ((zwh w2.heap.size w2).alloc (zwg _) (.cells #[.int .i64 m2, .slice p l.length q] 45))
     rcases b with _ | _
     ·have HR : Hid (V.parP n s = (0, [], 2)) := zwe (HAN.out (HNO.out (by
        rcases HOR.out with ⟨_, h⟩ | ⟨h, _⟩
        · exact h
        · cases h)))
      go_wp2_with (first | (refine zi rfl 45 _ _ rfl w.heap.size #[.int .i64 0, .slice none 0 0] _ (ku HBY.out KR2.out) rfl #[.int .i64 0, .slice none 0 0] rfl rfl (by kernel_rfl) (zt _ _ _ _) ?_; intro W5 hp5; have z0 : W5.cell? ⟨w.heap.size, 0, none⟩ = some (.int .i64 0) := zwd hp5.here 0; have z1 : W5.cell? ⟨w.heap.size, 1, none⟩ = some (.slice none 0 0) := zwd hp5.here 1) | fail)
      have HB5 := zwe (hp5.below (HBF.out.trans ((HB2.out.trans (HBY.out.mono HB2.out.size)).mono HBF.out.size)) (zwg _))
      clear hp5
      exact bodyPost_ret (v := .tuple #[.agg #[.int .i64 0, .slice none 0 0], .int .i64 2]) (by simp [results, Tryz.results81, go_sem, z0, z1]) rfl (by rw [HR.out]; exact ju.zero HB5.out _)
     ·exact zwy
    ·obtain rfl : k = P.length := by omega
     have HAX := zwe (V.zj3 HTO.out)
     have HONE := zwe (V.zfa HSC.out HAX.out).2
     have HUX := zwe (fun h => HUN.out xs HAX.out h)
     have HUY := zwe (fun l h => HUS.out xs l HAX.out h)
     have HXL : Hid (us.length = xs.length) := zwe HROW.out.len
     obtain ⟨va, vc, rfl⟩ := GRow.slice HROW.out.row
     obtain ⟨wo, rfl⟩ : ∃ wo : World, wo = wr := ⟨_, rfl⟩
     have hulen : us.length ≤ 10000 := by have := HKU.out; omega
     have HX0 : Hid ((wo.alloc (.cells #[.int .i64 n, .slice none 0 0] 45)).heap[wo.heap.size]? = some (.cells #[.int .i64 n, .slice none 0 0] 45 (0, 0))) := zwe (by rw [heap_alloc, if_pos rfl])
     have HBX0 := zwe ((zwh wo.heap.size wo).alloc (zwg _) (.cells #[.int .i64 n, .slice none 0 0] 45))
     have HZB : Hid (w.heap.size < wo.heap.size) := zwe ((Array.getElem?_eq_some_iff.1 KR.out).1)
     go_wp2_with fail
     go_loopw [50] (fun iv wx => ∃ (k : Nat) (acc : List V.Itv) (u : Value), k ≤ xs.length /\ iv = .int .i64 k /\ V.jb n [] xs = V.jb n acc (xs.drop k) /\ V.Ok n acc /\ wx.heap[wo.heap.size]? = some (.cells #[.int .i64 n, u] 45 (0, 0)) /\ Itvs wx u acc /\ (∀ c, u.ownBlock = some c -> wo.heap.size < c) /\ Below wo.heap.size wo wx) (fun iv _ => us.length - (intOf iv).toNat)
     case atStart => exact ⟨0, [], _, Nat.zero_le _, rfl, rfl, V.zen HSC.out, HX0.out, Itvs.nil _, (fun c hc => by cases hc), HBX0.out⟩
     case round =>
      obtain ⟨k, acc, u, hk, rfl, heq, hok, hbox, hset, hown, hby⟩ := hrel
      obtain ⟨p, q, rfl⟩ := hset.slice
      have HE := zwe heq
      have HOK := zwe hok
      have HBOX := zwe hbox
      have HSET := zwe hset
      have HOWN := zwe hown
      have HBY := zwe hby
      obtain ⟨x0, x1⟩ := zaj hbox
      have HBYW := zwf HBF hby
      have KR1 := zwe (ku hby KR.out)
      have HZR : Hid (wo.heap.size < wr.heap.size) := zwe ((Array.getElem?_eq_some_iff.1 hbox).1)
      clear heq hok hbox hset hown
      by_cases hlt : k < xs.length
      ·have hlu : k < us.length := by have := HXL.out; omega
       have hrow := HROW.out.later hby
       obtain ⟨g, cap, e, _, _, hcell⟩ := GRow.at (zjs n) hrow.row k hlu
       cases e
       have c0 : wr.cell? ⟨g, k * 2, none⟩ = some (.int .i64 n) := hcell 0 _ rfl
       have c1 : wr.cell? ⟨g, k * 2 + 1, none⟩ = some us[k].v := hcell 1 _ rfl
       have HIT := (hrow.each k hlu hlt).1
       have HON := zwe (HONE.out _ (List.getElem_mem hlt))
       have HNX := zwe (V.zmm (n := n) (acc := acc) hlt)
       have hi1 : (0 : Int) ≤ (k : Int) := by omega
       have hi2 : (k : Int) < (us.length : Int) := by omega
       clear hrow hcell hby
       generalize us[k].v = uv at *
       generalize xs[k] = y at *
       have HITV := zwe HIT
       obtain ⟨p2, q2, rfl⟩ := HIT.slice
       clear HIT
       have hbA : Below wr.heap.size wr (wr.alloc (.cells #[.int .i64 n, .slice p2 y.length q2] 45)) := (zwh _ _).alloc (zwg _) _
       have HBA := zwe hbA
       have y0 := za hbA x0
       have y1 := za hbA x1
       have HCH := zwe (V.zpy HOK.out HON.out.ok)
       have HOPF : Hid (V.opP V.orF n acc n y = if V.chkP n acc n y = 0 then V.limP n (V.opL n V.orF acc y) else (0, [], V.chkP n acc n y)) := zwe rfl
       clear hbA
       go_wp2_with fail
       refine (zrl n n (.slice p acc.length q) (.slice p2 y.length q2) acc y (wr.alloc (.cells #[.int .i64 n, .slice p2 y.length q2] 45)) (HM.out.below (HBYW.out.trans (HBA.out.mono HBYW.out.size))) (HSET.out.below HBA.out) (HITV.out.below HBA.out) (ux HOK.out) (ux HON.out.ok) (by have := HOK.out.len; unfold maxLen; omega) (by have := HON.out.one; unfold maxLen; omega)).mono ?_
       rintro e w5 ⟨u5, rfl, hu5, how5, hb5⟩
       obtain ⟨p5, q5, rfl⟩ := hu5.slice
       have HB5 := zwf HBA hb5
       have HBOX5 := zwe (ku HB5.out HBOX.out)
       have KR5 := zwe (ku HB5.out KR1.out)
       have HBW5 := zwe (HBYW.out.trans (HB5.out.mono HBYW.out.size))
       have HBO5 := zwe (HBY.out.trans (HB5.out.mono HBY.out.size))
       have HU5 := zwe hu5
       have HOW5 := zwe (fun c hc => by have h1 := how5 c hc; have h2 := HBA.out.size; have h3 := HZR.out; exact (show wo.heap.size < c by omega))
       clear hu5 how5 hb5 x0 x1 y0 y1 c0 c1
       by_cases h32 : (V.opL n V.orF acc y).length ≤ 32
       ·have HOP : Hid (V.opP V.orF n acc n y = (n, V.opL n V.orF acc y, 0)) := zwe (by rw [HOPF.out, if_pos HCH.out]; unfold V.limP; rw [if_pos h32])
        have HOK5 := zwe (V.zj4 V.orF HOK.out HON.out.ok h32)
        have HEQ : Hid (V.jb n [] xs = V.jb n (V.opL n V.orF acc y) (xs.drop (k + 1))) := zwe (by rw [HE.out, HNX.out, if_pos h32])
        clear h32
        rw [HOP.out] at HU5 HOW5 ⊢
        simp only at HU5 HOW5 ⊢
        unfold setV
        go_wp2_with (first | (refine zi rfl 45 _ _ rfl wo.heap.size _ _ HBOX5.out rfl #[.int .i64 n, .slice p5 (V.opL n V.orF acc y).length q5] rfl rfl (by kernel_rfl) (zt _ _ _ _) ?_; intro W6 hp6) | fail)
        have H6 := zwe hp6.here
        have HI6 := zwe (hp6.itvs HU5.out (fun c hc => by have := HOW5.out c hc; omega))
        have HB6 := zwe (hp6.below HBO5.out (zwg _))
        clear hp6
        go_roundw
        case rel => exact ⟨k + 1, _, _, by omega, by go_num, HEQ.out, HOK5.out, H6.out, HI6.out, HOW5.out, HB6.out⟩
        case measure => simp [intOf]; omega
       ·have HOP : Hid (V.opP V.orF n acc n y = (0, [], 3)) := zwe (by rw [HOPF.out, if_pos HCH.out]; unfold V.limP; rw [if_neg h32])
        have HR : Hid (V.parP n s = (0, [], 3)) := zwe (HUX.out (by rw [HE.out, HNX.out, if_neg h32]))
        clear h32
        rw [HOP.out] at HU5 HOW5 ⊢
        simp only at HU5 HOW5 ⊢
        unfold setV
        go_wp2_with (first
          | (refine zi rfl 45 _ _ rfl wo.heap.size _ _ HBOX5.out rfl #[.int .i64 0, .slice p5 ([] : List V.Itv).length q5] rfl rfl (by kernel_rfl) (zt _ _ _ _) ?_; intro W6 hp6; have KR6 := zwe (hp6.other KR5.out (by have := HZB.out; omega)); have HB6 := zwe (hp6.below HBW5.out (by have := HZB.out; omega)); clear hp6)
          | (refine zi rfl 45 _ _ rfl w.heap.size #[.int .i64 0, .slice none 0 0] _ KR6.out rfl #[.int .i64 0, .slice none 0 0] rfl rfl (by kernel_rfl) (zt _ _ _ _) ?_; intro W7 hp7; have z0 : W7.cell? ⟨w.heap.size, 0, none⟩ = some (.int .i64 0) := zwd hp7.here 0; have z1 : W7.cell? ⟨w.heap.size, 1, none⟩ = some (.slice none 0 0) := zwd hp7.here 1)
          | fail)
        have HB7 := zwe (hp7.below HB6.out (zwg _))
        clear hp7
        exact bodyPost_ret (v := .tuple #[.agg #[.int .i64 0, .slice none 0 0], .int .i64 3]) (by simp [results, Tryz.results81, go_sem, z0, z1]) rfl (by rw [HR.out]; exact ju.zero HB7.out _)
      ·obtain rfl : k = xs.length := by omega
       have HR : Hid (V.parP n s = (n, acc, 0)) := zwe (HUY.out acc (by rw [HE.out, List.drop_length]; rfl))
       have hnl : ¬ (xs.length : Int) < (us.length : Int) := by have := HXL.out; omega
       have hnl2 : ¬ xs.length < us.length := by have := HXL.out; omega
       clear hby
       go_wp2_with fail
       refine (ztf (.slice p acc.length q) acc wr HSET.out (by have := HOK.out.len; omega)).mono ?_
       rintro e w5 ⟨u5, rfl, hu5, how5, hb5⟩
       obtain ⟨p5, q5, rfl⟩ := hu5.slice
       have HBOX5 := zwe (ku hb5 HBOX.out)
       have KR5 := zwe (ku hb5 KR1.out)
       have HBW5 := zwf HBYW hb5
       have HU5 := zwe hu5
       have HOW5 := zwe (fun c hc => by have h1 := how5 c hc; have h3 := HZR.out; exact (show wo.heap.size < c by omega))
       clear hu5 how5 hb5 x0 x1
       go_wp2_with (first
         | (refine zan rfl 43 _ _ rfl wo.heap.size 1 #[.int .i64 n, .slice p acc.length q] _ HBOX5.out (by simp) rfl (.slice p5 acc.length q5) rfl zd5 rfl ?_; intro W6 hp6; have x0 : W6.cell? ⟨wo.heap.size, 0, none⟩ = some (.int .i64 n) := zwd hp6.here 0; have x1 : W6.cell? ⟨wo.heap.size, 1, none⟩ = some (.slice p5 acc.length q5) := zwd hp6.here 1; have KR6 := zwe (hp6.other KR5.out (by have := HZB.out; omega)); have HB6 := zwe (hp6.below HBW5.out (by have := HZB.out; omega)); have HI6 := zwe (hp6.itvs HU5.out (fun c hc => by have := HOW5.out c hc; omega)); clear hp6)
         | (refine zi rfl 45 _ _ rfl w.heap.size #[.int .i64 0, .slice none 0 0] _ KR6.out rfl #[.int .i64 n, .slice p5 acc.length q5] rfl rfl (by kernel_rfl) (zt _ _ _ _) ?_; intro W7 hp7; have z0 : W7.cell? ⟨w.heap.size, 0, none⟩ = some (.int .i64 n) := zwd hp7.here 0; have z1 : W7.cell? ⟨w.heap.size, 1, none⟩ = some (.slice p5 acc.length q5) := zwd hp7.here 1)
         | fail)
       have HB7 := zwe (hp7.below HB6.out (zwg _))
       have HI7 := zwe (hp7.itvs HI6.out (fun c hc => by have := HOW5.out c hc; have := HZB.out; omega))
       clear hp7
       exact bodyPost_ret (v := .tuple #[.agg #[.int .i64 n, .slice p5 acc.length q5], .int .i64 0]) (by simp [results, Tryz.results81, go_sem, z0, z1]) rfl (by rw [HR.out]; exact ⟨_, rfl, HI7.out, (fun c hc => by have := HOW5.out c hc; have := HZB.out; omega), HB7.out⟩)
  ·have HR := zwe (V.zn1 HSC.out hlong)
   have hq : 8192 < S.size := by omega
   have hq2 : (8192 : Int) < (S.size : Int) := by omega
   clear hlong
   go_wp2_with (first | (refine zi rfl 45 _ _ rfl w.heap.size #[.int .i64 0, .slice none 0 0] _ K0.out rfl #[.int .i64 0, .slice none 0 0] rfl rfl (by kernel_rfl) (zt _ _ _ _) ?_; intro W2 hp2; have z0 : W2.cell? ⟨w.heap.size, 0, none⟩ = some (.int .i64 0) := zwd hp2.here 0; have z1 : W2.cell? ⟨w.heap.size, 1, none⟩ = some (.slice none 0 0) := zwd hp2.here 1) | fail)
   have HBF := zwe (hp2.below HB0.out (zwg _))
   clear hp2
   exact bodyPost_ret (v := .tuple #[.agg #[.int .i64 0, .slice none 0 0], .int .i64 3]) (by simp [results, Tryz.results81, go_sem, z0, z1]) rfl (by rw [HR.out]; exact ju.zero HBF.out _)
def xn (l : List V.Bs) (w : World) (e : Ending) (w' : World) : Prop :=
 ∃ u, e = .returned (.tuple #[affV (V.vs l).1 u, .bool (V.vs l).2]) /\ Itvs w' u (V.vs l).1.its /\ (∀ c, u.ownBlock = some c -> w.heap.size ≤ c) /\ Below w.heap.size w w'
theorem xn.zero {l : List V.Bs} {w w' : World} (h : V.vs l = (V.zA, false)) (hb : Below w.heap.size w w') : xn l w (.returned (.tuple #[.agg #[.int .i64 0, .string ⟨#[]⟩, .int .i64 0, .slice none 0 0], .bool false])) w' :=
 ⟨.slice none 0 0, by rw [h]; rfl, by rw [h]; exact Itvs.nil _, (fun c hc => by cases hc), hb⟩
theorem zi0 (s : V.Bs) : 0 ≤ V.qh s /\ V.qh s ≤ 3 := by
 unfold V.qh
 repeat' split
 all_goals decide
theorem zdp {l : List V.Bs} (h : l.length = 4) : ∃ a s n r, l = [a, s, n, r] := by
 match l, h with
 | [a, s, n, r], _ => exact ⟨a, s, n, r, rfl⟩
theorem zeh {w : World} {v : Value} {a s n r : V.Bs} (h : Strs w v [a, s, n, r]) : ∃ b off cap, v = .slice (some ⟨b, off, none⟩) 4 cap /\ b < w.heap.size /\ w.cell? ⟨b, off, none⟩ = some (.string ⟨a.toArray⟩) /\ w.cell? ⟨b, off + 1, none⟩ = some (.string ⟨s.toArray⟩) /\ w.cell? ⟨b, off + 2, none⟩ = some (.string ⟨n.toArray⟩) /\ w.cell? ⟨b, off + 3, none⟩ = some (.string ⟨r.toArray⟩) := by
 obtain ⟨va, cap, rfl, hat⟩ := h
 obtain ⟨b, off, rfl, hlt, h0⟩ := hat 0 (by simp)
 have hk : ∀ j (hj : j < [a, s, n, r].length), w.cell? ⟨b, off + j, none⟩ = some (.string ⟨([a, s, n, r][j]).toArray⟩) := fun j hj => by
  obtain ⟨b', off', e, _, hc⟩ := hat j hj
  cases e
  exact hc
 exact ⟨b, off, cap, rfl, hlt, h0, hk 1 (by simp), hk 2 (by simp), hk 3 (by simp)⟩
theorem zxg {P : Prop} (h : P := by
 refine tk 11 ?_
 refine rd 12 fun K hK => ?_
 refine zh3 rfl uu _ _ rfl w.heap.size #[.int .i64 0, .string ⟨#[]⟩, .int .i64 0, .slice none 0 0] 47 HK.out rfl (.int .i64 sc) (.string ⟨n.toArray⟩) (.int .i64 rs) (.slice up its.length uq) ⟨rfl, rfl, rfl, rfl⟩ rfl rfl ?_
 refine hK.out _ _ ?_ (fun hHeld => nx ?_)
 ·(try dsimp only); exact ⟨(qj _ _ _).cell hHeld.1 (fun e => HNE.out.1 (Option.some.inj e)), (qj _ _ _).cell hHeld.2.1 (fun e => HNE.out.2 (Option.some.inj e)), (qj _ _ _).cell hHeld.2.2 (fun e => HNE.out.2 (Option.some.inj e))⟩
 clear hK K
 refine tk 13 ?_
 refine wpAnyH_done (by kernel_rfl) ?_ _
 go_wp2
 refine bodyPost_ret (v := .tuple #[.agg #[.int .i64 sc, .string ⟨n.toArray⟩, .int .i64 rs, .slice up its.length uq], .bool false]) (kb Tryz.results53 rfl rfl (zcw Tryz.underlying47 uu (setRow_heap _ _ _ _ _ _ HK.out))) rfl ?_
 rw [HRF.out]
 exact ⟨_, rfl, HIT.out.row (qj _ _ _) (fun c hc e => by have := HOW.out c hc; have := HZ.out.1; omega), HOW2.out, qu HBF.out.drew w.heap.size _ (zwg _) HZ.out.2⟩) : P := h
theorem zxw {P : Prop} (h : P := by
 go_enter Tryz.func53, Tryz.ntmps53
 go_wp2_with (first | (refine qr rfl uu _ _ rfl w.heap.size #[.int .i64 0, .string ⟨#[]⟩, .int .i64 0, .slice none 0 0] 47 HK0.out rfl (.int .i64 0) (.string ⟨#[]⟩) (.int .i64 0) (.slice none 0 0) ⟨rfl, rfl, rfl, rfl⟩ rfl rfl ?_) | fail)
 refine bodyPost_ret (v := .tuple #[.agg #[.int .i64 0, .string ⟨#[]⟩, .int .i64 0, .slice none 0 0], .bool false]) (kb Tryz.results53 rfl rfl (zcw Tryz.underlying47 uu (setRow_heap _ _ _ _ _ _ HK0.out))) rfl ?_
 exact xn.zero HR.out (qu HB0.out w.heap.size _ (zwg _) (by have := HZ0.out; omega))) : P := h
theorem zjb (v : Value) (l : List V.Bs) (w : World) (hm : zg w) (hv : Strs w v l) (hw : ∀ x ∈ l, x.length ≤ maxLen) :
  Calls Tryz.prog 53 #[v] w (xn l w) := by
 have hb0 : Below w.heap.size w (w.alloc (.cells #[.int .i64 0, .string ⟨#[]⟩, .int .i64 0, .slice none 0 0] 47)) := (zwh _ w).alloc (zwg _) _
 have HB0 := zwe hb0
 have HK0 : Hid ((w.alloc (.cells #[.int .i64 0, .string ⟨#[]⟩, .int .i64 0, .slice none 0 0] 47)).heap[w.heap.size]? = some (.cells #[.int .i64 0, .string ⟨#[]⟩, .int .i64 0, .slice none 0 0] 47 (0, 0))) := zwe (heap_alloc_new w _)
 have HM0 := zwe (hm.below hb0)
 have HZ0 : Hid ((w.alloc (.cells #[.int .i64 0, .string ⟨#[]⟩, .int .i64 0, .slice none 0 0] 47)).heap.size = w.heap.size + 1) := zwe (by simp)
 by_cases h4 : l.length = 4
 case neg =>
  have HR := zwe (V.zna h4)
  obtain ⟨va, cap, rfl, hjunk⟩ := hv
  have q1 : ((l.length : Int) != 4) = true := by simp; omega
  have q2 : ¬ (l.length : Int) = 4 := by omega
  clear hjunk hw h4 hb0 hm
  generalize l.length = m at *
  exact zxw
 obtain ⟨a, s, n, r, rfl⟩ := zdp h4
 obtain ⟨b, off, cap, rfl, hblt, c0, c1, c2, c3⟩ := zeh hv
 have x0 := zb hb0 c0
 have x1 := zb hb0 c1
 have x2 := zb hb0 c2
 have x3 := zb hb0 c3
 have hrl : r.length ≤ maxLen := hw r (by simp)
 have HRL := zwe hrl
 have HBL := zwe hblt
 clear hw hv hb0 h4 c0 c1 c2 c3 hrl hblt hm
 by_cases ha : a = V.affW
 case neg =>
  have HR := zwe (V.zkj (s := s) (n := n) (r := r) ha)
  have hne : (a == [97, 102, 102, 101, 99, 116, 115]) = false := by rw [zwi]; exact ha
  clear ha x1 x2 x3
  exact zxw
 subst ha
 have hcw : (⟨V.affW.toArray⟩ : ByteArray) = ⟨#[97, 102, 102, 101, 99, 116, 115]⟩ := rfl
 rw [hcw] at x0
 clear hcw
 have HF := zwe (V.zgb s n r)
 have hsr := zi0 s
 go_enter Tryz.func53, Tryz.ntmps53
 go_wp2_with fail
 generalize w.alloc (.cells #[.int .i64 0, .string ⟨#[]⟩, .int .i64 0, .slice none 0 0] 47) = w0 at *
 refine (zq7 ⟨s.toArray⟩ w0).mono ?_
 rintro e w1 ⟨rfl, hb1⟩
 rw [kn]
 replace x2 := zb hb1 x2
 replace x3 := zb hb1 x3
 have HB1 := zwf HB0 hb1
 have HM1 := zwe (HM0.out.below hb1)
 have hz1 : w.heap.size + 1 ≤ w1.heap.size := by have := hb1.size; have := HZ0.out; omega
 have HK1 := zwe ((hb1.block _ (by have := HZ0.out; omega)).trans HK0.out)
 clear hb1 x0 x1 HB0 HM0 HK0 HZ0
 generalize V.qh s = sc at *
 go_wp2_with fail
 refine (zso sc r w1 HM1.out HRL.out).mono ?_
 rintro e w2 ⟨u, rfl, hu, how, hb2⟩
 obtain ⟨⟨rs, its, ec⟩, hpp⟩ : ∃ p, V.parP sc r = p := ⟨_, rfl⟩
 rw [hpp] at hu HF ⊢
 simp only at hu HF ⊢
 obtain ⟨up, uq, rfl⟩ := hu.slice
 unfold setV
 have hb3 : Below w1.heap.size w1 (w2.alloc (.cells #[.int .i64 rs, .slice up its.length uq] 45)) := hb2.alloc hb2.size _
 have s0 : (w2.alloc (.cells #[.int .i64 rs, .slice up its.length uq] 45)).cell? ⟨w2.heap.size, 0, none⟩ = some (.int .i64 rs) := by rw [World.cell?_alloc_new]; rfl
 have s1 : (w2.alloc (.cells #[.int .i64 rs, .slice up its.length uq] 45)).cell? ⟨w2.heap.size, 1, none⟩ = some (.slice up its.length uq) := by rw [World.cell?_alloc_new]; rfl
 have y2 := zb hb3 x2
 have HIT := zwe (hu.below ((zwh _ w2).alloc (zwg _) (.cells #[.int .i64 rs, .slice up its.length uq] 45)))
 have HOW : Hid (∀ c, (Value.slice up its.length uq).ownBlock = some c -> w1.heap.size ≤ c) := zwe how
 have hz2 := hb2.size
 have hz3 : (w2.alloc (.cells #[.int .i64 rs, .slice up its.length uq] 45)).heap.size = w2.heap.size + 1 := by simp
 have HBF := zwf HB1 hb3
 have HK := zwe ((hb3.block _ (by omega)).trans HK1.out)
 have HOW2 : Hid (∀ c, (Value.slice up its.length uq).ownBlock = some c -> w.heap.size ≤ c) := zwe (fun c hc => by have := how c hc; omega)
 clear hb2 hb3 hu how HB1 HM1 HK1 hpp x2 x3
 go_wp2_with fail
 generalize w2.alloc (.cells #[.int .i64 rs, .slice up its.length uq] 45) = w3 at *
 have HNE : Hid (b ≠ w.heap.size /\ w2.heap.size ≠ w.heap.size) := zwe ⟨by have := HBL.out; omega, by omega⟩
 have HZ : Hid (w.heap.size < w1.heap.size /\ w.heap.size < w3.drew.heap.size) := zwe ⟨by omega, by show _ < w3.heap.size; omega⟩
 generalize w2.heap.size = Y at *
 replace HK := zwe (show w3.drew.heap[w.heap.size]? = some (.cells #[.int .i64 0, .string ⟨#[]⟩, .int .i64 0, .slice none 0 0] 47 (0, 0)) from HK.out)
 replace HIT := zwe (HIT.out.below (zwh _ w3).drew)
 clear hz1 hz2 hz3
 by_cases hp : 0 < sc
 ·have HSC := zwe hp
  by_cases he : ec = 0
  ·have HEC := zwe he
   have HRF : Hid (xn [V.affW, s, n, r] w = fun e w' => ∃ u, e = .returned (.tuple #[affV ⟨sc, n, rs, its⟩ u, .bool true]) /\ Itvs w' u its /\ (∀ c, u.ownBlock = some c -> w.heap.size ≤ c) /\ Below w.heap.size w w') := zwe (by unfold xn; rw [HF.out]; simp [hp, he])
   clear hp he HF
   refine wp_region_held_drew (S := (fun W' => W'.cell? ⟨b, off + 2, none⟩ = some (.string ⟨n.toArray⟩) /\ W'.cell? ⟨Y, 0, none⟩ = some (.int .i64 rs) /\ W'.cell? ⟨Y, 1, none⟩ = some (.slice up its.length uq))) (by kernel_rfl) (by (try dsimp only); exact ⟨zb (zwh _ _).drew y2, zb (zwh _ _).drew s0, zb (zwh _ _).drew s1⟩) (fun hHeld => ?_)
   refine tk 0 ?_
   refine tk 1 ?_
   refine tk 2 ?_
   refine tk 3 ?_
   refine tk 4 ?_
   refine tk 5 ?_
   refine tk 6 ?_
   refine wpAnyH_take (i := 7) (v := (.bool true)) rfl (by kernel_rfl) (by kernel_rfl) (by kernel_rfl) (fun _ _ _ h => h) (Or.inl ⟨by rfl, fun w' hSw => by have e := HSC.out; go_simp; try rfl⟩) (by assumption) ?_
   try simp only [zv9, zwa, zwb, Act.put, zwc, List.set_cons_succ, List.set_cons_zero]
   refine tk 8 ?_
   refine tk 9 ?_
   refine wpAnyH_take (i := 10) (v := (.bool true)) rfl (by kernel_rfl) (by kernel_rfl) (by kernel_rfl) (fun _ _ _ h => h) (Or.inl ⟨by rfl, fun w' hSw => by have e := HEC.out; go_simp; try rfl⟩) (by assumption) ?_
   try simp only [zv9, zwa, zwb, Act.put, zwc, List.set_cons_succ, List.set_cons_zero]
   refine tk 11 ?_
   refine rd 12 fun K hK => ?_
   refine zh3 rfl uu _ _ rfl w.heap.size #[.int .i64 0, .string ⟨#[]⟩, .int .i64 0, .slice none 0 0] 47 HK.out rfl (.int .i64 sc) (.string ⟨n.toArray⟩) (.int .i64 rs) (.slice up its.length uq) ⟨rfl, rfl, rfl, rfl⟩ rfl rfl ?_
   refine hK.out _ _ ?_ (fun hHeld => nx ?_)
   ·(try dsimp only); exact ⟨(qj _ _ _).cell hHeld.1 (fun e => HNE.out.1 (Option.some.inj e)), (qj _ _ _).cell hHeld.2.1 (fun e => HNE.out.2 (Option.some.inj e)), (qj _ _ _).cell hHeld.2.2 (fun e => HNE.out.2 (Option.some.inj e))⟩
   clear hK K
   refine tk 13 ?_
   refine wpAnyH_done (by kernel_rfl) ?_ _
   go_wp2
   refine bodyPost_ret (v := .tuple #[.agg #[.int .i64 sc, .string ⟨n.toArray⟩, .int .i64 rs, .slice up its.length uq], .bool true]) (kb Tryz.results53 rfl rfl (zcw Tryz.underlying47 uu (setRow_heap _ _ _ _ _ _ HK.out))) rfl ?_
   rw [HRF.out]
   exact ⟨_, rfl, HIT.out.row (qj _ _ _) (fun c hc e => by have := HOW.out c hc; have := HZ.out.1; omega), HOW2.out, qu HBF.out.drew w.heap.size _ (zwg _) HZ.out.2⟩
  ·have HEC := zwe he
   have HRF : Hid (xn [V.affW, s, n, r] w = fun e w' => ∃ u, e = .returned (.tuple #[affV ⟨sc, n, rs, its⟩ u, .bool false]) /\ Itvs w' u its /\ (∀ c, u.ownBlock = some c -> w.heap.size ≤ c) /\ Below w.heap.size w w') := zwe (by unfold xn; rw [HF.out]; simp [he])
   clear hp he HF
   refine wp_region_held_drew (S := (fun W' => W'.cell? ⟨b, off + 2, none⟩ = some (.string ⟨n.toArray⟩) /\ W'.cell? ⟨Y, 0, none⟩ = some (.int .i64 rs) /\ W'.cell? ⟨Y, 1, none⟩ = some (.slice up its.length uq))) (by kernel_rfl) (by (try dsimp only); exact ⟨zb (zwh _ _).drew y2, zb (zwh _ _).drew s0, zb (zwh _ _).drew s1⟩) (fun hHeld => ?_)
   refine tk 0 ?_
   refine tk 1 ?_
   refine tk 2 ?_
   refine tk 3 ?_
   refine tk 4 ?_
   refine tk 5 ?_
   refine tk 6 ?_
   refine wpAnyH_take (i := 7) (v := (.bool true)) rfl (by kernel_rfl) (by kernel_rfl) (by kernel_rfl) (fun _ _ _ h => h) (Or.inl ⟨by rfl, fun w' hSw => by have e := HSC.out; go_simp; try rfl⟩) (by assumption) ?_
   try simp only [zv9, zwa, zwb, Act.put, zwc, List.set_cons_succ, List.set_cons_zero]
   refine tk 8 ?_
   refine tk 9 ?_
   refine wpAnyH_take (i := 10) (v := (.bool false)) rfl (by kernel_rfl) (by kernel_rfl) (by kernel_rfl) (fun _ _ _ h => h) (Or.inl ⟨by rfl, fun w' hSw => by have e := HEC.out; go_simp; try rfl⟩) (by assumption) ?_
   try simp only [zv9, zwa, zwb, Act.put, zwc, List.set_cons_succ, List.set_cons_zero]
   exact zxg
 ·have HSC := zwe hp
  have HRF : Hid (xn [V.affW, s, n, r] w = fun e w' => ∃ u, e = .returned (.tuple #[affV ⟨sc, n, rs, its⟩ u, .bool false]) /\ Itvs w' u its /\ (∀ c, u.ownBlock = some c -> w.heap.size ≤ c) /\ Below w.heap.size w w') := zwe (by unfold xn; rw [HF.out]; simp [hp])
  clear hp HF
  refine wp_region_held_drew (S := (fun W' => W'.cell? ⟨b, off + 2, none⟩ = some (.string ⟨n.toArray⟩) /\ W'.cell? ⟨Y, 0, none⟩ = some (.int .i64 rs) /\ W'.cell? ⟨Y, 1, none⟩ = some (.slice up its.length uq))) (by kernel_rfl) (by (try dsimp only); exact ⟨zb (zwh _ _).drew y2, zb (zwh _ _).drew s0, zb (zwh _ _).drew s1⟩) (fun hHeld => ?_)
  refine tk 0 ?_
  refine tk 1 ?_
  refine tk 2 ?_
  refine tk 3 ?_
  refine tk 4 ?_
  refine tk 5 ?_
  refine tk 6 ?_
  refine wpAnyH_take (i := 7) (v := (.bool false)) rfl (by kernel_rfl) (by kernel_rfl) (by kernel_rfl) (fun _ _ _ h => h) (Or.inl ⟨by rfl, fun w' hSw => by have e := HSC.out; go_simp; try rfl⟩) (by assumption) ?_
  try simp only [zv9, zwa, zwb, Act.put, zwc, List.set_cons_succ, List.set_cons_zero]
  refine tk 8 ?_
  refine tu 9 ?_
  refine tu 10 ?_
  exact zxg
end Go.Proofs.YtcfbkcapbbhmpaaGreatDoor
