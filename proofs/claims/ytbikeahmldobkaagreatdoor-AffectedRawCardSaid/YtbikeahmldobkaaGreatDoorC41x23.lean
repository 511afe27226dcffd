/-
  Lemmas for the law.
-/
import Derived.Test.YtbikeahmldobkaaGreatDoorC41x04
import Derived.Test.YtbikeahmldobkaaGreatDoorC41x16
import Derived.Test.YtbikeahmldobkaaGreatDoorC41x18
import Derived.Test.YtbikeahmldobkaaGreatDoorC41x21
import Derived.Test.YtbikeahmldobkaaGreatDoorC41x03
import Derived.Test.YtbikeahmldobkaaGreatDoorC41x10
import Derived.BigRegion
import Derived.Deep.RegionHeld3
set_option linter.all false
set_option maxRecDepth 100000
set_option maxHeartbeats 1600000
namespace Go.Proofs.YtbikeahmldobkaaGreatDoor
open Go.RowKit
theorem zq6 {P : Prop} (h : P := by
 have HE := zpa (HIn.out e)
 clear HD e
 go_wp2
 go_ret
 exact ⟨zf (by rw [HA.out, HE.out]), HB1.out⟩) : P := h
theorem zri {P : Prop} (h : P := by
 go_enter Tryz.func93, Tryz.ntmps93
 go_wp2
 go_ret
 exact ⟨zf HR.out.symm, zpd _ _⟩) : P := h
theorem zh1 (s : ByteArray) (w : World) (hm : zm w) (hs : s.size ≤ maxLen) :
  Calls Tryz.prog 93 #[.string s] w fun e w' => e = .returned (.bool (V.jj s.data.toList)) /\ Below w.heap.size w w' := by
 have HM := zpa hm
 unfold maxLen at hs
 clear hm
 by_cases h1 : s.size < 1
 ·have HR := zpa (vo (s := s.data.toList) (.inl (by rw [zi]; exact h1)))
  have he : s = ⟨#[]⟩ := ki (by
    have : s.data.toList = [] := List.eq_nil_of_length_eq_zero (by rw [zi]; omega)
    rw [this])
  subst he
  exact zri
 ·have hne : s.toList.isEmpty = false := by
   rw [Lib.toList_data]
   rcases hd : s.data.toList with _ | ⟨c, r⟩
   ·have := zi s; rw [hd] at this; simp at this; omega
   ·rfl
  have hne' : ¬ s.toList = [] := by simpa using hne
  by_cases h2 : 200 < s.size
  ·have HR := zpa (vo (s := s.data.toList) (.inr (by rw [zi]; exact h2)))
   exact zri
  ·have h1' : 1 ≤ s.size := by omega
   have h2' : s.size ≤ 200 := by omega
   clear h1 h2
   go_enter Tryz.func93, Tryz.ntmps93
   go_wp2
   go_loop [3] (fun i => ∃ k : Nat, k ≤ s.size /\ i = .int .i64 k /\ (s.data.toList.take k).all (fun c => c != 0) = true) (fun i => s.size - (intOf i).toNat)
   case atStart => exact ⟨0, Nat.zero_le _, rfl, rfl⟩
   case round =>
    obtain ⟨k, hk, rfl, hp⟩ := hrel
    have HP := zpa hp
    clear hp
    by_cases hlt : k < s.size
    ·have hl : k < s.data.toList.length := by rw [zi]; exact hlt
     have HT := zpa (V.vb (p := fun c => c != 0) hl)
     have he : s.data.toList[k] = s[k] := by simp; rfl
     by_cases h0 : s[k] = 0
     ·have HR := zpa (zg7 (s := s.data.toList) (by rw [← h0, ← he]; exact List.getElem_mem _))
      have h0' : ((s[k]).toNat : Int) = 0 := by rw [h0]; rfl
      clear he
      go_wp2
      go_ret
      exact ⟨zf HR.out.symm, zpd _ _⟩
     ·have h0' : ¬ ((s[k]).toNat : Int) = 0 := fun e => h0 (UInt8.toNat_inj.1 (show (s[k]).toNat = 0 by omega))
      have HN : Hid ((s[k] != 0) = true) := zpa (by simpa using h0)
      have HE := zpa he
      clear he
      go_wp2
      go_round
      case rel => exact ⟨k + 1, by omega, by go_num, by rw [HT.out, HP.out, HE.out, HN.out]; rfl⟩
      case measure => simp [intOf]; omega
    ·have hz : (0 : UInt8) ∉ s.data.toList := by
      have hp := HP.out
      rw [List.take_of_length_le (by rw [zi]; omega), List.all_eq_true] at hp
      intro g
      have := hp 0 g
      simp at this
     have HR := zpa (zhi (s := s.data.toList) (by rw [zi]; exact h1') (by rw [zi]; exact h2') hz)
     clear hz HP
     go_wp2_with fail
     refine (jm s 47 _ HM.out (by omega)).mono ?_
     rintro e w1 ⟨rfl, hw1⟩
     have hs1 := Strs.split w (V.zo 47 s.data.toList) 9
     rw [← hw1] at hs1
     have hb1 : Below w.heap.size w w1 := by rw [hw1]; exact (zpd _ w).alloc (zpc _) _
     have HB1 := zpa hb1
     have HS := zpa hs1
     have HA : Hid (V.jj s.data.toList = (V.zo 47 s.data.toList).all V.kr) := HR
     have hnl : (V.zo 47 s.data.toList).length ≤ 201 := by have := qy 47 s.data.toList; rw [zi] at this; omega
     clear hw1 hs1 hb1
     generalize V.zo 47 s.data.toList = P at *
     go_wp2
     go_loop [5] (fun i => ∃ k : Nat, k ≤ P.length /\ i = .int .i64 k /\ (P.take k).all V.kr = true) (fun i => P.length - (intOf i).toNat)
     case atStart => exact ⟨0, Nat.zero_le _, rfl, rfl⟩
     case round =>
      obtain ⟨k, hk, rfl, hp⟩ := hrel
      have HP := zpa hp
      clear hp
      by_cases hlt : k < P.length
      ·obtain ⟨b, off, e, _, hcell⟩ := HS.out.at k hlt
       cases e
       rw [Nat.zero_add] at hcell
       have HT := zpa (za0 (p := V.kr) hlt)
       have hg : P.getD k [] = P[k] := by rw [List.getD_eq_getElem?_getD, List.getElem?_eq_getElem hlt]; rfl
       rw [hg] at hcell
       have HIn : Hid (V.kr P[k] = false -> P.all V.kr = false) := zpa fun h => by
        rw [← Bool.not_eq_true, List.all_eq_true]
        intro g
        rw [g _ (List.getElem_mem hlt)] at h; cases h
       have HD := zpa (V.zcj P[k])
       generalize P[k] = p at *
       clear hg
       rcases HD.out with ⟨rfl, e⟩ | ⟨rfl, e⟩ | ⟨rfl, e⟩ | ⟨e1, e2, e3, e⟩
       ·exact zq6
       ·exact zq6
       ·exact zq6
       ·have HE := zpa e
        clear HD e
        go_wp2
        go_round
        case rel => exact ⟨k + 1, by omega, by go_num, by rw [HT.out, HP.out, HE.out]; rfl⟩
        case measure => simp [intOf]; omega
      ·have hall := HP.out
       rw [List.take_of_length_le (by omega)] at hall
       have HL := zpa hall
       clear hall
       go_wp2
       go_ret
       exact ⟨zf (by rw [HA.out, HL.out]), HB1.out⟩
theorem zmc (n : Int) (x y : V.Bs) (c : Int) (w : World) (hm : zm w) (hn : V.scheme n = true) (hx : V.valid n x = true) (hy : V.valid n y = true) (hc : V.cmpV n x y = c) :
  Calls Tryz.prog 79 #[.int .i64 n, .string ⟨x.toArray⟩, .string ⟨y.toArray⟩] w fun e w' => e = .returned (.tuple #[.int .i64 c, .int .i64 0]) /\ Below w.heap.size w w' := by
 have l1 := V.ky hx
 have l2 := V.ky hy
 refine zmg n ⟨x.toArray⟩ ⟨y.toArray⟩ c 0 ?_ w hm (by show x.length ≤ _; unfold maxLen; omega) (by show y.length ≤ _; unfold maxLen; omega)
 simp only
 unfold V.zv
 rw [hn, hx, hy]
 simp only [Bool.not_true, Bool.false_eq_true, if_false, Bool.and_self, if_true, hc]
open Go.RowKit
def cutV (c : V.Cut) : Value := .agg #[.string ⟨c.1.toArray⟩, .bool c.2]
def itvV (x : V.Itv) : Value := .agg #[.string ⟨x.lo.toArray⟩, .int .i64 x.lk, .string ⟨x.hi.toArray⟩, .int .i64 x.hk]
def ws (w : World) (b o : Nat) (x : V.Itv) : Prop := w.cell? ⟨b, o, none⟩ = some (.string ⟨x.lo.toArray⟩) /\ w.cell? ⟨b, o + 1, none⟩ = some (.int .i64 x.lk) /\ w.cell? ⟨b, o + 2, none⟩ = some (.string ⟨x.hi.toArray⟩) /\ w.cell? ⟨b, o + 3, none⟩ = some (.int .i64 x.hk)
def Itvs (w : World) (v : Value) (l : List V.Itv) : Prop := ∃ a cap, v = .slice a l.length cap /\ ∀ j (h : j < l.length), ∃ b off, a = some ⟨b, off, none⟩ /\ b < w.heap.size /\ ws w b (off + j * 4) l[j]
theorem ws.below {w w' : World} {b o : Nat} {x : V.Itv} (h : ws w b o x) (hlt : b < w.heap.size) (hb : Below w.heap.size w w') : ws w' b o x :=
 ⟨(hb.cell (p := ⟨b, o, none⟩) hlt).trans h.1, (hb.cell (p := ⟨b, o + 1, none⟩) hlt).trans h.2.1, (hb.cell (p := ⟨b, o + 2, none⟩) hlt).trans h.2.2.1, (hb.cell (p := ⟨b, o + 3, none⟩) hlt).trans h.2.2.2⟩
theorem Itvs.nil (w : World) : Itvs w (.slice none 0 0) [] := ⟨none, 0, rfl, fun j h => by simp at h⟩
theorem Itvs.below {w w' : World} {v : Value} {l : List V.Itv} (h : Itvs w v l) (hb : Below w.heap.size w w') : Itvs w' v l := by
 obtain ⟨a, cap, e, hc⟩ := h
 refine ⟨a, cap, e, fun j hj => ?_⟩
 obtain ⟨b, off, ea, hlt, hcell⟩ := hc j hj
 exact ⟨b, off, ea, Nat.lt_of_lt_of_le hlt hb.size, hcell.below hlt hb⟩
theorem Itvs.slice {w : World} {v : Value} {l : List V.Itv} (h : Itvs w v l) : ∃ a cap, v = .slice a l.length cap := by
 obtain ⟨a, c, e, _⟩ := h
 exact ⟨a, c, e⟩
theorem Itvs.at {w : World} {a : Option Addr} {n cap : Nat} {l : List V.Itv} (h : Itvs w (.slice a n cap) l) (j : Nat) (hj : j < l.length) : ∃ b off, a = some ⟨b, off, none⟩ /\ b < w.heap.size /\ ws w b (off + j * 4) l[j] := by
 obtain ⟨a', c, e, hc⟩ := h
 obtain ⟨b, off, ea, hb, hcell⟩ := hc j hj
 cases e
 exact ⟨b, off, ea, hb, hcell⟩
theorem zqy {P : Prop} (h : P := by
 go_enter Tryz.func149, Tryz.ntmps149
 go_wp2
 go_ret
 exact ⟨rfl, rfl⟩) : P := h
theorem vl (n : Int) (w : World) : Calls Tryz.prog 149 #[.int .i64 n] w fun e w' => e = .returned (.bool (V.scheme n)) /\ w' = w := by
 have HS : Hid (V.scheme n = (n == 1 || (n == 3 || n == 2))) := zpa (by unfold V.scheme; cases (n == 1) <;> cases (n == 2) <;> cases (n == 3) <;> rfl)
 by_cases h1 : n = 1
 ·subst h1
  exact zqy
 ·by_cases h2 : n = 2
  ·subst h2
   exact zqy
  ·by_cases h3 : n = 3
   ·subst h3
    exact zqy
   ·have b1 : (n == 1) = false := by simpa using h1
    have b2 : (n == 2) = false := by simpa using h2
    have b3 : (n == 3) = false := by simpa using h3
    have HF : Hid (V.scheme n = false) := zpa (by rw [HS.out, b1, b2, b3]; rfl)
    clear h1 h2 h3
    go_enter Tryz.func149, Tryz.ntmps149
    go_wp2
    go_ret
    exact ⟨zf HF.out.symm, rfl⟩
theorem zbe (x : V.Itv) (w : World) : Calls Tryz.prog 113 #[itvV x] w fun e w' => e = .returned (cutV x.low) /\ Below w.heap.size w w' := by
 unfold itvV cutV V.Itv.low
 obtain ⟨lo, lk, hi, hk⟩ := x
 have HD : Hid (decide (lk = 2) = (lk == 2)) := zpa (by rw [Bool.eq_iff_iff]; simp)
 simp only
 rw [HD.out]
 generalize (⟨lo.toArray⟩ : ByteArray) = s
 generalize (⟨hi.toArray⟩ : ByteArray) = t
 go_enter Tryz.func113, Tryz.ntmps113
 go_wp2
 exact bodyPost_ret (v := .agg #[.string s, .bool (lk == 2)]) (by simp [results, Tryz.results113, go_sem]) rfl ⟨rfl, ((((zpd _ _).alloc (zpc _) _).alloc (by simp) _))⟩
theorem yx (x : V.Itv) (w : World) : Calls Tryz.prog 114 #[itvV x] w fun e w' => e = .returned (cutV x.high) /\ Below w.heap.size w w' := by
 unfold itvV cutV V.Itv.high
 obtain ⟨lo, lk, hi, hk⟩ := x
 have HD : Hid (decide (hk = 1) = (hk == 1)) := zpa (by rw [Bool.eq_iff_iff]; simp)
 simp only
 rw [HD.out]
 generalize (⟨lo.toArray⟩ : ByteArray) = s
 generalize (⟨hi.toArray⟩ : ByteArray) = t
 go_enter Tryz.func114, Tryz.ntmps114
 go_wp2
 exact bodyPost_ret (v := .agg #[.string t, .bool (hk == 1)]) (by simp [results, Tryz.results114, go_sem]) rfl ⟨rfl, ((((zpd _ _).alloc (zpc _) _).alloc (by simp) _))⟩
theorem ju (n : Int) (c d : V.Cut) (w : World) (hm : zm w) (hn : V.scheme n = true) (hc : V.valid n c.1 = true) (hd : V.valid n d.1 = true) :
  Calls Tryz.prog 112 #[.int .i64 n, cutV c, cutV d] w fun e w' => e = .returned (.int .i64 (V.cutC n c d)) /\ Below w.heap.size w w' := by
 obtain ⟨a, p⟩ := c
 obtain ⟨b, q⟩ := d
 have HF : Hid (V.cutC n (a, p) (b, q) = if V.cmpV n a b ≠ 0 ∨ p = q then V.cmpV n a b else if q then -1 else 1) := rfl
 have HN := zpa hn
 have HC := zpa (show V.valid n a = true from hc)
 have HD := zpa (show V.valid n b = true from hd)
 have hb0 : Below w.heap.size w ((w.alloc (.cells #[.string ⟨a.toArray⟩, .bool p] 152)).alloc (.cells #[.string ⟨b.toArray⟩, .bool q] 152)) := ((zpd _ _).alloc (zpc _) _).alloc (by simp) _
 have HB0 := zpa hb0
 have HM := zpa (hm.below hb0)
 clear hn hc hd hb0 hm
 unfold cutV
 simp only
 obtain ⟨z, hz⟩ : ∃ z, V.cmpV n a b = z := ⟨_, rfl⟩
 have HZ := zpa hz
 rw [hz] at HF
 have e1 : ((w.alloc (.cells #[.string ⟨a.toArray⟩, .bool p] 152)).alloc (.cells #[.string ⟨b.toArray⟩, .bool q] 152)).cell? ⟨w.heap.size, 1, none⟩ = some (.bool p) := by simp [zj]
 have e2 : ((w.alloc (.cells #[.string ⟨a.toArray⟩, .bool p] 152)).alloc (.cells #[.string ⟨b.toArray⟩, .bool q] 152)).cell? ⟨w.heap.size + 1, 1, none⟩ = some (.bool q) := by simp [zj]
 have HE := zpa (And.intro e1 e2)
 clear hz e1 e2
 go_enter Tryz.func112, Tryz.ntmps112
 go_wp2_with fail
 refine (zmc n a b z _ HM.out HN.out HC.out HD.out HZ.out).mono ?_
 rintro e w1 ⟨rfl, hb1⟩
 have c1 := (hb1.cell (p := ⟨w.heap.size, 1, none⟩) (by simp; omega)).trans HE.out.1
 have c2 := (hb1.cell (p := ⟨w.heap.size + 1, 1, none⟩) (by simp)).trans HE.out.2
 have HB1 := zpb HB0 hb1
 clear hb1
 by_cases h0 : z = 0
 ·subst h0
  cases p <;> cases q
  all_goals
   go_wp2
   go_ret
   exact ⟨zn (by rw [HF.out]; rfl), HB1.out⟩
 ·have hz1 : (z != 0) = true := by simpa using h0
  have hz2 : (z == 0) = false := by simpa using h0
  have HF2 : Hid (V.cutC n (a, p) (b, q) = z) := zpa (by rw [HF.out, if_pos (.inl h0)])
  clear h0 HF
  go_wp2
  go_ret
  exact ⟨zn HF2.out.symm, HB1.out⟩
theorem zdk (n : Int) (v : V.Bs) (k : Int) (w : World) (hm : zm w) (hv : v.length ≤ maxLen) :
  Calls Tryz.prog 150 #[.int .i64 n, .string ⟨v.toArray⟩, .int .i64 k] w fun e w' => e = .returned (.bool (V.jf n v k)) /\ Below w.heap.size w w' := by
 have HF : Hid (V.jf n v k = if k = 0 then v.isEmpty else (decide (k = 1) || decide (k = 2)) && V.valid n v) := rfl
 by_cases h0 : k = 0
 ·subst h0
  rw [if_pos rfl] at HF
  by_cases hv0 : v = []
  ·subst hv0
   go_enter Tryz.func150, Tryz.ntmps150
   go_wp2
   go_ret
   exact ⟨rfl, zpd _ _⟩
  ·have HFE : Hid (V.jf n v 0 = false) := zpa (by rw [HF.out]; simpa using hv0)
   have hne : ¬ v = [] := hv0
   clear hv0 HF
   go_enter Tryz.func150, Tryz.ntmps150
   go_wp2
   go_ret
   exact ⟨zf (by rw [HFE.out]; simpa using hne), zpd _ _⟩
 ·rw [if_neg h0] at HF
  have b0 : (k == 0) = false := by simpa using h0
  by_cases h12 : k = 1 ∨ k = 2
  ·have HF2 : Hid (V.jf n v k = V.valid n v) := zpa (by rw [HF.out]; rcases h12 with h | h <;> simp [h])
   have HM := zpa hm
   clear HF hm
   rcases h12 with rfl | rfl
   all_goals
    go_enter Tryz.func150, Tryz.ntmps150
    go_wp2_with fail
    refine (zc8 n ⟨v.toArray⟩ _ HM.out hv).mono ?_
    rintro e w1 ⟨rfl, hb1⟩
    rw [ja]
    have HB1 := zpa hb1
    clear hb1
    go_wp2
    go_ret
    exact ⟨zf HF2.out.symm, HB1.out⟩
  ·have b1 : (k == 1) = false := by simpa using fun h => h12 (.inl h)
   have b2 : (k == 2) = false := by simpa using fun h => h12 (.inr h)
   have HF2 : Hid (V.jf n v k = false) := zpa (by rw [HF.out, decide_eq_false (fun h => h12 (.inl h)), decide_eq_false (fun h => h12 (.inr h))]; rfl)
   clear HF h12 h0
   go_enter Tryz.func150, Tryz.ntmps150
   go_wp2
   go_ret
   exact ⟨zf HF2.out.symm, zpd _ _⟩
def ecV (x : V.Ec) : Value := .agg #[.int .i64 x.e, .string ⟨x.v.toArray⟩, .int .i64 x.s]
theorem za7 (x : V.Itv) (w : World) : Calls Tryz.prog 130 #[itvV x] w fun e w' => e = .returned (ecV (V.eLow x)) /\ Below w.heap.size w w' := by
 obtain ⟨lo, lk, hi, hk⟩ := x
 have HF : Hid (V.eLow ⟨lo, lk, hi, hk⟩ = if lk = 1 then ⟨0, lo, 0⟩ else if lk = 2 then ⟨0, lo, 1⟩ else V.ebot) := zpa rfl
 unfold itvV ecV
 simp only
 by_cases h1 : lk = 1
 ·subst h1
  have HR : Hid (V.eLow ⟨lo, 1, hi, hk⟩ = ⟨0, lo, 0⟩) := zpa rfl
  rw [HR.out]
  go_enter Tryz.func130, Tryz.ntmps130
  go_wp2
  exact bodyPost_ret (v := .agg #[.int .i64 0, .string ⟨lo.toArray⟩, .int .i64 0]) (by simp [results, Tryz.results130, go_sem]) rfl ⟨rfl, ((((zpd _ _).alloc (zpc _) _).alloc (by simp) _))⟩
 ·by_cases h2 : lk = 2
  ·subst h2
   have HR : Hid (V.eLow ⟨lo, 2, hi, hk⟩ = ⟨0, lo, 1⟩) := zpa rfl
   rw [HR.out]
   go_enter Tryz.func130, Tryz.ntmps130
   go_wp2
   exact bodyPost_ret (v := .agg #[.int .i64 0, .string ⟨lo.toArray⟩, .int .i64 1]) (by simp [results, Tryz.results130, go_sem]) rfl ⟨rfl, ((((zpd _ _).alloc (zpc _) _).alloc (by simp) _))⟩
  ·have b1 : (lk == 1) = false := by simpa using h1
   have b2 : (lk == 2) = false := by simpa using h2
   have HR : Hid (V.eLow ⟨lo, lk, hi, hk⟩ = ⟨-1, [], 0⟩) := zpa (by rw [HF.out, if_neg h1, if_neg h2]; rfl)
   rw [HR.out]
   clear h1 h2
   go_enter Tryz.func130, Tryz.ntmps130
   go_wp2
   exact bodyPost_ret (v := .agg #[.int .i64 (-1), .string ⟨#[]⟩, .int .i64 0]) (by simp [results, Tryz.results130, go_sem]) rfl ⟨rfl, ((((zpd _ _).alloc (zpc _) _).alloc (by simp) _))⟩
theorem wi (x : V.Itv) (w : World) : Calls Tryz.prog 131 #[itvV x] w fun e w' => e = .returned (ecV (V.yh x)) /\ Below w.heap.size w w' := by
 obtain ⟨lo, lk, hi, hk⟩ := x
 have HF : Hid (V.yh ⟨lo, lk, hi, hk⟩ = if hk = 1 then ⟨0, hi, 1⟩ else if hk = 2 then ⟨0, hi, 0⟩ else V.etop) := zpa rfl
 unfold itvV ecV
 simp only
 by_cases h1 : hk = 1
 ·subst h1
  have HR : Hid (V.yh ⟨lo, lk, hi, 1⟩ = ⟨0, hi, 1⟩) := zpa rfl
  rw [HR.out]
  go_enter Tryz.func131, Tryz.ntmps131
  go_wp2
  exact bodyPost_ret (v := .agg #[.int .i64 0, .string ⟨hi.toArray⟩, .int .i64 1]) (by simp [results, Tryz.results131, go_sem]) rfl ⟨rfl, ((((zpd _ _).alloc (zpc _) _).alloc (by simp) _))⟩
 ·by_cases h2 : hk = 2
  ·subst h2
   have HR : Hid (V.yh ⟨lo, lk, hi, 2⟩ = ⟨0, hi, 0⟩) := zpa rfl
   rw [HR.out]
   go_enter Tryz.func131, Tryz.ntmps131
   go_wp2
   exact bodyPost_ret (v := .agg #[.int .i64 0, .string ⟨hi.toArray⟩, .int .i64 0]) (by simp [results, Tryz.results131, go_sem]) rfl ⟨rfl, ((((zpd _ _).alloc (zpc _) _).alloc (by simp) _))⟩
  ·have b1 : (hk == 1) = false := by simpa using h1
   have b2 : (hk == 2) = false := by simpa using h2
   have HR : Hid (V.yh ⟨lo, lk, hi, hk⟩ = ⟨1, [], 0⟩) := zpa (by rw [HF.out, if_neg h1, if_neg h2]; rfl)
   rw [HR.out]
   clear h1 h2
   go_enter Tryz.func131, Tryz.ntmps131
   go_wp2
   exact bodyPost_ret (v := .agg #[.int .i64 1, .string ⟨#[]⟩, .int .i64 0]) (by simp [results, Tryz.results131, go_sem]) rfl ⟨rfl, ((((zpd _ _).alloc (zpc _) _).alloc (by simp) _))⟩
theorem zbk (n : Int) (a b : V.Ec) (w : World) (hm : zm w) (hn : V.scheme n = true) (ha : V.EcOk n a) (hb : V.EcOk n b) :
  Calls Tryz.prog 129 #[.int .i64 n, ecV a, ecV b] w fun e w' => e = .returned (.int .i64 (V.ecmp n a b)) /\ Below w.heap.size w w' := by
 have HZ : Hid (V.ecmp n a b = if a.e ≠ b.e ∨ a.e ≠ 0 then a.e - b.e else if V.cmpV n a.v b.v ≠ 0 then V.cmpV n a.v b.v else a.s - b.s) := zpa rfl
 have HB := zpa (show Below w.heap.size w ((w.alloc (.cells #[.int .i64 a.e, .string ⟨a.v.toArray⟩, .int .i64 a.s] 168)).alloc (.cells #[.int .i64 b.e, .string ⟨b.v.toArray⟩, .int .i64 b.s] 168)) from ((zpd _ _).alloc (zpc _) _).alloc (by simp) _)
 have HM := zpa hm
 have HN := zpa hn
 clear hm hn
 unfold ecV
 rcases ha with rfl | rfl | ⟨⟨x, p⟩, hx, rfl⟩ <;> rcases hb with rfl | rfl | ⟨⟨y, q⟩, hy, rfl⟩
 rotate_right
 ·have HX := zpa (show V.valid n x = true from hx)
  have HY := zpa (show V.valid n y = true from hy)
  clear hx hy
  unfold V.eat at HB HZ ⊢
  simp only at HB HZ ⊢
  obtain ⟨sp, hsp⟩ : ∃ sp : Int, sp = if p then 1 else 0 := ⟨_, rfl⟩
  obtain ⟨sq, hsq⟩ : ∃ sq : Int, sq = if q then 1 else 0 := ⟨_, rfl⟩
  have hsp1 : 0 ≤ sp /\ sp ≤ 1 := by rw [hsp]; cases p <;> simp
  have hsq1 : 0 ≤ sq /\ sq ≤ 1 := by rw [hsq]; cases q <;> simp
  obtain ⟨hsp1, hsp2⟩ := hsp1
  obtain ⟨hsq1, hsq2⟩ := hsq1
  rw [← hsp, ← hsq] at HB HZ ⊢
  clear hsp hsq
  have HM0 := zpa (HM.out.below HB.out)
  obtain ⟨z, hz⟩ : ∃ z, V.cmpV n x y = z := ⟨_, rfl⟩
  rw [hz] at HZ
  have HC := zpa hz
  clear hz
  have e1 : ((w.alloc (.cells #[.int .i64 0, .string ⟨x.toArray⟩, .int .i64 sp] 168)).alloc (.cells #[.int .i64 0, .string ⟨y.toArray⟩, .int .i64 sq] 168)).cell? ⟨w.heap.size, 2, none⟩ = some (.int .i64 sp) := by simp [zj]
  have e2 : ((w.alloc (.cells #[.int .i64 0, .string ⟨x.toArray⟩, .int .i64 sp] 168)).alloc (.cells #[.int .i64 0, .string ⟨y.toArray⟩, .int .i64 sq] 168)).cell? ⟨w.heap.size + 1, 2, none⟩ = some (.int .i64 sq) := by simp [zj]
  have hw := kd n ⟨x.toArray⟩ ⟨y.toArray⟩ ((w.alloc (.cells #[.int .i64 0, .string ⟨x.toArray⟩, .int .i64 sp] 168)).alloc (.cells #[.int .i64 0, .string ⟨y.toArray⟩, .int .i64 sq] 168)) HM0.out HN.out (by rw [ja]; exact HX.out) (by rw [ja]; exact HY.out)
  rw [ja, ja, HC.out] at hw
  have HW := zpa hw
  have HE := zpa (And.intro e1 e2)
  clear hw e1 e2
  go_enter Tryz.func129, Tryz.ntmps129
  go_wp2_with fail
  refine HW.out.mono ?_
  rintro e w1 ⟨rfl, hb1⟩
  have c1 := (hb1.cell (p := ⟨w.heap.size, 2, none⟩) (by simp; omega)).trans HE.out.1
  have c2 := (hb1.cell (p := ⟨w.heap.size + 1, 2, none⟩) (by simp)).trans HE.out.2
  have HB1 := zpb HB hb1
  clear hb1
  by_cases h0 : z = 0
  ·subst h0
   have HF2 : Hid (V.ecmp n ⟨0, x, sp⟩ ⟨0, y, sq⟩ = sp - sq) := zpa (by rw [HZ.out]; simp)
   clear HZ
   go_wp2
   go_ret
   exact ⟨zn HF2.out.symm, HB1.out⟩
  ·have hz1 : (z != 0) = true := by simpa using h0
   have HF2 : Hid (V.ecmp n ⟨0, x, sp⟩ ⟨0, y, sq⟩ = z) := zpa (by
     rw [HZ.out, if_neg (by simp), if_pos h0])
   clear h0 HZ
   go_wp2
   go_ret
   exact ⟨zn HF2.out.symm, HB1.out⟩
 all_goals try (cases p)
 all_goals try (cases q)
 all_goals
  try unfold V.ebot at HB HZ ⊢
  try unfold V.etop at HB HZ ⊢
  try unfold V.eat at HB HZ ⊢
  simp only at HB HZ ⊢
  go_enter Tryz.func129, Tryz.ntmps129
  go_wp2
  go_ret
  exact ⟨zn (by unfold V.ecmp; simp), HB.out⟩
theorem zdt (n : Int) (v : V.Bs) (k : Int) (w : World) (hm : zm w) (hv : v.length ≤ maxLen) :
  Calls Tryz.prog 128 #[.int .i64 n, .int .i64 k, .string ⟨v.toArray⟩] w fun e w' => e = .returned (.bool (V.jf n v k)) /\ Below w.heap.size w w' := by
 have HF : Hid (V.jf n v k = if k = 0 then v.isEmpty else (decide (k = 1) || decide (k = 2)) && V.valid n v) := rfl
 by_cases h0 : k = 0
 ·subst h0
  rw [if_pos rfl] at HF
  by_cases hv0 : v = []
  ·subst hv0
   go_enter Tryz.func128, Tryz.ntmps128
   go_wp2
   go_ret
   exact ⟨rfl, zpd _ _⟩
  ·have HFE : Hid (V.jf n v 0 = false) := zpa (by rw [HF.out]; simpa using hv0)
   have hne : ¬ v = [] := hv0
   clear hv0 HF
   go_enter Tryz.func128, Tryz.ntmps128
   go_wp2
   go_ret
   exact ⟨zf (by rw [HFE.out]; simpa using hne), zpd _ _⟩
 ·rw [if_neg h0] at HF
  have b0 : (k == 0) = false := by simpa using h0
  by_cases h12 : k = 1 ∨ k = 2
  ·have HF2 : Hid (V.jf n v k = V.valid n v) := zpa (by rw [HF.out]; rcases h12 with h | h <;> simp [h])
   have HM := zpa hm
   clear HF hm
   rcases h12 with rfl | rfl
   all_goals
    go_enter Tryz.func128, Tryz.ntmps128
    go_wp2_with fail
    refine (zb1 n ⟨v.toArray⟩ _ HM.out hv).mono ?_
    rintro e w1 ⟨rfl, hb1⟩
    rw [ja]
    have HB1 := zpa hb1
    clear hb1
    go_wp2
    go_ret
    exact ⟨zf HF2.out.symm, HB1.out⟩
  ·have b1 : (k == 1) = false := by simpa using fun h => h12 (.inl h)
   have b2 : (k == 2) = false := by simpa using fun h => h12 (.inr h)
   have HF2 : Hid (V.jf n v k = false) := zpa (by rw [HF.out, decide_eq_false (fun h => h12 (.inl h)), decide_eq_false (fun h => h12 (.inr h))]; rfl)
   clear HF h12 h0
   go_enter Tryz.func128, Tryz.ntmps128
   go_wp2
   go_ret
   exact ⟨zf HF2.out.symm, zpd _ _⟩
end Go.Proofs.YtbikeahmldobkaaGreatDoor
