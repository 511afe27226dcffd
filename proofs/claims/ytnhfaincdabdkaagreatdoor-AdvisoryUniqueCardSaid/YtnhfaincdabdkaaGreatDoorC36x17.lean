/-
  Lemmas for the law.
-/
import Derived.Test.YtnhfaincdabdkaaGreatDoorC36x03
import Derived.Test.YtnhfaincdabdkaaGreatDoorC36x07
import Derived.Test.YtnhfaincdabdkaaGreatDoorC36x12
import Derived.Test.YtnhfaincdabdkaaGreatDoorC36x14
import Derived.Test.YtnhfaincdabdkaaGreatDoorC36x15
import Derived.Test.YtnhfaincdabdkaaGreatDoorC36x01
import Derived.Test.YtnhfaincdabdkaaGreatDoorC36x06
import Derived.Test.YtnhfaincdabdkaaGreatDoorC36x16
import Derived.BigRegion
import Derived.Deep.RegionHeld3
set_option linter.all false
set_option maxRecDepth 100000
set_option maxHeartbeats 1600000
namespace Go.Proofs.YtnhfaincdabdkaaGreatDoor
open Go.RowKit
theorem zfa (l : V.Bs) (c : UInt8) : (0 ≤ Lib.indexByte l c) ↔ c ∈ l := decide_eq_decide.1 (V.xl l c)
theorem zim {s : V.Bs} (h : s.length < 1 ∨ 200 < s.length) : V.yj s = false := by
 unfold V.yj
 rcases h with h | h
 ·have : decide (1 ≤ s.length) = false := decide_eq_false (by omega)
  rw [this]; rfl
 ·have : decide (s.length ≤ 200) = false := decide_eq_false (by omega)
  rw [this]; simp
theorem ztr {s : V.Bs} (h : (0 : UInt8) ∈ s) : V.yj s = false := by
 unfold V.yj; simp [h]
theorem zty {s : V.Bs} (h1 : 1 ≤ s.length) (h2 : s.length ≤ 200) (h3 : (0 : UInt8) ∉ s) : V.yj s = V.uu s := by
 unfold V.yj; simp [h1, h2, h3]
theorem zwt {P : Prop} (h : P := by
 have HE := zuy e
 clear HD e
 go_wp2
 go_ret
 refine ⟨zd ?_, HB1.out⟩
 rw [HP.out, if_pos (by trivial), HC.out, HE.out]
 cases more <;> rfl) : P := h
theorem zyp {P : Prop} (h : P := by
 go_enter Tryz.func115, Tryz.ntmps115
 go_wp2
 go_ret
 exact ⟨zd HR.out.symm, zu1 _ _⟩) : P := h
theorem path_any (s : ByteArray) (w : World) (hm : zg w) (hs : s.size ≤ maxLen) :
  Calls Tryz.prog 115 #[.string s] w fun e w' => e = .returned (.bool (V.yj s.data.toList)) /\ Below w.heap.size w w' := by
 have HM := zuy hm
 unfold maxLen at hs
 clear hm
 by_cases h1 : s.size < 1
 ·have HR := zuy (zim (s := s.data.toList) (.inl (by rw [zf]; exact h1)))
  exact zyp
 ·by_cases h2 : 200 < s.size
  ·have HR := zuy (zim (s := s.data.toList) (.inr (by rw [zf]; exact h2)))
   exact zyp
  ·have h1' : 1 ≤ s.size := by omega
   have h2' : s.size ≤ 200 := by omega
   clear h1 h2
   by_cases hz : (0 : UInt8) ∈ s.data.toList
   ·have HR := zuy (ztr hz)
    have HI : 0 ≤ Lib.indexByte s.data.toList 0 := (zfa s.data.toList 0).2 hz
    clear hz
    go_enter Tryz.func115, Tryz.ntmps115
    go_wp2_with fail
    refine (Tryz.strings_IndexByte s 0 _).mono ?_
    rintro e w' ⟨rfl, rfl⟩
    rw [show ((0 : Int).toNat.toUInt8) = (0 : UInt8) from rfl]
    generalize Lib.indexByte s.data.toList 0 = ib at *
    go_wp2
    go_ret
    exact ⟨zd HR.out.symm, zu1 _ _⟩
   ·have HR := zuy (zty (s := s.data.toList) (by rw [zf]; exact h1') (by rw [zf]; exact h2') hz)
    have HI : ¬ 0 ≤ Lib.indexByte s.data.toList 0 := fun g => hz ((zfa s.data.toList 0).1 g)
    clear hz
    go_enter Tryz.func115, Tryz.ntmps115
    go_wp2_with fail
    refine (Tryz.strings_IndexByte s 0 _).mono ?_
    rintro e w' ⟨rfl, rfl⟩
    rw [show ((0 : Int).toNat.toUInt8) = (0 : UInt8) from rfl]
    generalize Lib.indexByte s.data.toList 0 = ib at *
    go_wp2
    go_loopw [0, 3] (fun sv mo wr => ∃ (x : ByteArray) (more : Bool), sv = .string x /\ mo = .bool more /\ x.size ≤ s.size /\ V.yj s.data.toList = (if more then V.uu x.data.toList else true) /\ Below w'.heap.size w' wr) (fun sv mo _ => (match sv with | .string x => x.size | _ => 0) + (match mo with | .bool true => 1 | _ => 0))
    case atStart => exact ⟨s, true, rfl, rfl, zu0 _, HR.out, zu1 _ _⟩
    case round =>
     obtain ⟨x, more, rfl, rfl, hx, hp, hb⟩ := hrel
     have HB := zuy hb
     have HP := zuy hp
     clear hb hp
     rcases more with _ | _
     ·go_wp2
      go_ret
      exact ⟨zd HP.out.symm, HB.out⟩
     ·have hcl := yl 47 x.data.toList
      have HC := zuy (V.zuq x.data.toList)
      have HD := zuy (V.zny (V.cut1 47 x.data.toList).1)
      have HS : Hid ((V.cut1 47 x.data.toList).2.2 = true -> (V.cut1 47 x.data.toList).2.1.length < x.size) := zuy (fun h => by
        have := congrArg List.length (V.zmq 47 x.data.toList h)
        rw [zf] at this
        simp at this; omega)
      rw [zf] at hcl
      go_wp2_with fail
      refine (zcm x 47 _ (HM.out.below HB.out) (by omega)).mono ?_
      rintro e w1 ⟨rfl, hb1⟩
      have HB1 := zuz HB hb1
      clear hb1
      generalize (V.cut1 47 x.data.toList).1 = p at *
      generalize (V.cut1 47 x.data.toList).2.1 = q at *
      generalize (V.cut1 47 x.data.toList).2.2 = more at *
      rcases HD.out with ⟨rfl, e⟩ | ⟨rfl, e⟩ | ⟨rfl, e⟩ | ⟨e1, e2, e3, e⟩
      ·exact zwt
      ·exact zwt
      ·exact zwt
      ·have HE := zuy e
       clear HD e
       have HT : Hid (V.yj s.data.toList = if more then V.uu q else true) := zuy (by
         rw [HP.out, if_pos (by trivial), HC.out, HE.out]; cases more <;> rfl)
       clear HC HP
       go_wp2
       go_roundw
       case rel => exact ⟨⟨q.toArray⟩, more, rfl, rfl, by show q.toArray.size ≤ _; simp; omega, by rw [zad]; exact HT.out, HB1.out⟩
       case measure =>
        have hq : (⟨q.toArray⟩ : ByteArray).size = q.length := by show q.toArray.size = _; simp
        have := HS.out
        rcases more with _ | _
        ·simp [hq]; omega
        ·have := this rfl
         simp [hq]; omega
open Go.RowKit
theorem zrh (n : Int) (x y : V.Bs) (c : Int) (w : World) (hm : zg w) (hn : V.scheme n = true) (hx : V.valid n x = true) (hy : V.valid n y = true) (hc : V.cmpV n x y = c) :
  Calls Tryz.prog 125 #[.int .i64 n, .string ⟨x.toArray⟩, .string ⟨y.toArray⟩] w fun e w' => e = .returned (.tuple #[.int .i64 c, .int .i64 0]) /\ Below w.heap.size w w' := by
 have l1 := V.uf hx
 have l2 := V.uf hy
 refine zrl n ⟨x.toArray⟩ ⟨y.toArray⟩ c 0 ?_ w hm (by show x.length ≤ _; unfold maxLen; omega) (by show y.length ≤ _; unfold maxLen; omega)
 simp only
 unfold V.ql
 rw [hn, hx, hy]
 simp only [Bool.not_true, Bool.false_eq_true, if_false, Bool.and_self, if_true, hc]
def cutV (c : V.Cut) : Value := .agg #[.string ⟨c.1.toArray⟩, .bool c.2]
def itvV (x : V.Itv) : Value := .agg #[.string ⟨x.lo.toArray⟩, .int .i64 x.lk, .string ⟨x.hi.toArray⟩, .int .i64 x.hk]
def zbm (w : World) (b o : Nat) (x : V.Itv) : Prop := w.cell? ⟨b, o, none⟩ = some (.string ⟨x.lo.toArray⟩) /\ w.cell? ⟨b, o + 1, none⟩ = some (.int .i64 x.lk) /\ w.cell? ⟨b, o + 2, none⟩ = some (.string ⟨x.hi.toArray⟩) /\ w.cell? ⟨b, o + 3, none⟩ = some (.int .i64 x.hk)
def Itvs (w : World) (v : Value) (l : List V.Itv) : Prop := ∃ a cap, v = .slice a l.length cap /\ ∀ j (h : j < l.length), ∃ b off, a = some ⟨b, off, none⟩ /\ b < w.heap.size /\ zbm w b (off + j * 4) l[j]
theorem zbm.below {w w' : World} {b o : Nat} {x : V.Itv} (h : zbm w b o x) (hlt : b < w.heap.size) (hb : Below w.heap.size w w') : zbm w' b o x :=
 ⟨(hb.cell (p := ⟨b, o, none⟩) hlt).trans h.1, (hb.cell (p := ⟨b, o + 1, none⟩) hlt).trans h.2.1, (hb.cell (p := ⟨b, o + 2, none⟩) hlt).trans h.2.2.1, (hb.cell (p := ⟨b, o + 3, none⟩) hlt).trans h.2.2.2⟩
theorem Itvs.nil (w : World) : Itvs w (.slice none 0 0) [] := ⟨none, 0, rfl, fun j h => by simp at h⟩
theorem Itvs.below {w w' : World} {v : Value} {l : List V.Itv} (h : Itvs w v l) (hb : Below w.heap.size w w') : Itvs w' v l := by
 obtain ⟨a, cap, e, hc⟩ := h
 refine ⟨a, cap, e, fun j hj => ?_⟩
 obtain ⟨b, off, ea, hlt, hcell⟩ := hc j hj
 exact ⟨b, off, ea, Nat.lt_of_lt_of_le hlt hb.size, hcell.below hlt hb⟩
theorem Itvs.slice {w : World} {v : Value} {l : List V.Itv} (h : Itvs w v l) : ∃ a cap, v = .slice a l.length cap := by
 obtain ⟨a, c, e, _⟩ := h
 exact ⟨a, c, e⟩
theorem Itvs.at {w : World} {a : Option Addr} {n cap : Nat} {l : List V.Itv} (h : Itvs w (.slice a n cap) l) (j : Nat) (hj : j < l.length) : ∃ b off, a = some ⟨b, off, none⟩ /\ b < w.heap.size /\ zbm w b (off + j * 4) l[j] := by
 obtain ⟨a', c, e, hc⟩ := h
 obtain ⟨b, off, ea, hb, hcell⟩ := hc j hj
 cases e
 exact ⟨b, off, ea, hb, hcell⟩
theorem zw3 {P : Prop} (h : P := by
 go_enter Tryz.func121, Tryz.ntmps121
 go_wp2
 go_ret
 exact ⟨rfl, rfl⟩) : P := h
theorem zaf (n : Int) (w : World) : Calls Tryz.prog 121 #[.int .i64 n] w fun e w' => e = .returned (.bool (V.scheme n)) /\ w' = w := by
 have HS : Hid (V.scheme n = (n == 1 || (n == 3 || n == 2))) := zuy (by unfold V.scheme; cases (n == 1) <;> cases (n == 2) <;> cases (n == 3) <;> rfl)
 by_cases h1 : n = 1
 ·subst h1
  exact zw3
 ·by_cases h2 : n = 2
  ·subst h2
   exact zw3
  ·by_cases h3 : n = 3
   ·subst h3
    exact zw3
   ·have b1 : (n == 1) = false := by simpa using h1
    have b2 : (n == 2) = false := by simpa using h2
    have b3 : (n == 3) = false := by simpa using h3
    have HF : Hid (V.scheme n = false) := zuy (by rw [HS.out, b1, b2, b3]; rfl)
    clear h1 h2 h3
    go_enter Tryz.func121, Tryz.ntmps121
    go_wp2
    go_ret
    exact ⟨zd HF.out.symm, rfl⟩
theorem zat (x : V.Itv) (w : World) : Calls Tryz.prog 86 #[itvV x] w fun e w' => e = .returned (cutV x.low) /\ Below w.heap.size w w' := by
 unfold itvV cutV V.Itv.low
 obtain ⟨lo, lk, hi, hk⟩ := x
 have HD : Hid (decide (lk = 2) = (lk == 2)) := zuy (by rw [Bool.eq_iff_iff]; simp)
 simp only
 rw [HD.out]
 generalize (⟨lo.toArray⟩ : ByteArray) = s
 generalize (⟨hi.toArray⟩ : ByteArray) = t
 go_enter Tryz.func86, Tryz.ntmps86
 go_wp2
 exact bodyPost_ret (v := .agg #[.string s, .bool (lk == 2)]) (by simp [results, Tryz.results86, go_sem]) rfl ⟨rfl, ((((zu1 _ _).alloc (zu0 _) _).alloc (by simp) _))⟩
theorem yt (x : V.Itv) (w : World) : Calls Tryz.prog 87 #[itvV x] w fun e w' => e = .returned (cutV x.high) /\ Below w.heap.size w w' := by
 unfold itvV cutV V.Itv.high
 obtain ⟨lo, lk, hi, hk⟩ := x
 have HD : Hid (decide (hk = 1) = (hk == 1)) := zuy (by rw [Bool.eq_iff_iff]; simp)
 simp only
 rw [HD.out]
 generalize (⟨lo.toArray⟩ : ByteArray) = s
 generalize (⟨hi.toArray⟩ : ByteArray) = t
 go_enter Tryz.func87, Tryz.ntmps87
 go_wp2
 exact bodyPost_ret (v := .agg #[.string t, .bool (hk == 1)]) (by simp [results, Tryz.results87, go_sem]) rfl ⟨rfl, ((((zu1 _ _).alloc (zu0 _) _).alloc (by simp) _))⟩
theorem km (n : Int) (c d : V.Cut) (w : World) (hm : zg w) (hn : V.scheme n = true) (hc : V.valid n c.1 = true) (hd : V.valid n d.1 = true) :
  Calls Tryz.prog 85 #[.int .i64 n, cutV c, cutV d] w fun e w' => e = .returned (.int .i64 (V.cutC n c d)) /\ Below w.heap.size w w' := by
 obtain ⟨a, p⟩ := c
 obtain ⟨b, q⟩ := d
 have HF : Hid (V.cutC n (a, p) (b, q) = if V.cmpV n a b ≠ 0 ∨ p = q then V.cmpV n a b else if q then -1 else 1) := rfl
 have HN := zuy hn
 have HC := zuy (show V.valid n a = true from hc)
 have HD := zuy (show V.valid n b = true from hd)
 have hb0 : Below w.heap.size w ((w.alloc (.cells #[.string ⟨a.toArray⟩, .bool p] 118)).alloc (.cells #[.string ⟨b.toArray⟩, .bool q] 118)) := ((zu1 _ _).alloc (zu0 _) _).alloc (by simp) _
 have HB0 := zuy hb0
 have HM := zuy (hm.below hb0)
 clear hn hc hd hb0 hm
 unfold cutV
 simp only
 obtain ⟨z, hz⟩ : ∃ z, V.cmpV n a b = z := ⟨_, rfl⟩
 have HZ := zuy hz
 rw [hz] at HF
 have e1 : ((w.alloc (.cells #[.string ⟨a.toArray⟩, .bool p] 118)).alloc (.cells #[.string ⟨b.toArray⟩, .bool q] 118)).cell? ⟨w.heap.size, 1, none⟩ = some (.bool p) := by simp [zc]
 have e2 : ((w.alloc (.cells #[.string ⟨a.toArray⟩, .bool p] 118)).alloc (.cells #[.string ⟨b.toArray⟩, .bool q] 118)).cell? ⟨w.heap.size + 1, 1, none⟩ = some (.bool q) := by simp [zc]
 have HE := zuy (And.intro e1 e2)
 clear hz e1 e2
 go_enter Tryz.func85, Tryz.ntmps85
 go_wp2_with fail
 refine (zrh n a b z _ HM.out HN.out HC.out HD.out HZ.out).mono ?_
 rintro e w1 ⟨rfl, hb1⟩
 have c1 := (hb1.cell (p := ⟨w.heap.size, 1, none⟩) (by simp; omega)).trans HE.out.1
 have c2 := (hb1.cell (p := ⟨w.heap.size + 1, 1, none⟩) (by simp)).trans HE.out.2
 have HB1 := zuz HB0 hb1
 clear hb1
 by_cases h0 : z = 0
 ·subst h0
  cases p <;> cases q
  all_goals
   go_wp2
   go_ret
   exact ⟨zn (by rw [HF.out]; rfl), HB1.out⟩
 ·have hz1 : (z != 0) = true := by simpa using h0
  have hz2 : (z == 0) = false := by simpa using h0
  have HF2 : Hid (V.cutC n (a, p) (b, q) = z) := zuy (by rw [HF.out, if_pos (.inl h0)])
  clear h0 HF
  go_wp2
  go_ret
  exact ⟨zn HF2.out.symm, HB1.out⟩
theorem zg8 (n : Int) (v : V.Bs) (k : Int) (w : World) (hm : zg w) (hv : v.length ≤ maxLen) :
  Calls Tryz.prog 122 #[.int .i64 n, .string ⟨v.toArray⟩, .int .i64 k] w fun e w' => e = .returned (.bool (V.jh n v k)) /\ Below w.heap.size w w' := by
 have HF : Hid (V.jh n v k = if k = 0 then v.isEmpty else (decide (k = 1) || decide (k = 2)) && V.valid n v) := rfl
 by_cases h0 : k = 0
 ·subst h0
  rw [if_pos rfl] at HF
  by_cases hv0 : v = []
  ·subst hv0
   go_enter Tryz.func122, Tryz.ntmps122
   go_wp2
   go_ret
   exact ⟨rfl, zu1 _ _⟩
  ·have HFE : Hid (V.jh n v 0 = false) := zuy (by rw [HF.out]; simpa using hv0)
   have hne : ¬ v = [] := hv0
   clear hv0 HF
   go_enter Tryz.func122, Tryz.ntmps122
   go_wp2
   go_ret
   exact ⟨zd (by rw [HFE.out]; simpa using hne), zu1 _ _⟩
 ·rw [if_neg h0] at HF
  have b0 : (k == 0) = false := by simpa using h0
  by_cases h12 : k = 1 ∨ k = 2
  ·have HF2 : Hid (V.jh n v k = V.valid n v) := zuy (by rw [HF.out]; rcases h12 with h | h <;> simp [h])
   have HM := zuy hm
   clear HF hm
   rcases h12 with rfl | rfl
   all_goals
    go_enter Tryz.func122, Tryz.ntmps122
    go_wp2_with fail
    refine (yz n ⟨v.toArray⟩ _ HM.out hv).mono ?_
    rintro e w1 ⟨rfl, hb1⟩
    rw [zad]
    have HB1 := zuy hb1
    clear hb1
    go_wp2
    go_ret
    exact ⟨zd HF2.out.symm, HB1.out⟩
  ·have b1 : (k == 1) = false := by simpa using fun h => h12 (.inl h)
   have b2 : (k == 2) = false := by simpa using fun h => h12 (.inr h)
   have HF2 : Hid (V.jh n v k = false) := zuy (by rw [HF.out, decide_eq_false (fun h => h12 (.inl h)), decide_eq_false (fun h => h12 (.inr h))]; rfl)
   clear HF h12 h0
   go_enter Tryz.func122, Tryz.ntmps122
   go_wp2
   go_ret
   exact ⟨zd HF2.out.symm, zu1 _ _⟩
open Go.RowKit
def ecV (x : V.Ec) : Value := .agg #[.int .i64 x.e, .string ⟨x.v.toArray⟩, .int .i64 x.s]
theorem vl (x : V.Itv) (w : World) : Calls Tryz.prog 145 #[itvV x] w fun e w' => e = .returned (ecV (V.eLow x)) /\ Below w.heap.size w w' := by
 obtain ⟨lo, lk, hi, hk⟩ := x
 have HF : Hid (V.eLow ⟨lo, lk, hi, hk⟩ = if lk = 1 then ⟨0, lo, 0⟩ else if lk = 2 then ⟨0, lo, 1⟩ else V.ebot) := zuy rfl
 unfold itvV ecV
 simp only
 by_cases h1 : lk = 1
 ·subst h1
  have HR : Hid (V.eLow ⟨lo, 1, hi, hk⟩ = ⟨0, lo, 0⟩) := zuy rfl
  rw [HR.out]
  go_enter Tryz.func145, Tryz.ntmps145
  go_wp2
  exact bodyPost_ret (v := .agg #[.int .i64 0, .string ⟨lo.toArray⟩, .int .i64 0]) (by simp [results, Tryz.results145, go_sem]) rfl ⟨rfl, ((((zu1 _ _).alloc (zu0 _) _).alloc (by simp) _))⟩
 ·by_cases h2 : lk = 2
  ·subst h2
   have HR : Hid (V.eLow ⟨lo, 2, hi, hk⟩ = ⟨0, lo, 1⟩) := zuy rfl
   rw [HR.out]
   go_enter Tryz.func145, Tryz.ntmps145
   go_wp2
   exact bodyPost_ret (v := .agg #[.int .i64 0, .string ⟨lo.toArray⟩, .int .i64 1]) (by simp [results, Tryz.results145, go_sem]) rfl ⟨rfl, ((((zu1 _ _).alloc (zu0 _) _).alloc (by simp) _))⟩
  ·have b1 : (lk == 1) = false := by simpa using h1
   have b2 : (lk == 2) = false := by simpa using h2
   have HR : Hid (V.eLow ⟨lo, lk, hi, hk⟩ = ⟨-1, [], 0⟩) := zuy (by rw [HF.out, if_neg h1, if_neg h2]; rfl)
   rw [HR.out]
   clear h1 h2
   go_enter Tryz.func145, Tryz.ntmps145
   go_wp2
   exact bodyPost_ret (v := .agg #[.int .i64 (-1), .string ⟨#[]⟩, .int .i64 0]) (by simp [results, Tryz.results145, go_sem]) rfl ⟨rfl, ((((zu1 _ _).alloc (zu0 _) _).alloc (by simp) _))⟩
theorem vt (x : V.Itv) (w : World) : Calls Tryz.prog 146 #[itvV x] w fun e w' => e = .returned (ecV (V.kh x)) /\ Below w.heap.size w w' := by
 obtain ⟨lo, lk, hi, hk⟩ := x
 have HF : Hid (V.kh ⟨lo, lk, hi, hk⟩ = if hk = 1 then ⟨0, hi, 1⟩ else if hk = 2 then ⟨0, hi, 0⟩ else V.etop) := zuy rfl
 unfold itvV ecV
 simp only
 by_cases h1 : hk = 1
 ·subst h1
  have HR : Hid (V.kh ⟨lo, lk, hi, 1⟩ = ⟨0, hi, 1⟩) := zuy rfl
  rw [HR.out]
  go_enter Tryz.func146, Tryz.ntmps146
  go_wp2
  exact bodyPost_ret (v := .agg #[.int .i64 0, .string ⟨hi.toArray⟩, .int .i64 1]) (by simp [results, Tryz.results146, go_sem]) rfl ⟨rfl, ((((zu1 _ _).alloc (zu0 _) _).alloc (by simp) _))⟩
 ·by_cases h2 : hk = 2
  ·subst h2
   have HR : Hid (V.kh ⟨lo, lk, hi, 2⟩ = ⟨0, hi, 0⟩) := zuy rfl
   rw [HR.out]
   go_enter Tryz.func146, Tryz.ntmps146
   go_wp2
   exact bodyPost_ret (v := .agg #[.int .i64 0, .string ⟨hi.toArray⟩, .int .i64 0]) (by simp [results, Tryz.results146, go_sem]) rfl ⟨rfl, ((((zu1 _ _).alloc (zu0 _) _).alloc (by simp) _))⟩
  ·have b1 : (hk == 1) = false := by simpa using h1
   have b2 : (hk == 2) = false := by simpa using h2
   have HR : Hid (V.kh ⟨lo, lk, hi, hk⟩ = ⟨1, [], 0⟩) := zuy (by rw [HF.out, if_neg h1, if_neg h2]; rfl)
   rw [HR.out]
   clear h1 h2
   go_enter Tryz.func146, Tryz.ntmps146
   go_wp2
   exact bodyPost_ret (v := .agg #[.int .i64 1, .string ⟨#[]⟩, .int .i64 0]) (by simp [results, Tryz.results146, go_sem]) rfl ⟨rfl, ((((zu1 _ _).alloc (zu0 _) _).alloc (by simp) _))⟩
theorem yk (n : Int) (a b : V.Ec) (w : World) (hm : zg w) (hn : V.scheme n = true) (ha : V.EcOk n a) (hb : V.EcOk n b) :
  Calls Tryz.prog 144 #[.int .i64 n, ecV a, ecV b] w fun e w' => e = .returned (.int .i64 (V.ecmp n a b)) /\ Below w.heap.size w w' := by
 have HZ : Hid (V.ecmp n a b = if a.e ≠ b.e ∨ a.e ≠ 0 then a.e - b.e else if V.cmpV n a.v b.v ≠ 0 then V.cmpV n a.v b.v else a.s - b.s) := zuy rfl
 have HB := zuy (show Below w.heap.size w ((w.alloc (.cells #[.int .i64 a.e, .string ⟨a.v.toArray⟩, .int .i64 a.s] 182)).alloc (.cells #[.int .i64 b.e, .string ⟨b.v.toArray⟩, .int .i64 b.s] 182)) from ((zu1 _ _).alloc (zu0 _) _).alloc (by simp) _)
 have HM := zuy hm
 have HN := zuy hn
 clear hm hn
 unfold ecV
 rcases ha with rfl | rfl | ⟨⟨x, p⟩, hx, rfl⟩ <;> rcases hb with rfl | rfl | ⟨⟨y, q⟩, hy, rfl⟩
 rotate_right
 ·have HX := zuy (show V.valid n x = true from hx)
  have HY := zuy (show V.valid n y = true from hy)
  clear hx hy
  unfold V.eat at HB HZ ⊢
  simp only at HB HZ ⊢
  obtain ⟨sp, hsp⟩ : ∃ sp : Int, sp = if p then 1 else 0 := ⟨_, rfl⟩
  obtain ⟨sq, hsq⟩ : ∃ sq : Int, sq = if q then 1 else 0 := ⟨_, rfl⟩
  have hsp1 : 0 ≤ sp /\ sp ≤ 1 := by rw [hsp]; cases p <;> simp
  have hsq1 : 0 ≤ sq /\ sq ≤ 1 := by rw [hsq]; cases q <;> simp
  obtain ⟨hsp1, hsp2⟩ := hsp1
  obtain ⟨hsq1, hsq2⟩ := hsq1
  rw [← hsp, ← hsq] at HB HZ ⊢
  clear hsp hsq
  have HM0 := zuy (HM.out.below HB.out)
  obtain ⟨z, hz⟩ : ∃ z, V.cmpV n x y = z := ⟨_, rfl⟩
  rw [hz] at HZ
  have HC := zuy hz
  clear hz
  have e1 : ((w.alloc (.cells #[.int .i64 0, .string ⟨x.toArray⟩, .int .i64 sp] 182)).alloc (.cells #[.int .i64 0, .string ⟨y.toArray⟩, .int .i64 sq] 182)).cell? ⟨w.heap.size, 2, none⟩ = some (.int .i64 sp) := by simp [zc]
  have e2 : ((w.alloc (.cells #[.int .i64 0, .string ⟨x.toArray⟩, .int .i64 sp] 182)).alloc (.cells #[.int .i64 0, .string ⟨y.toArray⟩, .int .i64 sq] 182)).cell? ⟨w.heap.size + 1, 2, none⟩ = some (.int .i64 sq) := by simp [zc]
  have hw := zr3 n ⟨x.toArray⟩ ⟨y.toArray⟩ ((w.alloc (.cells #[.int .i64 0, .string ⟨x.toArray⟩, .int .i64 sp] 182)).alloc (.cells #[.int .i64 0, .string ⟨y.toArray⟩, .int .i64 sq] 182)) HM0.out HN.out (by rw [zad]; exact HX.out) (by rw [zad]; exact HY.out)
  rw [zad, zad, HC.out] at hw
  have HW := zuy hw
  have HE := zuy (And.intro e1 e2)
  clear hw e1 e2
  go_enter Tryz.func144, Tryz.ntmps144
  go_wp2_with fail
  refine HW.out.mono ?_
  rintro e w1 ⟨rfl, hb1⟩
  have c1 := (hb1.cell (p := ⟨w.heap.size, 2, none⟩) (by simp; omega)).trans HE.out.1
  have c2 := (hb1.cell (p := ⟨w.heap.size + 1, 2, none⟩) (by simp)).trans HE.out.2
  have HB1 := zuz HB hb1
  clear hb1
  by_cases h0 : z = 0
  ·subst h0
   have HF2 : Hid (V.ecmp n ⟨0, x, sp⟩ ⟨0, y, sq⟩ = sp - sq) := zuy (by rw [HZ.out]; simp)
   clear HZ
   go_wp2
   go_ret
   exact ⟨zn HF2.out.symm, HB1.out⟩
  ·have hz1 : (z != 0) = true := by simpa using h0
   have HF2 : Hid (V.ecmp n ⟨0, x, sp⟩ ⟨0, y, sq⟩ = z) := zuy (by
     rw [HZ.out, if_neg (by simp), if_pos h0])
   clear h0 HZ
   go_wp2
   go_ret
   exact ⟨zn HF2.out.symm, HB1.out⟩
 all_goals try (cases p)
 all_goals try (cases q)
 all_goals
  try unfold V.ebot at HB HZ ⊢
  try unfold V.etop at HB HZ ⊢
  try unfold V.eat at HB HZ ⊢
  simp only at HB HZ ⊢
  go_enter Tryz.func144, Tryz.ntmps144
  go_wp2
  go_ret
  exact ⟨zn (by unfold V.ecmp; simp), HB.out⟩
theorem zhh (n : Int) (v : V.Bs) (k : Int) (w : World) (hm : zg w) (hv : v.length ≤ maxLen) :
  Calls Tryz.prog 143 #[.int .i64 n, .int .i64 k, .string ⟨v.toArray⟩] w fun e w' => e = .returned (.bool (V.jh n v k)) /\ Below w.heap.size w w' := by
 have HF : Hid (V.jh n v k = if k = 0 then v.isEmpty else (decide (k = 1) || decide (k = 2)) && V.valid n v) := rfl
 by_cases h0 : k = 0
 ·subst h0
  rw [if_pos rfl] at HF
  by_cases hv0 : v = []
  ·subst hv0
   go_enter Tryz.func143, Tryz.ntmps143
   go_wp2
   go_ret
   exact ⟨rfl, zu1 _ _⟩
  ·have HFE : Hid (V.jh n v 0 = false) := zuy (by rw [HF.out]; simpa using hv0)
   have hne : ¬ v = [] := hv0
   clear hv0 HF
   go_enter Tryz.func143, Tryz.ntmps143
   go_wp2
   go_ret
   exact ⟨zd (by rw [HFE.out]; simpa using hne), zu1 _ _⟩
 ·rw [if_neg h0] at HF
  have b0 : (k == 0) = false := by simpa using h0
  by_cases h12 : k = 1 ∨ k = 2
  ·have HF2 : Hid (V.jh n v k = V.valid n v) := zuy (by rw [HF.out]; rcases h12 with h | h <;> simp [h])
   have HM := zuy hm
   clear HF hm
   rcases h12 with rfl | rfl
   all_goals
    go_enter Tryz.func143, Tryz.ntmps143
    go_wp2_with fail
    refine (za8 n ⟨v.toArray⟩ _ HM.out hv).mono ?_
    rintro e w1 ⟨rfl, hb1⟩
    rw [zad]
    have HB1 := zuy hb1
    clear hb1
    go_wp2
    go_ret
    exact ⟨zd HF2.out.symm, HB1.out⟩
  ·have b1 : (k == 1) = false := by simpa using fun h => h12 (.inl h)
   have b2 : (k == 2) = false := by simpa using fun h => h12 (.inr h)
   have HF2 : Hid (V.jh n v k = false) := zuy (by rw [HF.out, decide_eq_false (fun h => h12 (.inl h)), decide_eq_false (fun h => h12 (.inr h))]; rfl)
   clear HF h12 h0
   go_enter Tryz.func143, Tryz.ntmps143
   go_wp2
   go_ret
   exact ⟨zd HF2.out.symm, zu1 _ _⟩
end Go.Proofs.YtnhfaincdabdkaaGreatDoor
